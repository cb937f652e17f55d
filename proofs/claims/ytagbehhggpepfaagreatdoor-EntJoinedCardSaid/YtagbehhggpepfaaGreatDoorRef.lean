/- What the document's small functions of layer 12 come to: digits, names, a sign's bytes; and their contracts in these words. -/
import Derived.Test.YtagbehhggpepfaaGreatDoorLaw
import Derived.Test.YtagbehhggpepfaaGreatDoorGR1
import Derived.Test.YtagbehhggpepfaaGreatDoorGR2
set_option linter.unusedVariables false
set_option linter.unusedSimpArgs false
namespace Go.Proofs.YtagbehhggpepfaaGreatDoor.Ref
open Go.RowKit Go.Proofs.YtagbehhggpepfaaGreatDoor.Ent Go.Proofs.YtagbehhggpepfaaGreatDoor.GR Go.Proofs.YtagbehhggpepfaaGreatDoorW.PrintWords

abbrev lst (s : ByteArray) : Bs := s.data.toList
def str (l : Bs) : ByteArray := ⟨l.toArray⟩
theorem lst_str (l : Bs) : lst (str l) = l := by simp [lst, str]
theorem str_lst (s : ByteArray) : str (lst s) = s := by cases s; simp [lst, str]
theorem lst_length (s : ByteArray) : (lst s).length = s.size := Array.length_toList
theorem str_size (l : Bs) : (str l).size = l.length := by simp [str, ByteArray.size]
theorem toList_lst (s : ByteArray) : s.toList = lst s := Go.Lib.toList_data s
theorem bt_lst (s : ByteArray) (i : Nat) (h : i < (lst s).length) : bt s (i : Int) = (((lst s)[i]).toNat : Int) := by
  have h' : i < s.size := by rw [← lst_length]; exact h
  unfold bt
  rw [dif_pos (by simpa using h')]
  rfl

def optI (o : Option Nat) : Int := match o with | some n => (n : Int) | none => -1

theorem hex_f (c : UInt8) (k : Nat) (hk : 2 ≤ k) : muslinref02_Hex.f k (c.toNat : Int) = some (optI (hexv c)) := by
  obtain ⟨k, rfl⟩ : ∃ m, k = m + 2 := ⟨k - 2, by omega⟩
  have hc := c.toNat_lt
  unfold muslinref02_Hex.f hexv
  by_cases h0 : 48 ≤ c.toNat ∧ c.toNat ≤ 57
  · rw [if_pos (by omega), if_pos h0]
    simp only [muslinref02_Hex.j0]
    rw [if_pos (by simp; omega)]
    simp [optI]; omega
  · rw [if_neg h0]
    have hj0 : (if (c.toNat : Int) ≥ 48 then muslinref02_Hex.j0 (k + 2) (c.toNat : Int) (decide ((c.toNat : Int) ≤ 57)) else muslinref02_Hex.j0 (k + 2) (c.toNat : Int) false) = muslinref02_Hex.j0 (k + 2) (c.toNat : Int) false := by
      split
      · rw [show decide ((c.toNat : Int) ≤ 57) = false from decide_eq_false (by omega)]
      · rfl
    rw [hj0]
    simp only [muslinref02_Hex.j0]
    rw [if_neg (by simp)]
    by_cases h1 : 65 ≤ c.toNat ∧ c.toNat ≤ 70
    · rw [if_pos (by omega), if_pos h1]
      simp only [muslinref02_Hex.j1]
      rw [if_pos (by simp; omega)]
      simp [optI]; omega
    · rw [if_neg h1]
      have hj1 : (if (c.toNat : Int) ≥ 65 then muslinref02_Hex.j1 (k + 1) (c.toNat : Int) (decide ((c.toNat : Int) ≤ 70)) else muslinref02_Hex.j1 (k + 1) (c.toNat : Int) false) = muslinref02_Hex.j1 (k + 1) (c.toNat : Int) false := by
        split
        · rw [show decide ((c.toNat : Int) ≤ 70) = false from decide_eq_false (by omega)]
        · rfl
      rw [hj1]
      simp only [muslinref02_Hex.j1]
      rw [if_neg (by simp)]
      by_cases h2 : 97 ≤ c.toNat ∧ c.toNat ≤ 102
      · rw [if_pos (by omega), if_pos (by omega), if_pos h2]
        simp [optI]; omega
      · rw [if_neg h2]
        by_cases h3 : 97 ≤ c.toNat
        · rw [if_pos (by omega), if_neg (by omega)]; rfl
        · rw [if_neg (by omega)]; rfl

theorem hexv_lt {c : UInt8} {d : Nat} (h : hexv c = some d) : d < 16 := by
  unfold hexv at h
  split at h
  · cases h; omega
  · split at h
    · cases h; omega
    · split at h
      · cases h; omega
      · cases h

theorem pow_step {acc i d b : Nat} (h : acc < 16 ^ i) (hd : d < b) (hb : b ≤ 16) : acc * b + d < 16 ^ (i + 1) := by
  rw [Nat.pow_succ]
  have h1 : acc * b ≤ acc * 16 := Nat.mul_le_mul_left _ hb
  have h2 : (acc + 1) * 16 ≤ 16 ^ i * 16 := Nat.mul_le_mul_right _ h
  omega

theorem wr_step (n b v : Nat) (hn : n ≤ 16777216) (hb : b ≤ 16) (hv : v ≤ 16) : wrap64 ((wrap64 ((n : Int) * (b : Int))) + (v : Int)) = ((n * b + v : Nat) : Int) := by
  have h : n * b ≤ 16777216 * 16 := Nat.mul_le_mul hn hb
  rw [← Int.natCast_mul n b]
  generalize n * b = x at h
  unfold wrap64
  omega
theorem wr_next (i : Nat) (hi : i ≤ 7) : wrap64 ((i : Int) + 1) = ((i + 1 : Nat) : Int) := by unfold wrap64; omega
theorem digits_l0 (s : ByteArray) (b : Nat) (hb : b ≤ 16) (hs : s.size ≤ 7) (d : Nat) : ∀ (k i n : Nat), i ≤ s.size → s.size - i = d → d + 3 ≤ k → n < 16 ^ i →
    muslinref12_digits.l0 k s b n i = some (optI (numB b n ((lst s).drop i))) := by
  induction d with
  | zero =>
    intro k i n hi hd hk hn
    obtain ⟨k, rfl⟩ : ∃ m, k = m + 1 := ⟨k - 1, by omega⟩
    simp only [muslinref12_digits.l0]
    rw [if_neg (by omega), List.drop_eq_nil_of_le (by rw [lst_length]; omega)]
    rfl
  | succ d ih =>
    intro k i n hi hd hk hn
    obtain ⟨k, rfl⟩ : ∃ m, k = m + 1 := ⟨k - 1, by omega⟩
    have hlt : i < (lst s).length := by rw [lst_length]; omega
    have hn7 : n < 16777216 := Nat.lt_of_lt_of_le hn (Nat.le_trans (Nat.pow_le_pow_right (by decide) (show i ≤ 6 by omega)) (by decide))
    simp only [muslinref12_digits.l0]
    rw [if_pos (by omega), if_pos (by omega), bt_lst s i hlt, hex_f _ k (by omega), List.drop_eq_getElem_cons hlt]
    simp only [Option.bind_some]
    generalize ht : optI (hexv (lst s)[i]) = t
    cases hx : hexv (lst s)[i] with
    | none =>
      rw [hx] at ht
      have ht' : t = -1 := ht.symm
      rw [if_pos (by omega), numB, hx]
      rfl
    | some v =>
      have hv := hexv_lt hx
      rw [hx] at ht
      have ht' : t = (v : Int) := ht.symm
      subst ht'
      rw [if_neg (by omega), numB, hx]
      by_cases hvb : v < b
      · rw [if_neg (by omega)]
        simp only [hvb, if_true]
        rw [wr_step n b v (by omega) hb (by omega), wr_next i (by omega)]
        exact ih k (i + 1) (n * b + v) (by omega) (by omega) (by omega) (pow_step hn hvb hb)
      · rw [if_pos (by omega)]
        simp only [hvb, if_false]
        rfl

theorem digits_f (s : ByteArray) (b m : Nat) (hb : b ≤ 16) (hm : m ≤ 7) : ∃ k, muslinref12_digits.f k s b m = some (optI (digs b m (lst s))) := by
  have hl := lst_length s
  refine ⟨s.size + 10, ?_⟩
  unfold muslinref12_digits.f digs
  by_cases h0 : (s.size : Int) < 1
  · rw [if_pos h0]
    simp only [muslinref12_digits.j0, if_true]
    rw [if_pos (.inl (List.eq_nil_of_length_eq_zero (by omega)))]
    rfl
  · rw [if_neg h0]
    simp only [muslinref12_digits.j0]
    by_cases h1 : (s.size : Int) > m
    · rw [if_pos (by simpa using h1), if_pos (.inr (by omega))]
      rfl
    · have hne : ¬ (lst s = [] ∨ m < (lst s).length) := by
        rintro (h | h)
        · rw [h] at hl; simp at hl; omega
        · omega
      rw [if_neg (by simpa using h1), if_neg hne]
      have := digits_l0 s b hb (by omega) s.size (s.size + 9) 0 0 (by omega) (by omega) (by omega) (by decide)
      simpa using this

theorem strOfNums_eq (l : List Int) (m : Bs) (h : l.map (fun n => UInt8.ofNat n.toNat) = m) : strOfNums l = str m := by
  rw [← h]; rfl

theorem sign_f (n k : Nat) (hn : n < 4294967296) (hk : 1 ≤ k) : muslinref04_Sign.f k (n : Int) = some (str (Lib.encodeRune n)) := by
  obtain ⟨k, rfl⟩ : ∃ m, k = m + 1 := ⟨k - 1, by omega⟩
  unfold muslinref04_Sign.f
  rw [if_neg (by omega)]
  have dv : ∀ m : Nat, Int.tdiv (n : Int) (m : Int) = (n : Int) / (m : Int) := fun m => Int.tdiv_eq_ediv_of_nonneg (by omega)
  have md : ∀ m : Nat, Int.tmod (n : Int) (m : Int) = (n : Int) % (m : Int) := fun m => Int.tmod_eq_emod_of_nonneg (by omega)
  have w : ∀ x : Int, 0 ≤ x → x < 9223372036854775808 → wrap64 x = x := fun x h0 h1 => by unfold wrap64; omega
  by_cases hbig : (n : Int) > 1114111 ∨ (55296 ≤ (n : Int) ∧ (n : Int) ≤ 57343)
  · have e : (if (n : Int) > 1114111 then muslinref04_Sign.j0 (k + 1) (n : Int) true else if (n : Int) ≥ 55296 then muslinref04_Sign.j0 (k + 1) (n : Int) (decide ((n : Int) ≤ 57343)) else muslinref04_Sign.j0 (k + 1) (n : Int) false) = muslinref04_Sign.j0 (k + 1) (n : Int) true := by
      split
      · rfl
      · rw [if_pos (by omega), show decide ((n : Int) ≤ 57343) = true from decide_eq_true (by omega)]
    rw [e]
    simp only [muslinref04_Sign.j0, if_true]
    rw [show Lib.encodeRune (n : Int) = [239, 191, 189] by unfold Lib.encodeRune; rw [Lib.encodeRuneZ_bad (by omega)]; rfl]
    rfl
  · have e : (if (n : Int) > 1114111 then muslinref04_Sign.j0 (k + 1) (n : Int) true else if (n : Int) ≥ 55296 then muslinref04_Sign.j0 (k + 1) (n : Int) (decide ((n : Int) ≤ 57343)) else muslinref04_Sign.j0 (k + 1) (n : Int) false) = muslinref04_Sign.j0 (k + 1) (n : Int) false := by
      rw [if_neg (by omega)]
      split
      · rw [show decide ((n : Int) ≤ 57343) = false from decide_eq_false (by omega)]
      · rfl
    rw [e]
    simp only [muslinref04_Sign.j0]
    rw [if_neg (by simp)]
    have fin : ∀ (l l' : List Int), l = l' → Lib.encodeRuneZ (n : Int) = l' → some (strOfNums l) = some (str (Lib.encodeRune (n : Int))) := fun l l' h1 h2 => by
      unfold Lib.encodeRune
      rw [h2, h1]
      rfl
    have d64 := dv 64
    have d4096 := dv 4096
    have d262144 := dv 262144
    have m64 := md 64
    simp only [Int.cast_ofNat_Int] at d64 d4096 d262144 m64
    split
    · exact fin _ _ (by congr 1; omega) (Lib.encodeRuneZ_one (by omega) (by omega))
    · split
      · refine fin _ _ ?_ (Lib.encodeRuneZ_two (by omega) (by omega))
        rw [d64, m64, w ((n : Int) / 64) (by omega) (by omega), w (192 + (n : Int) / 64) (by omega) (by omega), w (128 + (n : Int) % 64) (by omega) (by omega)]
        rw [Int.emod_eq_of_lt (a := 192 + (n : Int) / 64) (by omega) (by omega), Int.emod_eq_of_lt (a := 128 + (n : Int) % 64) (by omega) (by omega)]
      · split
        · refine fin _ _ ?_ (Lib.encodeRuneZ_three (by omega))
          rw [d4096, d64, m64, w ((n : Int) / 4096) (by omega) (by omega), w ((n : Int) / 64) (by omega) (by omega)]
          have m2 : Int.tmod ((n : Int) / 64) 64 = ((n : Int) / 64) % 64 := Int.tmod_eq_emod_of_nonneg (by omega)
          rw [m2, w (224 + (n : Int) / 4096) (by omega) (by omega), w (128 + (n : Int) / 64 % 64) (by omega) (by omega), w (128 + (n : Int) % 64) (by omega) (by omega)]
          rw [Int.emod_eq_of_lt (a := 224 + (n : Int) / 4096) (by omega) (by omega), Int.emod_eq_of_lt (a := 128 + (n : Int) / 64 % 64) (by omega) (by omega), Int.emod_eq_of_lt (a := 128 + (n : Int) % 64) (by omega) (by omega)]
        · refine fin _ _ ?_ (Lib.encodeRuneZ_four (by omega) (by omega))
          rw [d262144, d4096, d64, m64, w ((n : Int) / 262144) (by omega) (by omega), w ((n : Int) / 4096) (by omega) (by omega), w ((n : Int) / 64) (by omega) (by omega)]
          have m2 : Int.tmod ((n : Int) / 64) 64 = ((n : Int) / 64) % 64 := Int.tmod_eq_emod_of_nonneg (by omega)
          have m3 : Int.tmod ((n : Int) / 4096) 64 = ((n : Int) / 4096) % 64 := Int.tmod_eq_emod_of_nonneg (by omega)
          rw [m2, m3, w (240 + (n : Int) / 262144) (by omega) (by omega), w (128 + (n : Int) / 4096 % 64) (by omega) (by omega), w (128 + (n : Int) / 64 % 64) (by omega) (by omega), w (128 + (n : Int) % 64) (by omega) (by omega)]
          rw [Int.emod_eq_of_lt (a := 240 + (n : Int) / 262144) (by omega) (by omega), Int.emod_eq_of_lt (a := 128 + (n : Int) / 4096 % 64) (by omega) (by omega), Int.emod_eq_of_lt (a := 128 + (n : Int) / 64 % 64) (by omega) (by omega), Int.emod_eq_of_lt (a := 128 + (n : Int) % 64) (by omega) (by omega)]

theorem named_f (s : ByteArray) : muslinref12_named.f 1 s = some (match named (lst s) with | some t => str t | none => ⟨#[]⟩) := by
  unfold muslinref12_named.f
  rw [toList_lst]
  have sf : ∀ n : Nat, n < 4294967296 → (muslinref04_Sign.f 1 (n : Int)) = some (str (Lib.encodeRune n)) := fun n h => sign_f n 1 h (Nat.le_refl _)
  generalize lst s = l
  have s160 := sf 160 (by decide)
  have s169 := sf 169 (by decide)
  have s174 := sf 174 (by decide)
  have s8230 := sf 8230 (by decide)
  have s8211 := sf 8211 (by decide)
  have s8212 := sf 8212 (by decide)
  have s8364 := sf 8364 (by decide)
  have s8216 := sf 8216 (by decide)
  have s8217 := sf 8217 (by decide)
  have s8220 := sf 8220 (by decide)
  have s8221 := sf 8221 (by decide)
  clear sf
  simp only [Int.cast_ofNat_Int] at s160 s169 s174 s8230 s8211 s8212 s8364 s8216 s8217 s8220 s8221
  simp only [s160, s169, s174, s8230, s8211, s8212, s8364, s8216, s8217, s8220, s8221, Option.bind_some]
  by_cases h : ∃ v, names.lookup l = some v
  · obtain ⟨v, hv⟩ := h
    have hm := lookup_mem hv
    revert hm hv
    unfold names
    simp only [List.mem_cons, Prod.mk.injEq, List.not_mem_nil, or_false]
    intro _ hm
    rcases hm with ⟨rfl, _⟩ | ⟨rfl, _⟩ | ⟨rfl, _⟩ | ⟨rfl, _⟩ | ⟨rfl, _⟩ | ⟨rfl, _⟩ | ⟨rfl, _⟩ | ⟨rfl, _⟩ | ⟨rfl, _⟩ | ⟨rfl, _⟩ | ⟨rfl, _⟩ | ⟨rfl, _⟩ | ⟨rfl, _⟩ | ⟨rfl, _⟩ | ⟨rfl, _⟩ | ⟨rfl, _⟩ <;> rfl
  · have hn : names.lookup l = none := by
      cases e : names.lookup l with
      | none => rfl
      | some v => exact absurd ⟨v, e⟩ h
    have hne : ∀ x : Bs, (names.lookup x).isSome = true → ¬ l = x := by
      rintro x hx rfl
      rw [hn] at hx
      cases hx
    unfold named
    rw [hn]
    repeat' first
      | exact (if_neg (hne _ rfl)).trans ?_
      | refine (if_neg (hne _ rfl)).trans ?_
    rfl
end Go.Proofs.YtagbehhggpepfaaGreatDoor.Ref
