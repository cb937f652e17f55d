/- strconv.ParseUint at base 10 and at base 16, 64 bits, of one to seven bytes: the number, or an error. -/
import Derived.Test.YtagbehhggpepfaaGreatDoorLaw
import Derived.Test.YtagbehhggpepfaaGreatDoorShelf
import Derived.Lib.ConvBytes
import Derived.Lib.Hide
import Derived.Laws.Strings3
import Derived.Laws.Closers25
import Derived.Laws.Closers25b
import Derived.WalkKit
import Derived.BigCall
import Derived.BigGuard
set_option linter.unusedVariables false
set_option linter.unusedSimpArgs false
namespace Go.Proofs.YtagbehhggpepfaaGreatDoor.Num
open Go.RowKit Go.Proofs.YtagbehhggpepfaaGreatDoor.Ent

def numTuple (r : Option Nat) : Value :=
  match r with
  | some n => .tuple #[.int .u64 (n : Int), .nilIface]
  | none => .tuple #[.int .u64 0, .iface 113 (.int .i64 2)]

theorem or_low (c : UInt8) : Go.bits .or .u8 (c.toNat : Int) 32 = ((c ||| 32).toNat : Int) := by
  have key : ∀ n : Nat, n < 256 → Go.bits .or .u8 (n : Int) 32 = ((UInt8.ofNat n ||| 32).toNat : Int) := by decide +kernel
  have := key c.toNat c.toNat_lt
  rwa [UInt8.ofNat_toNat] at this

theorem low_cases (c : UInt8) : (97 ≤ c.toNat → c.toNat ≤ 122 → (c ||| 32).toNat = c.toNat) ∧ (65 ≤ c.toNat → c.toNat ≤ 90 → (c ||| 32).toNat = c.toNat + 32) ∧
    (97 ≤ (c ||| 32).toNat → (c ||| 32).toNat ≤ 122 → (97 ≤ c.toNat ∧ c.toNat ≤ 122) ∨ (65 ≤ c.toNat ∧ c.toNat ≤ 90)) := by
  have key : ∀ n : Nat, n < 256 → (97 ≤ n → n ≤ 122 → (UInt8.ofNat n ||| 32).toNat = n) ∧ (65 ≤ n → n ≤ 90 → (UInt8.ofNat n ||| 32).toNat = n + 32) ∧
    (97 ≤ (UInt8.ofNat n ||| 32).toNat → (UInt8.ofNat n ||| 32).toNat ≤ 122 → (97 ≤ n ∧ n ≤ 122) ∨ (65 ≤ n ∧ n ≤ 90)) := by decide +kernel
  have := key c.toNat c.toNat_lt
  rwa [UInt8.ofNat_toNat] at this

theorem lower (c : UInt8) (u : Int) (hu : u = ((c ||| 32).toNat : Int)) (w : World) :
    Calls Tryz.prog 85 #[.int .u8 (c.toNat : Int)] w fun e w' => e = .returned (.int .u8 u) ∧ w = w' := by
  subst hu
  rw [← or_low]
  refine (Tryz.internal_strconv_lower _ _).mono ?_
  rintro e w' ⟨rfl, rfl⟩
  exact ⟨rfl, rfl⟩

/-- What a byte is as a digit. -/
theorem hexv_digit {c : UInt8} (h0 : 48 ≤ c.toNat) (h1 : c.toNat ≤ 57) : hexv c = some (c.toNat - 48) := by simp [hexv, h0, h1]
theorem hexv_letter {c : UInt8} (h : 97 ≤ (c ||| 32).toNat) (h1 : (c ||| 32).toNat ≤ 102) : hexv c = some ((c ||| 32).toNat - 87) := by
  obtain ⟨k1, k2, k3⟩ := low_cases c
  unfold hexv
  rcases k3 h (by omega) with ⟨a, b⟩ | ⟨a, b⟩
  · have e := k1 a b
    rw [if_neg (by omega), if_neg (by omega), if_pos (by omega), e]
  · have e := k2 a b
    rw [if_neg (by omega), if_pos (by omega), e]
    congr 1
theorem hexv_other {c : UInt8} (h0 : ¬ (48 ≤ c.toNat ∧ c.toNat ≤ 57)) (h : ¬ (97 ≤ (c ||| 32).toNat ∧ (c ||| 32).toNat ≤ 102)) : hexv c = none := by
  obtain ⟨k1, k2, k3⟩ := low_cases c
  unfold hexv
  rw [if_neg h0]
  by_cases a : 65 ≤ c.toNat ∧ c.toNat ≤ 70
  · have := k2 a.1 (by omega); omega
  · rw [if_neg a]
    by_cases b : 97 ≤ c.toNat ∧ c.toNat ≤ 102
    · have := k1 b.1 (by omega); omega
    · rw [if_neg b]

theorem pow_bound {acc k d b : Nat} (h : acc < 16 ^ k) (hd : d < b) (hb : b ≤ 16) : acc * b + d < 16 ^ (k + 1) := by
  rw [Nat.pow_succ]
  have h1 : acc * b ≤ acc * 16 := Nat.mul_le_mul_left _ hb
  have h2 : (acc + 1) * 16 ≤ 16 ^ k * 16 := Nat.mul_le_mul_right _ h
  omega
theorem pow_le {acc k : Nat} (h : acc < 16 ^ k) (hk : k ≤ 6) : acc < 16777216 := Nat.lt_of_lt_of_le h (Nat.le_trans (Nat.pow_le_pow_right (by decide) hk) (by decide))
theorem numB_stop {base acc : Nat} {c : UInt8} {r : Bs} (h : hexv c = none) : numB base acc (c :: r) = none := by rw [numB, h]
theorem numB_big {base acc d : Nat} {c : UInt8} {r : Bs} (h : hexv c = some d) (hd : ¬ d < base) : numB base acc (c :: r) = none := by rw [numB, h]; simp [hd]
theorem numB_go {base acc d : Nat} {c : UInt8} {r : Bs} (h : hexv c = some d) (hd : d < base) : numB base acc (c :: r) = numB base (acc * base + d) r := by rw [numB, h]; simp [hd]

set_option maxHeartbeats 32000000 in
set_option maxRecDepth 100000 in
theorem inner10 (t : ByteArray) (hne : t.size ≠ 0) (hmax : t.size ≤ 7) (w : World) :
    Calls Tryz.prog 65 #[.string t, .int .i64 10, .int .i64 64] w fun e w' => e = .returned (numTuple (numB 10 0 t.data.toList)) ∧ w' = Lib.bytesWorld w 5 t := by
  have hemp : t.toList.isEmpty = false := by
    rw [← decide_eq_emptyBytes]
    exact decide_eq_false (fun h => hne (by rw [h]; rfl))
  have hcv := Lib.run_convert_string_bytes (P := Tryz.prog) w 9 29 5 t (u := .string) Tryz.underlying9 Tryz.underlying29 Tryz.underlying5
  have hB : ∀ j, j < t.size → (Lib.bytesWorld w 5 t).cell? ⟨w.heap.size, j, none⟩ = some (.int .u8 (t.data.toList.getD j 0).toNat) := fun j hj => Lib.bytesWorld_cell w 5 t j hj
  obtain ⟨W1, hW1⟩ : ∃ W1, W1 = Lib.bytesWorld w 5 t := ⟨_, rfl⟩
  rw [← hW1] at hcv hB ⊢
  clear hW1
  obtain ⟨bs, hL⟩ : ∃ bs, bs = t.data.toList := ⟨_, rfl⟩
  have hLn : bs.length = t.size := by rw [hL]; exact Array.length_toList
  rw [← hL] at hB ⊢
  clear hL
  have hmv : IntKind.u64.wrap (IntKind.u64.wrap 18446744073709551616 - 1) = 18446744073709551615 := by
    rw [IntKind.wrap_u64, IntKind.wrap_u64]
    decide
  go_enter Tryz.func65, Tryz.ntmps65
  go_wp2
  go_loop [12, 13, 101] (fun vu vn vi => ∃ (k acc : Nat) (a : Int), vu = .bool false ∧ vn = .int .u64 a ∧ vi = .int .i64 k ∧ k ≤ t.size ∧ Hid (a = (acc : Int) ∧ acc < 16 ^ k ∧ numB 10 0 bs = numB 10 acc (bs.drop k)))
    (fun _ _ vi => t.size - (intOf vi).toNat)
  case atStart => exact ⟨0, 0, 0, rfl, rfl, rfl, by omega, rfl, by decide, rfl⟩
  case round =>
    obtain ⟨k, acc, a, rfl, rfl, rfl, hk, hh⟩ := hrel
    obtain ⟨ha, hacc, hdec⟩ := hh.out
    clear hh
    have a0 : 0 ≤ a := by omega
    by_cases hkn : k < t.size
    · have a1 : a < 16777216 := by have := pow_le hacc (by omega); omega
      have hc := hB k hkn
      have hdrop : bs.drop k = bs[k]'(by omega) :: bs.drop (k + 1) := List.drop_eq_getElem_cons (by omega)
      have hget : bs.getD k 0 = bs[k]'(by omega) := by simp [List.getD, List.getElem?_eq_getElem (show k < bs.length by omega)]
      rw [hdrop] at hdec
      rw [hget] at hc
      generalize bs[k]'(by omega) = c at hc hdec
      have hc256 : c.toNat < 256 := c.toNat_lt
      clear hB hdrop hget
      by_cases hdig : 48 ≤ c.toNat ∧ c.toNat ≤ 57
      · obtain ⟨hd0, hd1⟩ := hdig
        have hF := numB_go (base := 10) (acc := acc) (r := bs.drop (k + 1)) (hexv_digit hd0 hd1) (by omega)
        have HN : Hid (a * 10 + ((c.toNat : Int) - 48) = ((acc * 10 + (c.toNat - 48) : Nat) : Int) ∧ acc * 10 + (c.toNat - 48) < 16 ^ (k + 1) ∧ numB 10 0 bs = numB 10 (acc * 10 + (c.toNat - 48)) (bs.drop (k + 1))) := Lib.hid ⟨by omega, pow_bound (b := 10) hacc (by omega) (by decide), hdec.trans hF⟩
        clear hF hdec ha hacc
        go_wp2
        refine ⟨⟨k + 1, acc * 10 + (c.toNat - 48), a * 10 + ((c.toNat : Int) - 48), rfl, (by first | rfl | (congr 1; omega)), (by first | rfl | (congr 1; omega)), by omega, HN⟩, by simp [intOf]; omega⟩
      · -- no digit of ten
        by_cases hlet : 97 ≤ (c ||| 32).toNat ∧ (c ||| 32).toNat ≤ 102
        · obtain ⟨hd0, hd1⟩ := hlet
          have hhx := hexv_letter hd0 hd1
          obtain ⟨u, hu⟩ : ∃ u : Int, u = ((c ||| 32).toNat : Int) := ⟨_, rfl⟩
          have u0 : 97 ≤ u := by omega
          have u1 : u ≤ 102 := by omega
          have HLOW := Lib.hid (fun (wx : World) => lower c u hu wx)
          have hcl : 65 ≤ c.toNat := by rcases (low_cases c).2.2 hd0 (by omega) with h | h <;> omega
          have hnd : ¬ ((c.toNat : Int) ≤ 57) := by omega
          have hn95 : ¬ ((c.toNat : Int) = 95) := by
            rcases (low_cases c).2.2 hd0 (by omega) with h | h <;> omega
          have hn95' : ((c.toNat : Int) == 95) = false := beq_eq_false_iff_ne.2 hn95
          have hF := numB_big (base := 10) (acc := acc) (r := bs.drop (k + 1)) hhx (by omega)
          rw [hF] at hdec
          clear hF ha hacc hu hhx hd0 hd1 hn95
          go_wp2_with (go_at_call 85; refine (HLOW.out _).mono ?_; rintro e w' ⟨rfl, rfl⟩)
          all_goals go_ret2
          all_goals first | exact ⟨rfl, rfl⟩ | exact ⟨by rw [hdec]; rfl, rfl⟩
        · have hF := numB_stop (base := 10) (acc := acc) (r := bs.drop (k + 1)) (hexv_other hdig hlet)
          rw [hF] at hdec
          obtain ⟨u, hu⟩ : ∃ u : Int, u = ((c ||| 32).toNat : Int) := ⟨_, rfl⟩
          have u256 : (c ||| 32).toNat < 256 := (c ||| 32).toNat_lt
          have u0 : 0 ≤ u := by omega
          have u1 : u ≤ 255 := by omega
          have HLOW := Lib.hid (fun (wx : World) => lower c u hu wx)
          by_cases hup : 97 ≤ u ∧ u ≤ 122
          · obtain ⟨hx0, hx1⟩ := hup
            have hx2 : 103 ≤ u := by omega
            have hnd : 65 ≤ c.toNat := by rcases (low_cases c).2.2 (by omega) (by omega) with h | h <;> omega
            have hnd' : ¬ ((c.toNat : Int) ≤ 57) := by omega
            have hn95' : ((c.toNat : Int) == 95) = false := by
              refine beq_eq_false_iff_ne.2 ?_
              rcases (low_cases c).2.2 (by omega) (by omega) with h | h <;> omega
            clear hF ha hacc hu hlet u256
            go_wp2_with (go_at_call 85; refine (HLOW.out _).mono ?_; rintro e w' ⟨rfl, rfl⟩)
            all_goals go_ret2
            all_goals first | exact ⟨rfl, rfl⟩ | exact ⟨by rw [hdec]; rfl, rfl⟩
          · have hux : u < 97 ∨ 122 < u := by omega
            by_cases h95 : c = 95
            · subst h95
              have HL := Lib.hid (fun (wx : World) => (show Calls Tryz.prog 85 #[.int .u8 95] wx fun e w' => e = .returned (.int .u8 127) ∧ wx = w' from lower 95 127 (by decide) wx))
              clear hF ha hacc hu hlet u256 hup HLOW
              go_wp2_with (go_at_call 85; refine (HL.out _).mono ?_; rintro e w' ⟨rfl, rfl⟩)
              all_goals go_ret2
              all_goals first | exact ⟨rfl, rfl⟩ | exact ⟨by rw [hdec]; rfl, rfl⟩
            have hn95' : ((c.toNat : Int) == 95) = false := by
              refine beq_eq_false_iff_ne.2 (fun h => h95 ?_)
              have : c.toNat = (95 : UInt8).toNat := by show c.toNat = 95; omega
              exact UInt8.toNat_inj.1 this
            clear hF ha hacc hu hlet u256 hup h95
            rcases hux with hux | hux
            all_goals
              go_wp2_with (go_at_call 85; refine (HLOW.out _).mono ?_; rintro e w' ⟨rfl, rfl⟩)
              all_goals go_ret2
              all_goals first | exact ⟨rfl, rfl⟩ | exact ⟨by rw [hdec]; rfl, rfl⟩
    · have hkk : k = t.size := by omega
      subst hkk
      have hF : numB 10 acc (bs.drop t.size) = some acc := by rw [List.drop_eq_nil_of_le (by omega)]; rfl
      rw [hF] at hdec
      subst ha
      clear hacc hF a0
      go_wp2
      go_ret2
      first | exact ⟨rfl, rfl⟩ | exact ⟨by rw [hdec]; rfl, rfl⟩

set_option maxHeartbeats 32000000 in
set_option maxRecDepth 100000 in
theorem inner16 (t : ByteArray) (hne : t.size ≠ 0) (hmax : t.size ≤ 7) (w : World) :
    Calls Tryz.prog 65 #[.string t, .int .i64 16, .int .i64 64] w fun e w' => e = .returned (numTuple (numB 16 0 t.data.toList)) ∧ w' = Lib.bytesWorld w 5 t := by
  have hemp : t.toList.isEmpty = false := by
    rw [← decide_eq_emptyBytes]
    exact decide_eq_false (fun h => hne (by rw [h]; rfl))
  have hcv := Lib.run_convert_string_bytes (P := Tryz.prog) w 9 29 5 t (u := .string) Tryz.underlying9 Tryz.underlying29 Tryz.underlying5
  have hB : ∀ j, j < t.size → (Lib.bytesWorld w 5 t).cell? ⟨w.heap.size, j, none⟩ = some (.int .u8 (t.data.toList.getD j 0).toNat) := fun j hj => Lib.bytesWorld_cell w 5 t j hj
  obtain ⟨W1, hW1⟩ : ∃ W1, W1 = Lib.bytesWorld w 5 t := ⟨_, rfl⟩
  rw [← hW1] at hcv hB ⊢
  clear hW1
  obtain ⟨bs, hL⟩ : ∃ bs, bs = t.data.toList := ⟨_, rfl⟩
  have hLn : bs.length = t.size := by rw [hL]; exact Array.length_toList
  rw [← hL] at hB ⊢
  clear hL
  have hmv : IntKind.u64.wrap (IntKind.u64.wrap 18446744073709551616 - 1) = 18446744073709551615 := by
    rw [IntKind.wrap_u64, IntKind.wrap_u64]
    decide
  go_enter Tryz.func65, Tryz.ntmps65
  go_wp2
  go_loop [12, 13, 101] (fun vu vn vi => ∃ (k acc : Nat) (a : Int), vu = .bool false ∧ vn = .int .u64 a ∧ vi = .int .i64 k ∧ k ≤ t.size ∧ Hid (a = (acc : Int) ∧ acc < 16 ^ k ∧ numB 16 0 bs = numB 16 acc (bs.drop k)))
    (fun _ _ vi => t.size - (intOf vi).toNat)
  case atStart => exact ⟨0, 0, 0, rfl, rfl, rfl, by omega, rfl, by decide, rfl⟩
  case round =>
    obtain ⟨k, acc, a, rfl, rfl, rfl, hk, hh⟩ := hrel
    obtain ⟨ha, hacc, hdec⟩ := hh.out
    clear hh
    have a0 : 0 ≤ a := by omega
    by_cases hkn : k < t.size
    · have a1 : a < 16777216 := by have := pow_le hacc (by omega); omega
      have hc := hB k hkn
      have hdrop : bs.drop k = bs[k]'(by omega) :: bs.drop (k + 1) := List.drop_eq_getElem_cons (by omega)
      have hget : bs.getD k 0 = bs[k]'(by omega) := by simp [List.getD, List.getElem?_eq_getElem (show k < bs.length by omega)]
      rw [hdrop] at hdec
      rw [hget] at hc
      generalize bs[k]'(by omega) = c at hc hdec
      have hc256 : c.toNat < 256 := c.toNat_lt
      clear hB hdrop hget
      by_cases hdig : 48 ≤ c.toNat ∧ c.toNat ≤ 57
      · obtain ⟨hd0, hd1⟩ := hdig
        have hF := numB_go (base := 16) (acc := acc) (r := bs.drop (k + 1)) (hexv_digit hd0 hd1) (by omega)
        have HN : Hid (a * 16 + ((c.toNat : Int) - 48) = ((acc * 16 + (c.toNat - 48) : Nat) : Int) ∧ acc * 16 + (c.toNat - 48) < 16 ^ (k + 1) ∧ numB 16 0 bs = numB 16 (acc * 16 + (c.toNat - 48)) (bs.drop (k + 1))) := Lib.hid ⟨by omega, pow_bound (b := 16) hacc (by omega) (by decide), hdec.trans hF⟩
        clear hF hdec ha hacc
        go_wp2
        refine ⟨⟨k + 1, acc * 16 + (c.toNat - 48), a * 16 + ((c.toNat : Int) - 48), rfl, (by first | rfl | (congr 1; omega)), (by first | rfl | (congr 1; omega)), by omega, HN⟩, by simp [intOf]; omega⟩
      · -- no digit of ten
        by_cases hlet : 97 ≤ (c ||| 32).toNat ∧ (c ||| 32).toNat ≤ 102
        · obtain ⟨hd0, hd1⟩ := hlet
          have hhx := hexv_letter hd0 hd1
          obtain ⟨u, hu⟩ : ∃ u : Int, u = ((c ||| 32).toNat : Int) := ⟨_, rfl⟩
          have u0 : 97 ≤ u := by omega
          have u1 : u ≤ 102 := by omega
          have HLOW := Lib.hid (fun (wx : World) => lower c u hu wx)
          have hcl : 65 ≤ c.toNat := by rcases (low_cases c).2.2 hd0 (by omega) with h | h <;> omega
          have hnd : ¬ ((c.toNat : Int) ≤ 57) := by omega
          have hn95 : ¬ ((c.toNat : Int) = 95) := by
            rcases (low_cases c).2.2 hd0 (by omega) with h | h <;> omega
          have hn95' : ((c.toNat : Int) == 95) = false := beq_eq_false_iff_ne.2 hn95
          have hF := numB_go (base := 16) (acc := acc) (r := bs.drop (k + 1)) hhx (by omega)
          have HN : Hid (a * 16 + (u - 97 + 10) = ((acc * 16 + ((c ||| 32).toNat - 87) : Nat) : Int) ∧ acc * 16 + ((c ||| 32).toNat - 87) < 16 ^ (k + 1) ∧ numB 16 0 bs = numB 16 (acc * 16 + ((c ||| 32).toNat - 87)) (bs.drop (k + 1))) := Lib.hid ⟨by omega, pow_bound hacc (by omega) (by decide), hdec.trans hF⟩
          clear hF hdec ha hacc hu hhx hd0 hd1 hn95
          go_wp2_with (go_at_call 85; refine (HLOW.out _).mono ?_; rintro e w' ⟨rfl, rfl⟩)
          all_goals exact ⟨⟨k + 1, acc * 16 + ((c ||| 32).toNat - 87), a * 16 + (u - 97 + 10), rfl, (by first | rfl | (congr 1; omega)), (by first | rfl | (congr 1; omega)), by omega, HN⟩, by simp [intOf]; omega⟩
        · have hF := numB_stop (base := 16) (acc := acc) (r := bs.drop (k + 1)) (hexv_other hdig hlet)
          rw [hF] at hdec
          obtain ⟨u, hu⟩ : ∃ u : Int, u = ((c ||| 32).toNat : Int) := ⟨_, rfl⟩
          have u256 : (c ||| 32).toNat < 256 := (c ||| 32).toNat_lt
          have u0 : 0 ≤ u := by omega
          have u1 : u ≤ 255 := by omega
          have HLOW := Lib.hid (fun (wx : World) => lower c u hu wx)
          by_cases hup : 97 ≤ u ∧ u ≤ 122
          · obtain ⟨hx0, hx1⟩ := hup
            have hx2 : 103 ≤ u := by omega
            have hnd : 65 ≤ c.toNat := by rcases (low_cases c).2.2 (by omega) (by omega) with h | h <;> omega
            have hnd' : ¬ ((c.toNat : Int) ≤ 57) := by omega
            have hn95' : ((c.toNat : Int) == 95) = false := by
              refine beq_eq_false_iff_ne.2 ?_
              rcases (low_cases c).2.2 (by omega) (by omega) with h | h <;> omega
            clear hF ha hacc hu hlet u256
            go_wp2_with (go_at_call 85; refine (HLOW.out _).mono ?_; rintro e w' ⟨rfl, rfl⟩)
            all_goals go_ret2
            all_goals first | exact ⟨rfl, rfl⟩ | exact ⟨by rw [hdec]; rfl, rfl⟩
          · have hux : u < 97 ∨ 122 < u := by omega
            by_cases h95 : c = 95
            · subst h95
              have HL := Lib.hid (fun (wx : World) => (show Calls Tryz.prog 85 #[.int .u8 95] wx fun e w' => e = .returned (.int .u8 127) ∧ wx = w' from lower 95 127 (by decide) wx))
              clear hF ha hacc hu hlet u256 hup HLOW
              go_wp2_with (go_at_call 85; refine (HL.out _).mono ?_; rintro e w' ⟨rfl, rfl⟩)
              all_goals go_ret2
              all_goals first | exact ⟨rfl, rfl⟩ | exact ⟨by rw [hdec]; rfl, rfl⟩
            have hn95' : ((c.toNat : Int) == 95) = false := by
              refine beq_eq_false_iff_ne.2 (fun h => h95 ?_)
              have : c.toNat = (95 : UInt8).toNat := by show c.toNat = 95; omega
              exact UInt8.toNat_inj.1 this
            clear hF ha hacc hu hlet u256 hup h95
            rcases hux with hux | hux
            all_goals
              go_wp2_with (go_at_call 85; refine (HLOW.out _).mono ?_; rintro e w' ⟨rfl, rfl⟩)
              all_goals go_ret2
              all_goals first | exact ⟨rfl, rfl⟩ | exact ⟨by rw [hdec]; rfl, rfl⟩
    · have hkk : k = t.size := by omega
      subst hkk
      have hF : numB 16 acc (bs.drop t.size) = some acc := by rw [List.drop_eq_nil_of_le (by omega)]; rfl
      rw [hF] at hdec
      subst ha
      clear hacc hF a0
      go_wp2
      go_ret2
      first | exact ⟨rfl, rfl⟩ | exact ⟨by rw [hdec]; rfl, rfl⟩
end Go.Proofs.YtagbehhggpepfaaGreatDoor.Num
