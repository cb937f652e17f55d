/- The digits of a reference: the program's 'digits' tells the number of one to seven (at base 16: six) digits, or that they are none. What stands between a reference's signs: the program's 'sign'. -/
import Derived.Test.YtagbehhggpepfaaGreatDoorNum
import Derived.Test.YtagbehhggpepfaaGreatDoorRef
import Derived.Deep.QuietTactic
import Derived.BigQuiet
import Derived.RegionTactic
import Derived.WalkSpells
import Derived.Test.YtagbehhggpepfaaGreatDoorNumd2
set_option linter.unusedVariables false
set_option linter.unusedSimpArgs false
namespace Go.Proofs.YtagbehhggpepfaaGreatDoor.Dig
open Go.RowKit Go.Proofs.YtagbehhggpepfaaGreatDoor.Ent Go.Proofs.YtagbehhggpepfaaGreatDoor.Ref Go.Proofs.YtagbehhggpepfaaGreatDoor.Num

/-- The library's variable ErrSyntax holds an error. -/
def ErrAt (w : World) : Prop := ∃ ev, w.cell? ⟨5, 0, none⟩ = some ev ∧ (ev = .nilIface ∨ ∃ te pe, ev = .iface te pe)
theorem ErrAt.below {w W : World} (h : ErrAt w) (hb : Below w.heap.size w W) : ErrAt W := by
  obtain ⟨ev, h1, h2⟩ := h
  exact ⟨ev, (hb.cell (p := ⟨5, 0, none⟩) (World.block_lt_of_cell? w _ h1)).trans h1, h2⟩

theorem below_bytes (w : World) (e : TypeId) (t : ByteArray) : Below w.heap.size w (Lib.bytesWorld w e t) :=
  ⟨rfl, rfl, rfl, by rw [Lib.bytesWorld_size]; omega, fun k hk => Lib.bytesWorld_at_old w e t k hk⟩
theorem below_drewN {B : Nat} {a w : World} (h : Below B a w) (n : Nat) : Below B a (w.drewN n) := h.trans ⟨rfl, rfl, rfl, Nat.le_refl _, fun _ _ => rfl⟩
theorem below_trans {w w1 w2 : World} (h : Below w.heap.size w w1) (k : Below w1.heap.size w1 w2) : Below w.heap.size w w2 := h.trans (k.mono h.size)

theorem inner (b : Nat) (hb : b = 10 ∨ b = 16) (t : ByteArray) (hne : t.size ≠ 0) (hmax : t.size ≤ 7) (w : World) :
    Calls Tryz.prog 65 #[.string t, .int .i64 (b : Int), .int .i64 64] w fun e w' => e = .returned (numTuple (numB b 0 (lst t))) ∧ Below w.heap.size w w' := by
  rcases hb with rfl | rfl
  · refine (inner10 t hne hmax w).mono ?_
    rintro e w' ⟨rfl, rfl⟩
    exact ⟨rfl, below_bytes _ _ _⟩
  · refine (inner16 t hne hmax w).mono ?_
    rintro e w' ⟨rfl, rfl⟩
    exact ⟨rfl, below_bytes _ _ _⟩

set_option maxHeartbeats 1000000 in
theorem parse_some (b v : Int) (t : ByteArray) (w : World) (HI : Hid (Calls Tryz.prog 65 #[.string t, .int .i64 b, .int .i64 64] w fun e w' => e = .returned (.tuple #[.int .u64 v, .nilIface]) ∧ Below w.heap.size w w')) :
    Calls Tryz.prog 47 #[.string t, .int .i64 b, .int .i64 64] w fun e w' => e = .returned (.tuple #[.int .u64 v, .nilIface]) ∧ Below w.heap.size w w' := by
  go_enter Tryz.func47, Tryz.ntmps47
  go_wp2_with fail
  refine HI.out.mono ?_
  rintro e w1 ⟨rfl, hb⟩
  go_wp2
  go_ret2
  exact ⟨rfl, hb⟩

set_option maxHeartbeats 1000000 in
theorem parse_none (b : Int) (t : ByteArray) (w : World) (ht : t.size ≤ 7) (hE : ErrAt w) (HI : Hid (Calls Tryz.prog 65 #[.string t, .int .i64 b, .int .i64 64] w fun e w' => e = .returned (.tuple #[.int .u64 0, .iface 113 (.int .i64 2)]) ∧ Below w.heap.size w w')) :
    Calls Tryz.prog 47 #[.string t, .int .i64 b, .int .i64 64] w fun e w' => (∃ N, e = .returned (.tuple #[.int .u64 0, .iface 115 (.pointer (some ⟨N, 0, none⟩))])) ∧ Below w.heap.size w w' := by
  have HE := Lib.hid hE
  clear hE
  go_enter Tryz.func47, Tryz.ntmps47
  go_wp2_with fail
  refine HI.out.mono ?_
  rintro e w1 ⟨rfl, hb⟩
  obtain ⟨ev, hv, hev⟩ := HE.out.below hb
  have HV := Lib.hid hv
  have HEV := Lib.hid hev
  clear hv hev
  go_wp2_with fail
  refine (Tryz.strconv_toError_syntax _ t b 64 ev _ (by omega) HV.out HEV.out).mono ?_
  rintro e w2 ⟨N, rfl, _, _, hb2⟩
  go_wp2
  go_ret2
  exact ⟨⟨N, rfl⟩, below_trans hb hb2⟩

/-- What 'digits' hands back. -/
def back (r : Option Nat) : Value := match r with | some n => .tuple #[.int .i64 (n : Int), .bool true] | none => .tuple #[.int .i64 0, .bool false]

theorem numB_lt {B : Nat} (hB : B ≤ 16) : ∀ {l : Bs} {acc k n : Nat}, acc < 16 ^ k → numB B acc l = some n → n < 16 ^ (k + l.length)
  | [], acc, k, n, h, e => by cases e; exact h
  | c :: r, acc, k, n, h, e => by
    unfold numB at e
    split at e
    · rename_i d hd
      split at e
      · rename_i hdb
        have := numB_lt hB (Ref.pow_step h hdb hB) e
        rw [List.length_cons]
        rw [show k + (r.length + 1) = k + 1 + r.length by omega]
        exact this
      · cases e
    · cases e

set_option maxHeartbeats 1000000 in
theorem digits_no (b m : Int) (s : ByteArray) (w : World) (h : s.size = 0 ∨ m < s.size) :
    Calls Tryz.prog 36 #[.string s, .int .i64 b, .int .i64 m] w fun e w' => e = .returned (.tuple #[.int .i64 0, .bool false]) ∧ Below w.heap.size w w' := by
  by_cases h0 : s.size = 0
  · have h1 : (s.size : Int) < 1 := by omega
    clear h h0
    go_enter Tryz.func36, Tryz.ntmps36
    go_wp2
    go_ret2
    exact ⟨rfl, Below.refl _ _⟩
  · have h1 : ¬ (s.size : Int) < 1 := by omega
    have h2 : m < (s.size : Int) := by omega
    clear h h0
    go_enter Tryz.func36, Tryz.ntmps36
    go_wp2
    go_ret2
    exact ⟨rfl, Below.refl _ _⟩

set_option maxHeartbeats 1000000 in
theorem digits_sign (b m : Int) (s : ByteArray) (w : World) (c : UInt8) (h0 : 0 < s.size) (h1 : (s.size : Int) ≤ m) (hc : s[0] = c) (hs : c.toNat = 43 ∨ c.toNat = 45) :
    Calls Tryz.prog 36 #[.string s, .int .i64 b, .int .i64 m] w fun e w' => e = .returned (.tuple #[.int .i64 0, .bool false]) ∧ Below w.heap.size w w' := by
  have h2 : ¬ (s.size : Int) < 1 := by omega
  have h3 : ¬ m < (s.size : Int) := by omega
  rcases hs with hs | hs
  · have e1 : ((c.toNat : Int) == 43) = true := beq_iff_eq.2 (by omega)
    clear hs
    go_enter Tryz.func36, Tryz.ntmps36
    go_wp2
    go_ret2
    exact ⟨rfl, Below.refl _ _⟩
  · have e1 : ((c.toNat : Int) == 43) = false := beq_eq_false_iff_ne.2 (by omega)
    have e2 : ((c.toNat : Int) == 45) = true := beq_iff_eq.2 (by omega)
    clear hs
    go_enter Tryz.func36, Tryz.ntmps36
    go_wp2
    go_ret2
    exact ⟨rfl, Below.refl _ _⟩

set_option maxHeartbeats 1000000 in
theorem digits_some (b m v : Int) (s : ByteArray) (w : World) (c : UInt8) (h0 : 0 < s.size) (h1 : (s.size : Int) ≤ m) (hc : s[0] = c) (hs : ¬ c.toNat = 43) (hs2 : ¬ c.toNat = 45)
    (v0 : 0 ≤ v) (v1 : v < 268435456)
    (HI : Hid (Calls Tryz.prog 65 #[.string s, .int .i64 b, .int .i64 64] w fun e w' => e = .returned (.tuple #[.int .u64 v, .nilIface]) ∧ Below w.heap.size w w')) :
    Calls Tryz.prog 36 #[.string s, .int .i64 b, .int .i64 m] w fun e w' => e = .returned (.tuple #[.int .i64 v, .bool true]) ∧ Below w.heap.size w w' := by
  have h2 : ¬ (s.size : Int) < 1 := by omega
  have h3 : ¬ m < (s.size : Int) := by omega
  have e1 : ((c.toNat : Int) == 43) = false := beq_eq_false_iff_ne.2 (by omega)
  have e2 : ((c.toNat : Int) == 45) = false := beq_eq_false_iff_ne.2 (by omega)
  clear hs hs2
  have HP := Lib.hid (parse_some b v s w HI)
  clear HI
  go_enter Tryz.func36, Tryz.ntmps36
  go_wp2_with fail
  refine HP.out.mono ?_
  rintro e w1 ⟨rfl, hb⟩
  go_wp2_with fail
  go_quiet (fail)
  go_wp2
  go_ret2
  exact ⟨rfl, below_drewN hb _⟩

set_option maxHeartbeats 1000000 in
theorem digits_none (b m : Int) (s : ByteArray) (w : World) (c : UInt8) (h0 : 0 < s.size) (h1 : (s.size : Int) ≤ m) (hm : m ≤ 7) (hc : s[0] = c) (hs : ¬ c.toNat = 43) (hs2 : ¬ c.toNat = 45) (hE : ErrAt w)
    (HI : Hid (Calls Tryz.prog 65 #[.string s, .int .i64 b, .int .i64 64] w fun e w' => e = .returned (.tuple #[.int .u64 0, .iface 113 (.int .i64 2)]) ∧ Below w.heap.size w w')) :
    Calls Tryz.prog 36 #[.string s, .int .i64 b, .int .i64 m] w fun e w' => e = .returned (.tuple #[.int .i64 0, .bool false]) ∧ Below w.heap.size w w' := by
  have h2 : ¬ (s.size : Int) < 1 := by omega
  have h3 : ¬ m < (s.size : Int) := by omega
  have e1 : ((c.toNat : Int) == 43) = false := beq_eq_false_iff_ne.2 (by omega)
  have e2 : ((c.toNat : Int) == 45) = false := beq_eq_false_iff_ne.2 (by omega)
  clear hs hs2
  have HP := Lib.hid (parse_none b s w (by omega) hE HI)
  clear HI hE
  go_enter Tryz.func36, Tryz.ntmps36
  go_wp2_with fail
  refine HP.out.mono ?_
  rintro e w1 ⟨⟨N, rfl⟩, hb⟩
  go_wp2_with fail
  go_quiet (fail)
  go_wp2
  go_ret2
  exact ⟨rfl, below_drewN hb _⟩

theorem hexv_sign {c : UInt8} (h : c.toNat = 43 ∨ c.toNat = 45) : hexv c = none := by
  unfold hexv
  rw [if_neg (by omega), if_neg (by omega), if_neg (by omega)]

theorem digits (B M : Nat) (hBM : (B = 10 ∧ M = 7) ∨ (B = 16 ∧ M = 6)) (s : ByteArray) (w : World) (hE : ErrAt w) :
    Calls Tryz.prog 36 #[.string s, .int .i64 (B : Int), .int .i64 (M : Int)] w fun e w' => e = .returned (back (digs B M (lst s))) ∧ Below w.heap.size w w' := by
  have hl := lst_length s
  by_cases h0 : s.size = 0 ∨ M < s.size
  · have e : digs B M (lst s) = none := by
      unfold digs
      rw [if_pos]
      rcases h0 with h0 | h0
      · exact .inl (List.eq_nil_of_length_eq_zero (by omega))
      · exact .inr (by omega)
    rw [e]
    exact digits_no _ _ s w (by omega)
  · have hpos : 0 < s.size := by omega
    have hM : M ≤ 7 := by omega
    obtain ⟨c, hc⟩ : ∃ c, s[0]'hpos = c := ⟨_, rfl⟩
    have hcons : lst s = c :: (lst s).drop 1 := by
      have := List.drop_eq_getElem_cons (l := lst s) (i := 0) (by omega)
      rw [List.drop_zero] at this
      rw [show (lst s)[0]'(by omega) = c from hc] at this
      exact this
    have e : digs B M (lst s) = numB B 0 (lst s) := by
      unfold digs
      rw [if_neg]
      rintro (h | h)
      · rw [h] at hl; simp at hl; omega
      · omega
    rw [e]
    by_cases hs : c.toNat = 43 ∨ c.toNat = 45
    · have e2 : numB B 0 (lst s) = none := by rw [hcons]; exact numB_stop (hexv_sign hs)
      rw [e2]
      exact digits_sign _ _ s w c hpos (by omega) hc hs
    · have HI := fun wx => inner B (by omega) s (by omega) (by omega) wx
      cases hn : numB B 0 (lst s) with
      | none =>
        rw [hn] at HI
        exact digits_none _ _ s w c hpos (by omega) (by omega) hc (by omega) (by omega) hE (Lib.hid (HI w))
      | some n =>
        rw [hn] at HI
        have hlt := numB_lt (by omega) (show 0 < 16 ^ 0 by decide) hn
        have h7 : (16 : Nat) ^ (0 + (lst s).length) ≤ 16 ^ 7 := Nat.pow_le_pow_right (by decide) (by omega)
        have hv : n < 268435456 := Nat.lt_of_lt_of_le hlt h7
        exact digits_some _ _ (n : Int) s w c hpos (by omega) hc (by omega) (by omega) (by omega) (by omega) (Lib.hid (HI w))
end Go.Proofs.YtagbehhggpepfaaGreatDoor.Dig
set_option linter.unusedVariables false
set_option linter.unusedSimpArgs false
namespace Go.Proofs.YtagbehhggpepfaaGreatDoor.Sig
open Go.RowKit Go.Proofs.YtagbehhggpepfaaGreatDoor.Ent Go.Proofs.YtagbehhggpepfaaGreatDoor.Ref Go.Proofs.YtagbehhggpepfaaGreatDoor.Dig Go.Proofs.YtagbehhggpepfaaGreatDoor.Numd Go.Proofs.YtagbehhggpepfaaGreatDoor.Chars

/-- The table of names as its initialiser lays it, in this world and in every later one. -/
def NamesAt (w : World) : Prop :=
  ∃ bm, w.cell? ⟨0, 0, none⟩ = some (.map (some bm)) ∧ ∀ W, Below w.heap.size w W → ∀ s : ByteArray, s.size ≤ 1000000 →
    (Instr.lookup 52 (.map (some bm)) (.string s) true).run Tryz.prog W = .ok (.tuple #[.int .i32 ((names.lookup (lst s)).getD 0), .bool (names.lookup (lst s)).isSome]) W
theorem NamesAt.below {w W : World} (h : NamesAt w) (hb : Below w.heap.size w W) : NamesAt W := by
  obtain ⟨bm, h1, h2⟩ := h
  exact ⟨bm, (hb.cell (p := ⟨0, 0, none⟩) (World.block_lt_of_cell? w _ h1)).trans h1, fun W' hW' s hs => h2 W' (Dig.below_trans hb hW') s hs⟩

/-- What 'sign' hands back. -/
def Told (s : ByteArray) (e : Ending) : Prop :=
  match sign (lst s) with
  | some t => e = .returned (.tuple #[.string (str t), .bool true])
  | none => ∃ x, e = .returned (.tuple #[.string x, .bool false])

theorem told_some {s : ByteArray} {t : Bs} {e : Ending} (h : sign (lst s) = some t) (he : e = .returned (.tuple #[.string (str t), .bool true])) : Told s e := by
  unfold Told; rw [h]; exact he
theorem told_none {s : ByteArray} {x : ByteArray} {e : Ending} (h : sign (lst s) = none) (he : e = .returned (.tuple #[.string x, .bool false])) : Told s e := by
  unfold Told; rw [h]; exact ⟨x, he⟩

theorem cut_yes (s : ByteArray) (num : Bs) (h : lst s = 35 :: num) (w : World) : Calls Tryz.prog 35 #[.string s, .string ⟨#[35]⟩] w fun e w' =>
    e = .returned (.tuple #[.string (str num), .bool true]) ∧ w = w' := by
  refine (Tryz.strings_CutPrefix s ⟨#[35]⟩ w).mono ?_
  rintro e w' ⟨rfl, rfl⟩
  refine ⟨?_, rfl⟩
  rw [show s.data.toList = 35 :: num from h]
  rfl
theorem cut_no (s : ByteArray) (h : ∀ num, lst s ≠ 35 :: num) (w : World) : Calls Tryz.prog 35 #[.string s, .string ⟨#[35]⟩] w fun e w' =>
    e = .returned (.tuple #[.string s, .bool false]) ∧ w = w' := by
  refine (Tryz.strings_CutPrefix s ⟨#[35]⟩ w).mono ?_
  rintro e w' ⟨rfl, rfl⟩
  refine ⟨?_, rfl⟩
  have hp : Lib.hasPrefix s.data.toList [35] = false := by
    show List.isPrefixOf [35] (lst s) = false
    cases hs : lst s with
    | nil => rfl
    | cons c r =>
      have hne : c ≠ 35 := fun e => h r (by rw [hs, e])
      have hb : ((35 : UInt8) == c) = false := beq_eq_false_iff_ne.2 (Ne.symm hne)
      show ((35 : UInt8) == c && true) = false
      rw [hb]; rfl
  have e2 : Lib.trimPrefix s.data.toList [35] = lst s := by unfold Lib.trimPrefix; rw [hp]; first | done | rfl
  rw [show ((⟨#[35]⟩ : ByteArray).data.toList) = [35] from rfl, hp, e2]

theorem isEmpty_lst {t : ByteArray} {c : UInt8} {r : Bs} (h : lst t = c :: r) : t.toList.isEmpty = false := by rw [toList_lst, h]; rfl

theorem numbered_any (n : Nat) (hn : n < 16777216) (w : World) (hH : HighAt w) :
    Calls Tryz.prog 37 #[.int .i64 (n : Int)] w fun e w' => e = .returned (.string (str (numS n))) ∧ Below w.heap.size w w' :=
  numbered (n : Int) (by omega) (by omega) w hH

theorem digs_lt {B M n : Nat} {l : Bs} (hBM : (B = 10 ∧ M = 7) ∨ (B = 16 ∧ M = 6)) (h : digs B M l = some n) : n < 16777216 := by
  unfold digs at h
  split at h
  · cases h
  · rename_i hl
    rcases hBM with ⟨rfl, rfl⟩ | ⟨rfl, rfl⟩
    · have key : ∀ {l : Bs} {acc k n : Nat}, acc < 10 ^ k → numB 10 acc l = some n → n < 10 ^ (k + l.length) := by
        intro l
        induction l with
        | nil => intro acc k n h e; cases e; exact h
        | cons c r ih =>
          intro acc k n h e
          unfold numB at e
          split at e
          · rename_i d hd
            split at e
            · rename_i hdb
              have h1 : acc * 10 + d < 10 ^ (k + 1) := by rw [Nat.pow_succ]; omega
              have := ih h1 e
              rw [List.length_cons, show k + (r.length + 1) = k + 1 + r.length by omega]
              exact this
            · cases e
          · cases e
      have h1 := key (show 0 < 10 ^ 0 by decide) h
      have h2 : (10 : Nat) ^ (0 + l.length) ≤ 10 ^ 7 := Nat.pow_le_pow_right (by decide) (by omega)
      have h3 : (10 : Nat) ^ 7 < 16777216 := by decide
      omega
    · have h1 := numB_lt (by decide) (show 0 < 16 ^ 0 by decide) h
      have h2 : (16 : Nat) ^ (0 + l.length) ≤ 16 ^ 6 := Nat.pow_le_pow_right (by decide) (by omega)
      have h3 : (16 : Nat) ^ 6 = 16777216 := by decide
      omega

/-- 'digits' as the walk meets it, with what follows of it. -/
theorem digits_w (B M : Nat) (hBM : (B = 10 ∧ M = 7) ∨ (B = 16 ∧ M = 6)) (s : ByteArray) (r : Bs) (hr : lst s = r) (w : World) (hE : ErrAt w) :
    Calls Tryz.prog 36 #[.string s, .int .i64 (B : Int), .int .i64 (M : Int)] w fun e w' => e = .returned (back (digs B M r)) ∧ Below w.heap.size w w' := by
  subst hr; exact digits B M hBM s w hE

set_option maxHeartbeats 1000000 in
theorem sign_number (s : ByteArray) (num : Bs) (hs : lst s = 35 :: num) (w : World) (hH : HighAt w) (hE : ErrAt w) :
    Calls Tryz.prog 22 #[.string s] w fun e w' => Told s e ∧ Below w.heap.size w w' := by
  have HC := Lib.hid (fun (wx : World) => cut_yes s num hs wx)
  have hsg : sign (lst s) = (digitsOf num).map numS := by rw [hs]; rfl
  have HH := Lib.hid hH
  have HE := Lib.hid hE
  clear hH hE
  obtain ⟨t, ht⟩ : ∃ t, t = str num := ⟨_, rfl⟩
  have hlt : lst t = num := by rw [ht, lst_str]
  rw [← ht] at HC
  clear ht hs
  have TS := Lib.hid (fun (x : Bs) (e : Ending) (h : (digitsOf num).map numS = some x) => told_some (s := s) (e := e) (hsg.trans h))
  have TN := Lib.hid (fun (x : ByteArray) (e : Ending) (h : (digitsOf num).map numS = none) => told_none (s := s) (x := x) (e := e) (hsg.trans h))
  clear hsg
  cases num with
  | nil =>
    have hem : t.toList.isEmpty = true := by rw [toList_lst, hlt]; rfl
    have HD := Lib.hid (fun (wx : World) (h : ErrAt wx) => digits_w 10 7 (.inl ⟨rfl, rfl⟩) t [] hlt wx h)
    have TN0 := Lib.hid (fun (x : ByteArray) (e : Ending) => TN.out x e rfl)
    clear hlt TS TN
    go_enter Tryz.func22, Tryz.ntmps22
    go_wp2_with fail
    refine (HC.out _).mono ?_
    rintro e w1 ⟨rfl, rfl⟩
    go_wp2_with fail
    refine (HD.out _ HE.out).mono ?_
    rintro e w2 ⟨he, hb2⟩
    have he' : e = .returned (.tuple #[.int .i64 0, .bool false]) := he
    subst he'
    clear he
    go_wp2_with fail
    refine (numbered_any 0 (by decide) _ (HH.out.below hb2)).mono ?_
    rintro e w3 ⟨rfl, hb3⟩
    go_wp2
    go_ret2
    exact ⟨TN0.out _ _ rfl, Dig.below_trans hb2 hb3⟩
  | cons c r =>
    have hem := isEmpty_lst hlt
    have hne : (!t.toList.isEmpty) = true := by rw [hem]; rfl
    have hsz : t.size = r.length + 1 := by rw [← lst_length, hlt]; rfl
    have hpos : 0 < t.size := by omega
    have hc : t[0]'hpos = c := by
      have : (lst t)[0]'(by rw [lst_length]; exact hpos) = t[0]'hpos := rfl
      rw [← this]; simp [hlt]
    have hc256 := c.toNat_lt
    have hor := Num.or_low c
    have hexr : lst (t.extract 1 t.size) = r := by
      have h2 : t.data.toList = c :: r := hlt
      show (t.extract 1 t.size).data.toList = r
      rw [Lib.extract_data, h2]
      simp [hsz]
    by_cases hx : c ||| 32 = 120
    · have ho : Go.bits .or .u8 (c.toNat : Int) 32 = 120 := by rw [hor, hx]; rfl
      have hdo : digitsOf (c :: r) = digs 16 6 r := by show (if c ||| 32 = 120 then digs 16 6 r else digs 10 7 (c :: r)) = _; rw [if_pos hx]
      have HD := Lib.hid (fun (wx : World) (h : ErrAt wx) => digits_w 16 6 (.inr ⟨rfl, rfl⟩) (t.extract 1 t.size) r hexr wx h)
      have HSZ := Lib.hid hsz
      clear hor hx hexr hlt hsz
      cases hd : digs 16 6 r with
      | none =>
        have TN0 := Lib.hid (fun (x : ByteArray) (e : Ending) => TN.out x e (by rw [hdo, hd]; rfl))
        have HD2 : Hid (∀ wx, ErrAt wx → Calls Tryz.prog 36 #[.string (t.extract 1 t.size), .int .i64 16, .int .i64 6] wx fun e w' => e = .returned (.tuple #[.int .i64 0, .bool false]) ∧ Below wx.heap.size wx w') := by
          have := HD.out; rw [hd] at this; exact this
        clear hd hdo TS TN HD
        go_enter Tryz.func22, Tryz.ntmps22
        go_wp2_with fail
        refine (HC.out _).mono ?_
        rintro e w1 ⟨rfl, rfl⟩
        go_wp2_with fail
        refine (HD2.out _ HE.out).mono ?_
        rintro e w2 ⟨rfl, hb2⟩
        go_wp2_with fail
        refine (numbered_any 0 (by decide) _ (HH.out.below hb2)).mono ?_
        rintro e w3 ⟨rfl, hb3⟩
        go_wp2
        go_ret2
        exact ⟨TN0.out _ _ rfl, Dig.below_trans hb2 hb3⟩
      | some n =>
        have hn := digs_lt (.inr ⟨rfl, rfl⟩) hd
        have HNB := Lib.hid (fun (wx : World) (h : HighAt wx) => numbered_any n hn wx h)
        have TS0 := Lib.hid (fun (e : Ending) => TS.out (numS n) e (by rw [hdo, hd]; rfl))
        have HD2 : Hid (∀ wx, ErrAt wx → Calls Tryz.prog 36 #[.string (t.extract 1 t.size), .int .i64 16, .int .i64 6] wx fun e w' => e = .returned (.tuple #[.int .i64 (n : Int), .bool true]) ∧ Below wx.heap.size wx w') := by
          have := HD.out; rw [hd] at this; exact this
        clear hd hdo TS TN HD hn
        go_enter Tryz.func22, Tryz.ntmps22
        go_wp2_with fail
        refine (HC.out _).mono ?_
        rintro e w1 ⟨rfl, rfl⟩
        go_wp2_with fail
        refine (HD2.out _ HE.out).mono ?_
        rintro e w2 ⟨rfl, hb2⟩
        go_wp2_with fail
        refine (HNB.out _ (HH.out.below hb2)).mono ?_
        rintro e w3 ⟨rfl, hb3⟩
        go_wp2
        go_ret2
        exact ⟨TS0.out _ rfl, Dig.below_trans hb2 hb3⟩
    · have ho : (Go.bits .or .u8 (c.toNat : Int) 32 == 120) = false := by
        rw [hor]
        refine beq_eq_false_iff_ne.2 (fun h => hx ?_)
        have : (c ||| 32).toNat = (120 : UInt8).toNat := by show (c ||| 32).toNat = 120; omega
        exact UInt8.toNat_inj.1 this
      have hdo : digitsOf (c :: r) = digs 10 7 (c :: r) := by show (if c ||| 32 = 120 then digs 16 6 r else digs 10 7 (c :: r)) = _; rw [if_neg hx]
      have HD := Lib.hid (fun (wx : World) (h : ErrAt wx) => digits_w 10 7 (.inl ⟨rfl, rfl⟩) t (c :: r) hlt wx h)
      have HSZ := Lib.hid hsz
      clear hor hx hexr hlt hsz
      cases hd : digs 10 7 (c :: r) with
      | none =>
        have TN0 := Lib.hid (fun (x : ByteArray) (e : Ending) => TN.out x e (by rw [hdo, hd]; rfl))
        have HD2 : Hid (∀ wx, ErrAt wx → Calls Tryz.prog 36 #[.string t, .int .i64 10, .int .i64 7] wx fun e w' => e = .returned (.tuple #[.int .i64 0, .bool false]) ∧ Below wx.heap.size wx w') := by
          have := HD.out; rw [hd] at this; exact this
        clear hd hdo TS TN HD
        go_enter Tryz.func22, Tryz.ntmps22
        go_wp2_with fail
        refine (HC.out _).mono ?_
        rintro e w1 ⟨rfl, rfl⟩
        go_wp2_with fail
        refine (HD2.out _ HE.out).mono ?_
        rintro e w2 ⟨rfl, hb2⟩
        go_wp2_with fail
        refine (numbered_any 0 (by decide) _ (HH.out.below hb2)).mono ?_
        rintro e w3 ⟨rfl, hb3⟩
        go_wp2
        go_ret2
        exact ⟨TN0.out _ _ rfl, Dig.below_trans hb2 hb3⟩
      | some n =>
        have hn := digs_lt (.inl ⟨rfl, rfl⟩) hd
        have HNB := Lib.hid (fun (wx : World) (h : HighAt wx) => numbered_any n hn wx h)
        have TS0 := Lib.hid (fun (e : Ending) => TS.out (numS n) e (by rw [hdo, hd]; rfl))
        have HD2 : Hid (∀ wx, ErrAt wx → Calls Tryz.prog 36 #[.string t, .int .i64 10, .int .i64 7] wx fun e w' => e = .returned (.tuple #[.int .i64 (n : Int), .bool true]) ∧ Below wx.heap.size wx w') := by
          have := HD.out; rw [hd] at this; exact this
        clear hd hdo TS TN HD hn
        go_enter Tryz.func22, Tryz.ntmps22
        go_wp2_with fail
        refine (HC.out _).mono ?_
        rintro e w1 ⟨rfl, rfl⟩
        go_wp2_with fail
        refine (HD2.out _ HE.out).mono ?_
        rintro e w2 ⟨rfl, hb2⟩
        go_wp2_with fail
        refine (HNB.out _ (HH.out.below hb2)).mono ?_
        rintro e w3 ⟨rfl, hb3⟩
        go_wp2
        go_ret2
        exact ⟨TS0.out _ rfl, Dig.below_trans hb2 hb3⟩

set_option maxHeartbeats 1000000 in
theorem sign_name (s : ByteArray) (hs : ∀ num, lst s ≠ 35 :: num) (hsz : s.size ≤ 1000000) (w : World) (hN : NamesAt w) :
    Calls Tryz.prog 22 #[.string s] w fun e w' => Told s e ∧ Below w.heap.size w w' := by
  have HC := Lib.hid (fun (wx : World) => cut_no s hs wx)
  obtain ⟨bm, hcell, hl⟩ := hN
  have hrun := hl w (Below.refl _ _) s hsz
  clear hl
  have hsg : sign (lst s) = named (lst s) ∨ lst s = [] := by
    cases h : lst s with
    | nil => exact .inr rfl
    | cons c r =>
      left
      have : c ≠ 35 := fun e => hs r (by rw [h, e])
      show (if c = 35 then (digitsOf r).map numS else named (c :: r)) = _
      rw [if_neg this]
  have hempty : lst s = [] → named (lst s) = none := fun h => by rw [h]; rfl
  have hsg2 : sign (lst s) = named (lst s) := by
    rcases hsg with h | h
    · exact h
    · rw [hempty h, h]; rfl
  clear hsg hempty hs hsz
  cases hv : names.lookup (lst s) with
  | none =>
    have TN := Lib.hid (fun (x : ByteArray) (e : Ending) => told_none (s := s) (x := x) (e := e) (by rw [hsg2]; unfold named; rw [hv]; rfl))
    have hr : (Instr.lookup 52 (.map (some bm)) (.string s) true).run Tryz.prog w = .ok (.tuple #[.int .i32 0, .bool false]) w := by rw [hrun, hv]; rfl
    clear hrun hv hsg2
    go_enter Tryz.func22, Tryz.ntmps22
    go_wp2_with fail
    refine (HC.out _).mono ?_
    rintro e w1 ⟨rfl, rfl⟩
    go_wp2
    go_ret2
    exact ⟨TN.out _ _ rfl, Below.refl _ _⟩
  | some v =>
    have hv0 : 0 ≤ v ∧ v ≤ 8482 := by
      have hall : ∀ p ∈ names, 0 ≤ p.2 ∧ p.2 ≤ 8482 := by decide
      exact hall _ (lookup_mem hv)
    have hu : Utf8.encode v = str (Lib.encodeRune v) := by
      have := utf8_encode v.toNat
      rw [Int.toNat_of_nonneg hv0.1] at this
      exact this
    have TS := Lib.hid (fun (e : Ending) => told_some (s := s) (t := Lib.encodeRune v) (e := e) (by rw [hsg2]; unfold named; rw [hv]; rfl))
    have HU := Lib.hid hu
    have hr : (Instr.lookup 52 (.map (some bm)) (.string s) true).run Tryz.prog w = .ok (.tuple #[.int .i32 v, .bool true]) w := by rw [hrun, hv]; rfl
    clear hrun hv hsg2 hu hv0
    go_enter Tryz.func22, Tryz.ntmps22
    go_wp2_with fail
    refine (HC.out _).mono ?_
    rintro e w1 ⟨rfl, rfl⟩
    go_wp2
    go_ret2
    exact ⟨TS.out _ (by rw [← HU.out]; rfl), Below.refl _ _⟩

theorem sign_any (s : ByteArray) (hsz : s.size ≤ 1000000) (w : World) (hH : HighAt w) (hE : ErrAt w) (hN : NamesAt w) :
    Calls Tryz.prog 22 #[.string s] w fun e w' => Told s e ∧ Below w.heap.size w w' := by
  by_cases h : ∃ num, lst s = 35 :: num
  · obtain ⟨num, h⟩ := h
    exact sign_number s num h w hH hE
  · exact sign_name s (fun num e => h ⟨num, e⟩) hsz w hN
end Go.Proofs.YtagbehhggpepfaaGreatDoor.Sig
