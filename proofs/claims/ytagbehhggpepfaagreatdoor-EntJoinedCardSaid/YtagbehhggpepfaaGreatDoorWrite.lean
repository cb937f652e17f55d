/- muslinref12.write at any text. -/
import Derived.Test.YtagbehhggpepfaaGreatDoorText
import Derived.BigGuard
set_option linter.unusedVariables false
set_option linter.unusedSimpArgs false
namespace Go.Proofs.YtagbehhggpepfaaGreatDoor.Wri
open Go.RowKit Go.Proofs.YtagbehhggpepfaaGreatDoor.Ent Go.Proofs.YtagbehhggpepfaaGreatDoor.Repw

def Own (B : Nat) (v : Value) (l : Bs) (w : World) : Prop := w.ownsRow B 5 1 v l.length (Lib.byteCells l)

theorem Own.more {B : Nat} {v : Value} {l : Bs} {t : ByteArray} {w : World} (h : w.ownsRow B 5 1 v (l.length + t.size) (Lib.byteCells l ++ Lib.strCells t)) : Own B v (l ++ Ref.lst t) w := by
  unfold Own
  rw [byteCells_append, List.length_append, Ref.lst_length, ← strCells_lst]
  exact h
theorem Own.one {B : Nat} {v : Value} {l : Bs} {c : UInt8} {w : World} (h : w.ownsRow B 5 1 v (l.length + 1) (Lib.byteCells l ++ [.int .u8 (c.toNat : Int)])) : Own B v (l ++ [c]) w := by
  unfold Own
  rw [byteCells_append, List.length_append]
  exact h

theorem ne_nat {c : UInt8} {n : Nat} (hn : n < 256) (h : c ≠ UInt8.ofNat n) : ((c.toNat : Int) == (n : Int)) = false := by
  refine beq_eq_false_iff_ne.2 (fun e => h ?_)
  have : c.toNat = n := by omega
  rw [← this, UInt8.ofNat_toNat]

theorem wr_le2 (q : Bool) (l : Bs) : (Ent.wr q l).length ≤ 6 * l.length :=
  wr_ind q (fun l t => t.length ≤ 6 * l.length) (by simp) (fun r h => by simp [nbsp]; omega)
    (fun c r _ h => by
      have : (esc q c).length ≤ 6 := by
        unfold esc
        split
        · simp
        · split
          · simp
          · split
            · simp
            · split <;> simp
      simp; omega) l

theorem one_new (w : World) (v : Value) (t : TypeId) : ∀ (j : Nat) (u : Value), [v][j]? = some u → (w.alloc (.cells #[v] t)).cell? ((⟨w.heap.size, 0, none⟩ : Addr).add j) = some u := by
  intro j u hj
  match j, hj with
  | 0, hj => simp at hj; subst hj; simp [Addr.add]
theorem one_cell1 (c : Int) : ∀ u ∈ [Value.int .u8 c], u.oneCell' = true := by intro u hu; simp at hu; subst hu; rfl

set_option maxHeartbeats 16000000 in
set_option maxRecDepth 100000 in
theorem write (s : ByteArray) (hs : s.size ≤ 1000000) (q : Bool) (w : World) :
    Calls Tryz.prog 26 #[.string s, .bool q] w fun e w' => e = .returned (.string (Ref.str (Ent.wr q (Ref.lst s)))) ∧ Below w.heap.size w w' := by
  obtain ⟨i0, hi, hz0, hz1, hz2⟩ := info_parts infoByte
  go_enter Tryz.func26, Tryz.ntmps26
  go_wp2_with fail
  go_loopw [5, 6] (fun o v W => ∃ (i : Nat) (acc : Bs), v = .int .i64 (i : Int) ∧ i ≤ s.size ∧ Hid (acc ++ Ent.wr q ((Ref.lst s).drop i) = Ent.wr q (Ref.lst s)) ∧ Hid (Own w.heap.size o acc W) ∧ Below w.heap.size w W) (fun _ v _ => s.size - (intOf v).toNat)
  case atStart => exact ⟨0, [], rfl, by omega, Lib.hid (by simp), Lib.hid (World.ownsRow_nil _ _ _ _), Below.refl _ _⟩
  case round =>
    obtain ⟨i, acc, rfl, hi1, hacc, hown, hBW⟩ := hrel
    have hal : acc.length ≤ 6000000 := by
      have h1 := congrArg List.length hacc.out
      have h2 := wr_le2 q (Ref.lst s)
      rw [Ref.lst_length] at h2
      simp only [List.length_append] at h1
      omega
    have hbs := hBW.size
    by_cases hout : i = s.size
    · 
      --[[ out
      subst hout
      have hA : acc = Ent.wr q (Ref.lst s) := by
        rw [← hacc.out, List.drop_eq_nil_of_le (by rw [Ref.lst_length]; omega), wr_nil, List.append_nil]
      subst hA
      have hcv := Chars.own_bytes_string hown.out
      clear hacc hown
      go_wp2_with fail
      go_ret
      exact ⟨rfl, hBW⟩
      --]] out
    have hlt : i < s.size := by omega
    obtain ⟨c, r, hdrop, hc, hr⟩ := Repx.drop_at s i hlt
    have hO := hown.out
    have hrow := hO.lt
    have grow : ∀ (t : Bs) (k : Nat), Ent.wr q (c :: r) = t ++ Ent.wr q ((Ref.lst s).drop (i + k)) → Hid ((acc ++ t) ++ Ent.wr q ((Ref.lst s).drop (i + k)) = Ent.wr q (Ref.lst s)) := fun t k h => Lib.hid (by
      rw [List.append_assoc, ← h, ← hdrop, hacc.out])
    have hwc : ¬ (c = 194 ∧ r.head? = some 160) → Ent.wr q (c :: r) = esc q c ++ Ent.wr q ((Ref.lst s).drop (i + 1)) := fun h => by rw [wr_cons q c r h, hr]
    by_cases e1 : c = 38
    ·
      --[[ amp
      subst e1
      have HA := grow [38, 97, 109, 112, 59] 1 (by rw [hwc (by simp)]; unfold esc; rw [if_pos rfl])
      clear grow hwc hdrop hr hacc
      go_wp2_with (at_builtin; refine Lib.wpList_append_own_string _ rfl _ _ 29 9 rfl w.heap.size 5 i0 Tryz.underlying29 Tryz.underlying9 hi hz0 hz1 hz2 _ _ _ rfl hO ⟨#[38, 97, 109, 112, 59]⟩ rfl (by unfold maxLen; show _ + 5 ≤ _; omega) (by show _ + 5 ≤ _; omega) hbs ?_)
      intro v' w2 hown' hgrow _
      have HB2 : Below w.heap.size w w2 := hBW.grown hgrow hbs (fun k hk => (hrow k hk).1)
      have HO2 : Hid (Own w.heap.size v' (acc ++ [38, 97, 109, 112, 59]) w2) := Lib.hid (Own.more (t := ⟨#[38, 97, 109, 112, 59]⟩) hown')
      clear hown' hgrow hO hown hrow hBW hbs
      go_wp2_with fail
      go_roundw
      case rel => exact ⟨i + 1, _, by go_num, by omega, HA, HO2, HB2⟩
      case measure => simp [intOf]; omega
      --]] amp
    by_cases e2 : c = 60
    ·
      --[[ lt
      subst e2
      have HA := grow [38, 108, 116, 59] 1 (by rw [hwc (by simp)]; unfold esc; rw [if_neg e1, if_pos rfl])
      clear grow hwc hdrop hr hacc
      go_wp2_with (at_builtin; refine Lib.wpList_append_own_string _ rfl _ _ 29 9 rfl w.heap.size 5 i0 Tryz.underlying29 Tryz.underlying9 hi hz0 hz1 hz2 _ _ _ rfl hO ⟨#[38, 108, 116, 59]⟩ rfl (by unfold maxLen; show _ + 4 ≤ _; omega) (by show _ + 4 ≤ _; omega) hbs ?_)
      intro v' w2 hown' hgrow _
      have HB2 : Below w.heap.size w w2 := hBW.grown hgrow hbs (fun k hk => (hrow k hk).1)
      have HO2 : Hid (Own w.heap.size v' (acc ++ [38, 108, 116, 59]) w2) := Lib.hid (Own.more (t := ⟨#[38, 108, 116, 59]⟩) hown')
      clear hown' hgrow hO hown hrow hBW hbs
      go_wp2_with fail
      go_roundw
      case rel => exact ⟨i + 1, _, by go_num, by omega, HA, HO2, HB2⟩
      case measure => simp [intOf]; omega
      --]] lt
    by_cases e3 : c = 62
    ·
      --[[ gt
      subst e3
      have HA := grow [38, 103, 116, 59] 1 (by rw [hwc (by simp)]; unfold esc; rw [if_neg e1, if_neg e2, if_pos rfl])
      clear grow hwc hdrop hr hacc
      go_wp2_with (at_builtin; refine Lib.wpList_append_own_string _ rfl _ _ 29 9 rfl w.heap.size 5 i0 Tryz.underlying29 Tryz.underlying9 hi hz0 hz1 hz2 _ _ _ rfl hO ⟨#[38, 103, 116, 59]⟩ rfl (by unfold maxLen; show _ + 4 ≤ _; omega) (by show _ + 4 ≤ _; omega) hbs ?_)
      intro v' w2 hown' hgrow _
      have HB2 : Below w.heap.size w w2 := hBW.grown hgrow hbs (fun k hk => (hrow k hk).1)
      have HO2 : Hid (Own w.heap.size v' (acc ++ [38, 103, 116, 59]) w2) := Lib.hid (Own.more (t := ⟨#[38, 103, 116, 59]⟩) hown')
      clear hown' hgrow hO hown hrow hBW hbs
      go_wp2_with fail
      go_roundw
      case rel => exact ⟨i + 1, _, by go_num, by omega, HA, HO2, HB2⟩
      case measure => simp [intOf]; omega
      --]] gt
    have hplain : ¬ (c = 34 ∧ q = true) → ¬ (c = 194 ∧ r.head? = some 160) → Hid ((acc ++ [c]) ++ Ent.wr q ((Ref.lst s).drop (i + 1)) = Ent.wr q (Ref.lst s)) := fun h1 h2 => by
      have hw := hwc h2
      unfold esc at hw
      rw [if_neg e1, if_neg e2, if_neg e3, if_neg h1] at hw
      exact grow [c] 1 hw
    have n38 : ((c.toNat : Int) == 38) = false := ne_nat (n := 38) (by omega) e1
    have n60 : ((c.toNat : Int) == 60) = false := ne_nat (n := 60) (by omega) e2
    have n62 : ((c.toNat : Int) == 62) = false := ne_nat (n := 62) (by omega) e3
    by_cases e4 : c = 34
    · have n194 : ((c.toNat : Int) == 194) = false := by rw [e4]; rfl
      cases q with
      | true =>
        --[[ quot
        have HA := grow [38, 113, 117, 111, 116, 59] 1 (by rw [hwc (by rw [e4]; simp)]; unfold esc; rw [if_neg e1, if_neg e2, if_neg e3, if_pos ⟨e4, rfl⟩])
        have n34 : ((c.toNat : Int) == 34) = true := by rw [e4]; rfl
        clear grow hwc hdrop hr hacc hplain e1 e2 e3 e4
        go_wp2_with (at_builtin; refine Lib.wpList_append_own_string _ rfl _ _ 29 9 rfl w.heap.size 5 i0 Tryz.underlying29 Tryz.underlying9 hi hz0 hz1 hz2 _ _ _ rfl hO ⟨#[38, 113, 117, 111, 116, 59]⟩ rfl (by unfold maxLen; show _ + 6 ≤ _; omega) (by show _ + 6 ≤ _; omega) hbs ?_)
        intro v' w2 hown' hgrow _
        have HB2 : Below w.heap.size w w2 := hBW.grown hgrow hbs (fun k hk => (hrow k hk).1)
        have HO2 : Hid (Own w.heap.size v' (acc ++ [38, 113, 117, 111, 116, 59]) w2) := Lib.hid (Own.more (t := ⟨#[38, 113, 117, 111, 116, 59]⟩) hown')
        clear hown' hgrow hO hown hrow hBW hbs
        go_wp2_with fail
        go_roundw
        case rel => exact ⟨i + 1, _, by go_num, by omega, HA, HO2, HB2⟩
        case measure => simp [intOf]; omega
        --]] quot
      | false =>
        --[[ q34
        have HA := hplain (by simp) (by rw [e4]; simp)
        have n34 : ((c.toNat : Int) == 34) = true := by rw [e4]; rfl
        clear grow hwc hdrop hr hacc hplain e1 e2 e3 e4
        go_wp2_with (at_builtin; refine wpList_append_own _ rfl _ _ 29 rfl w.heap.size 5 i0 (.int .u8 0) 1 1 Tryz.underlying29 hi hz0 hz1 hz2 rfl (by decide) _ _ _ rfl (hO.alloc _) ⟨wr.heap.size, 0, none⟩ 1 1 [.int .u8 (c.toNat : Int)] rfl rfl (one_new wr _ _) (one_cell1 _) (by unfold maxLen; omega) (by omega) (by rw [World.size_alloc]; omega) ?_)
        intro v' w2 hown' hgrow _
        have HB2 : Below w.heap.size w w2 := (hBW.alloc hbs _).grown hgrow (by simp; omega) (fun k hk => (hrow k hk).1)
        have HO2 : Hid (Own w.heap.size v' (acc ++ [c]) w2) := Lib.hid (Own.one hown')
        clear hown' hgrow hO hown hrow hBW hbs
        go_wp2_with fail
        go_roundw
        case rel => exact ⟨i + 1, _, by go_num, by omega, HA, HO2, HB2⟩
        case measure => simp [intOf]; omega
        --]] q34
    have n34 : ((c.toNat : Int) == 34) = false := ne_nat (n := 34) (by omega) e4
    by_cases e5 : c = 194
    · have n194 : ((c.toNat : Int) == 194) = true := by rw [e5]; rfl
      by_cases hn : i + 1 < s.size
      · obtain ⟨d, r', hdrop2, hd, hr'⟩ := Repx.drop_at s (i + 1) hn
        have hr2 : r = d :: r' := by rw [hr]; exact hdrop2
        by_cases e6 : d = 160
        ·
          --[[ nbsp
          have HA := grow [38, 110, 98, 115, 112, 59] 2 (by rw [hr2, e5, e6, wr_nbsp, hr']; rfl)
          have n160 : ((d.toNat : Int) == 160) = true := by rw [e6]; rfl
          clear grow hwc hdrop hr hacc hplain hdrop2 hr' hr2 e1 e2 e3 e4 e5 e6
          go_wp2_with (at_builtin; refine Lib.wpList_append_own_string _ rfl _ _ 29 9 rfl w.heap.size 5 i0 Tryz.underlying29 Tryz.underlying9 hi hz0 hz1 hz2 _ _ _ rfl hO ⟨#[38, 110, 98, 115, 112, 59]⟩ rfl (by unfold maxLen; show _ + 6 ≤ _; omega) (by show _ + 6 ≤ _; omega) hbs ?_)
          intro v' w2 hown' hgrow _
          have HB2 : Below w.heap.size w w2 := hBW.grown hgrow hbs (fun k hk => (hrow k hk).1)
          have HO2 : Hid (Own w.heap.size v' (acc ++ [38, 110, 98, 115, 112, 59]) w2) := Lib.hid (Own.more (t := ⟨#[38, 110, 98, 115, 112, 59]⟩) hown')
          clear hown' hgrow hO hown hrow hBW hbs
          go_wp2_with fail
          go_roundw
          case rel => exact ⟨i + 2, _, by go_num, by omega, HA, HO2, HB2⟩
          case measure => simp [intOf]; omega
          --]] nbsp
        ·
          --[[ no160
          have n160 : ((d.toNat : Int) == 160) = false := ne_nat (n := 160) (by omega) e6
          have HA := hplain (fun h => e4 h.1) (fun h => e6 (by have := h.2; rw [hr2] at this; simpa using this))
          clear grow hwc hdrop hr hacc hplain hdrop2 hr' hr2 e1 e2 e3 e4 e5 e6
          go_wp2_with (at_builtin; refine wpList_append_own _ rfl _ _ 29 rfl w.heap.size 5 i0 (.int .u8 0) 1 1 Tryz.underlying29 hi hz0 hz1 hz2 rfl (by decide) _ _ _ rfl (hO.alloc _) ⟨wr.heap.size, 0, none⟩ 1 1 [.int .u8 (c.toNat : Int)] rfl rfl (one_new wr _ _) (one_cell1 _) (by unfold maxLen; omega) (by omega) (by rw [World.size_alloc]; omega) ?_)
          intro v' w2 hown' hgrow _
          have HB2 : Below w.heap.size w w2 := (hBW.alloc hbs _).grown hgrow (by simp; omega) (fun k hk => (hrow k hk).1)
          have HO2 : Hid (Own w.heap.size v' (acc ++ [c]) w2) := Lib.hid (Own.one hown')
          clear hown' hgrow hO hown hrow hBW hbs
          go_wp2_with fail
          go_roundw
          case rel => exact ⟨i + 1, _, by go_num, by omega, HA, HO2, HB2⟩
          case measure => simp [intOf]; omega
          --]] no160
      ·
        --[[ last
        have HA := hplain (fun h => e4 h.1) (fun h => by
          have hz : (Ref.lst s).drop (i + 1) = [] := List.drop_eq_nil_of_le (by rw [Ref.lst_length]; omega)
          rw [hr, hz] at h
          exact absurd h.2 (by simp))
        have hn2 : ¬ ((i : Int) + 1 < (s.size : Int)) := by omega
        clear grow hwc hdrop hr hacc hplain e1 e2 e3 e4 e5 hn
        go_wp2_with (at_builtin; refine wpList_append_own _ rfl _ _ 29 rfl w.heap.size 5 i0 (.int .u8 0) 1 1 Tryz.underlying29 hi hz0 hz1 hz2 rfl (by decide) _ _ _ rfl (hO.alloc _) ⟨wr.heap.size, 0, none⟩ 1 1 [.int .u8 (c.toNat : Int)] rfl rfl (one_new wr _ _) (one_cell1 _) (by unfold maxLen; omega) (by omega) (by rw [World.size_alloc]; omega) ?_)
        intro v' w2 hown' hgrow _
        have HB2 : Below w.heap.size w w2 := (hBW.alloc hbs _).grown hgrow (by simp; omega) (fun k hk => (hrow k hk).1)
        have HO2 : Hid (Own w.heap.size v' (acc ++ [c]) w2) := Lib.hid (Own.one hown')
        clear hown' hgrow hO hown hrow hBW hbs
        go_wp2_with fail
        go_roundw
        case rel => exact ⟨i + 1, _, by go_num, by omega, HA, HO2, HB2⟩
        case measure => simp [intOf]; omega
        --]] last
    have n194 : ((c.toNat : Int) == 194) = false := ne_nat (n := 194) (by omega) e5
    --[[ plain
    have HA := hplain (fun h => e4 h.1) (fun h => e5 h.1)
    clear grow hwc hdrop hr hacc hplain e1 e2 e3 e4 e5
    go_wp2_with (at_builtin; refine wpList_append_own _ rfl _ _ 29 rfl w.heap.size 5 i0 (.int .u8 0) 1 1 Tryz.underlying29 hi hz0 hz1 hz2 rfl (by decide) _ _ _ rfl (hO.alloc _) ⟨wr.heap.size, 0, none⟩ 1 1 [.int .u8 (c.toNat : Int)] rfl rfl (one_new wr _ _) (one_cell1 _) (by unfold maxLen; omega) (by omega) (by rw [World.size_alloc]; omega) ?_)
    intro v' w2 hown' hgrow _
    have HB2 : Below w.heap.size w w2 := (hBW.alloc hbs _).grown hgrow (by simp; omega) (fun k hk => (hrow k hk).1)
    have HO2 : Hid (Own w.heap.size v' (acc ++ [c]) w2) := Lib.hid (Own.one hown')
    clear hown' hgrow hO hown hrow hBW hbs
    go_wp2_with fail
    go_roundw
    case rel => exact ⟨i + 1, _, by go_num, by omega, HA, HO2, HB2⟩
    case measure => simp [intOf]; omega
    --]] plain
end Go.Proofs.YtagbehhggpepfaaGreatDoor.Wri
