-- printed by a copy of the kit's print, with given functions (wip/tools/gprint.py)
import Derived.Test.YtagbehhggpepfaaGreatDoorGE0
import Derived.Test.YtagbehhggpepfaaGreatDoorGE1
namespace Go.Proofs.YtagbehhggpepfaaGreatDoor.GE
open Go.RowKit Go.Proofs.YtagbehhggpepfaaGreatDoor.Given Go.Proofs.YtagbehhggpepfaaGreatDoorW.PrintWords Go.Proofs.YtagbehhggpepfaaGreatDoorW.PrintLast Go.Proofs.YtagbehhggpepfaaGreatDoorW.PrintMore
attribute [local go_sem] max2_int min2_int max_two min_two max_three min_three max_four min_four   -- for this text's walks alone
set_option linter.unusedVariables false
set_option linter.unusedSimpArgs false

/-! ### muslinlaw12_EntSafe: function 6 -/
mutual
def muslinlaw12_EntSafe.l0 : Nat → ByteArray → ByteArray → Int → Option (Bool)
  | 0, _, _, _ => none
  | k + 1, x3, x4, x5 => if x5 < (x3.size : Int) then (if 0 ≤ x5 then (if (bt x3 x5) = 60 then (muslinlaw12_EntSafe.j1 k x3 x4 x5 true) else (muslinlaw12_EntSafe.j1 k x3 x4 x5 ((bt x3 x5) == 62))) else (none)) else (muslinlaw12_EntSafe.l1 k x4 0)
def muslinlaw12_EntSafe.j1 : Nat → ByteArray → ByteArray → Int → Bool → Option (Bool)
  | 0, _, _, _, _ => none
  | k + 1, x3, x4, x5, x32 => if x32 = true then (some false) else (if 0 ≤ x5 then (if x5 < (x3.size : Int) then (if (bt x3 x5) = 38 then (if x5 ≤ (x3.size : Int) then ((muslinref12_One.f (x3.extract (x5 : Int).toNat x3.size)).bind fun bt137 => (if bt137.2 = 0 then (some false) else (muslinlaw12_EntSafe.l0 k x3 x4 (wrap64 (x5 + 1))))) else (none)) else (muslinlaw12_EntSafe.l0 k x3 x4 (wrap64 (x5 + 1)))) else (none)) else (none))
def muslinlaw12_EntSafe.l1 : Nat → ByteArray → Int → Option (Bool)
  | 0, _, _ => none
  | k + 1, x4, x8 => if x8 < (x4.size : Int) then (if 0 ≤ x8 then (if (bt x4 x8) = 60 then (some false) else (if (bt x4 x8) = 62 then (some false) else (if (bt x4 x8) = 34 then (some false) else (muslinlaw12_EntSafe.l1 k x4 (wrap64 (x8 + 1)))))) else (none)) else ((muslinlaw12_live.f).bind fun t139 => (some t139))
end
def muslinlaw12_EntSafe.f (k : Nat) (a0 : ByteArray) : Option (Bool) := (muslinlaw12_short.f a0).bind fun t133 => (if t133 = true then ((ent_Text.f a0).bind fun t135 => ((ent_Value.f a0).bind fun t136 => (muslinlaw12_EntSafe.l0 k t135 t136 0))) else ((muslinlaw12_live.f).bind fun t134 => (some t134)))
theorem muslinlaw12_EntSafe.mono_l : ∀ k, (∀ y0 y1 y2, LeO (muslinlaw12_EntSafe.l0 k y0 y1 y2) (muslinlaw12_EntSafe.l0 (k + 1) y0 y1 y2)) ∧ (∀ y0 y1 y2 y3, LeO (muslinlaw12_EntSafe.j1 k y0 y1 y2 y3) (muslinlaw12_EntSafe.j1 (k + 1) y0 y1 y2 y3)) ∧ (∀ y0 y1, LeO (muslinlaw12_EntSafe.l1 k y0 y1) (muslinlaw12_EntSafe.l1 (k + 1) y0 y1))
  | 0 => ⟨fun _ _ _ r h => by simp [muslinlaw12_EntSafe.l0] at h, fun _ _ _ _ r h => by simp [muslinlaw12_EntSafe.j1] at h, fun _ _ r h => by simp [muslinlaw12_EntSafe.l1] at h⟩
  | k + 1 => by
    obtain ⟨ih0, ih1, ih2⟩ := muslinlaw12_EntSafe.mono_l k
    refine ⟨?_, ?_, ?_⟩
    · intro y0 y1 y2
      unfold muslinlaw12_EntSafe.l0
      repeat' first
      | (with_reducible exact ih0 _ _ _)
      | (with_reducible exact ih1 _ _ _ _)
      | (with_reducible exact ih2 _ _)
      | (with_reducible exact LeO.refl _)
      | (with_reducible exact LeO.none _)
      | (with_reducible refine LeO.ite ?_ ?_)
      | (with_reducible refine LeO.bind ?_ (fun _ => ?_))
      | exact ih0 _ _ _
      | exact ih1 _ _ _ _
      | exact ih2 _ _
      | exact LeO.none _
      | refine LeO.ite ?_ ?_
      | refine LeO.bind ?_ (fun _ => ?_)
    · intro y0 y1 y2 y3
      unfold muslinlaw12_EntSafe.j1
      repeat' first
      | (with_reducible exact ih0 _ _ _)
      | (with_reducible exact ih1 _ _ _ _)
      | (with_reducible exact ih2 _ _)
      | (with_reducible exact LeO.refl _)
      | (with_reducible exact LeO.none _)
      | (with_reducible refine LeO.ite ?_ ?_)
      | (with_reducible refine LeO.bind ?_ (fun _ => ?_))
      | exact ih0 _ _ _
      | exact ih1 _ _ _ _
      | exact ih2 _ _
      | exact LeO.none _
      | refine LeO.ite ?_ ?_
      | refine LeO.bind ?_ (fun _ => ?_)
    · intro y0 y1
      unfold muslinlaw12_EntSafe.l1
      repeat' first
      | (with_reducible exact ih0 _ _ _)
      | (with_reducible exact ih1 _ _ _ _)
      | (with_reducible exact ih2 _ _)
      | (with_reducible exact LeO.refl _)
      | (with_reducible exact LeO.none _)
      | (with_reducible refine LeO.ite ?_ ?_)
      | (with_reducible refine LeO.bind ?_ (fun _ => ?_))
      | exact ih0 _ _ _
      | exact ih1 _ _ _ _
      | exact ih2 _ _
      | exact LeO.none _
      | refine LeO.ite ?_ ?_
      | refine LeO.bind ?_ (fun _ => ?_)
theorem muslinlaw12_EntSafe.mono : ∀ a0 k, LeO (muslinlaw12_EntSafe.f k a0) (muslinlaw12_EntSafe.f (k + 1) a0) := by
  intro a0 k
  obtain ⟨ih0, ih1, ih2⟩ := muslinlaw12_EntSafe.mono_l k
  unfold muslinlaw12_EntSafe.f
  repeat' first
      | (with_reducible exact ih0 _ _ _)
      | (with_reducible exact ih1 _ _ _ _)
      | (with_reducible exact ih2 _ _)
      | (with_reducible exact LeO.refl _)
      | (with_reducible exact LeO.none _)
      | (with_reducible refine LeO.ite ?_ ?_)
      | (with_reducible refine LeO.bind ?_ (fun _ => ?_))
      | exact ih0 _ _ _
      | exact ih1 _ _ _ _
      | exact ih2 _ _
      | exact LeO.none _
      | refine LeO.ite ?_ ?_
      | refine LeO.bind ?_ (fun _ => ?_)
set_option maxHeartbeats 8000000 in
set_option maxRecDepth 100000 in
theorem muslinlaw12_EntSafe.calls (k : Nat) (a0 : ByteArray) (r : Bool) (w : World) (hGG : GG w) (h : muslinlaw12_EntSafe.f k a0 = some r) :
    Calls Tryz.prog 6 #[.string a0] w fun e w' => e = .returned (.bool r) ∧ Below w.heap.size w w' := by
  have HB := Aside0.mk (Below.refl w.heap.size w)
  have H : ((muslinlaw12_short.f a0).bind fun t133 => (if t133 = true then ((ent_Text.f a0).bind fun t135 => ((ent_Value.f a0).bind fun t136 => (muslinlaw12_EntSafe.l0 k t135 t136 0))) else ((muslinlaw12_live.f).bind fun t134 => (some t134)))) = some r := h
  clear h
  replace H := Option.bind_eq_some_iff.mp H
  obtain ⟨t133, A20, H⟩ := H
  replace H : (if t133 = true then ((ent_Text.f a0).bind fun t135 => ((ent_Value.f a0).bind fun t136 => (muslinlaw12_EntSafe.l0 k t135 t136 0))) else ((muslinlaw12_live.f).bind fun t134 => (some t134))) = some r := H
  have A2 := Aside0.mk A20
  clear A20
  by_cases c3 : t133 = true
  · subst c3
    have H1 : ((ent_Text.f a0).bind fun t135 => ((ent_Value.f a0).bind fun t136 => (muslinlaw12_EntSafe.l0 k t135 t136 0))) = some r := by rw [if_pos rfl] at H; exact H
    clear H
    have H := H1
    clear H1
    replace H := Option.bind_eq_some_iff.mp H
    obtain ⟨t135, A40, H⟩ := H
    replace H : ((ent_Value.f a0).bind fun t136 => (muslinlaw12_EntSafe.l0 k t135 t136 0)) = some r := H
    have A4 := Aside0.mk A40
    clear A40
    replace H := Option.bind_eq_some_iff.mp H
    obtain ⟨t136, A50, H⟩ := H
    replace H : (muslinlaw12_EntSafe.l0 k t135 t136 0) = some r := H
    have A5 := Aside0.mk A50
    clear A50
    have H' := Aside0.mk H
    clear H
    go_enter Tryz.func6, Tryz.ntmps6
    go_wp2_with (first | ((with_reducible refine gate_callee (f := 10) rfl ?_); refine goesL_ (some 10) rfl rfl Tryz.func10 (by kernel_rfl) rfl #[.string a0] rfl (by (try simp only [List.map_toArray, List.map_cons, List.map_nil]); first | done | rfl | (simp only [List.length_drop, List.length_take]; rfl)) ?_; (with_reducible refine (muslinlaw12_short.calls a0 true _ A2.out).mono ?_); rintro e w' ⟨rfl, ⟨nd, rfl⟩⟩; refine ⟨_, rfl, ?_⟩) | ((with_reducible refine gate_callee (f := 14) rfl ?_); refine goesL_ (some 14) rfl rfl Tryz.func14 (by kernel_rfl) rfl #[.string a0] rfl (by (try simp only [List.map_toArray, List.map_cons, List.map_nil]); first | done | rfl | (simp only [List.length_drop, List.length_take]; rfl)) ?_; (with_reducible refine (ent_Text.calls a0 t135 _ (hGG.step (by repeat (first | (with_reducible first | exact HB.out | apply below_alloc | apply pw_below_drewN | apply below_drew1) | exact HB.out))) A4.out).mono ?_); rintro e w6 ⟨rfl, hb⟩; refine ⟨_, rfl, ?_⟩; have n0_ := Aside0.mk (below_step (by repeat (first | (with_reducible first | exact HB.out | apply below_alloc | apply pw_below_drewN | apply below_drew1) | exact HB.out)) hb); clear HB; have HB := n0_; clear n0_; (try clear hb); (try clear hb2); (try clear hk); (try clear hi)) | ((with_reducible refine gate_callee (f := 16) rfl ?_); refine goesL_ (some 16) rfl rfl Tryz.func16 (by kernel_rfl) rfl #[.string a0] rfl (by (try simp only [List.map_toArray, List.map_cons, List.map_nil]); first | done | rfl | (simp only [List.length_drop, List.length_take]; rfl)) ?_; (with_reducible refine (ent_Value.calls a0 t136 _ (hGG.step (by repeat (first | (with_reducible first | exact HB.out | apply below_alloc | apply pw_below_drewN | apply below_drew1) | exact HB.out))) A5.out).mono ?_); rintro e w7 ⟨rfl, hb⟩; refine ⟨_, rfl, ?_⟩; have n0_ := Aside0.mk (below_step (by repeat (first | (with_reducible first | exact HB.out | apply below_alloc | apply pw_below_drewN | apply below_drew1) | exact HB.out)) hb); clear HB; have HB := n0_; clear n0_; (try clear hb); (try clear hb2); (try clear hk); (try clear hi)))
    go_loopg [5] k (fun kq v5 w' => ∃ (x5_1 : Int), v5 = .int .i64 x5_1 ∧ Aside0 (muslinlaw12_EntSafe.l0 kq t135 t136 x5_1 = some r) ∧ Aside0 (kq ≤ k) ∧ Aside0 (Below w.heap.size w w'))
    case atStart => exact ⟨(0), (by first | rfl | (simp; done) | (simp [*]; done)), H', ⟨Nat.le_refl _⟩, ⟨by repeat (first | (with_reducible first | exact HB.out | apply below_alloc | apply pw_below_drewN | apply below_drew1) | exact HB.out)⟩⟩
    case round =>
      clear H'
      try clear c1
      try clear p2
      try clear c3
      try clear c6
      obtain ⟨x5_1, rfl, HA, HK1, HB⟩ := hrel
      cases gk with
      | zero => exact absurd HA.out (by simp [muslinlaw12_EntSafe.l0])
      | succ k1 =>
        have H := HA.out
        clear HA
        simp only [muslinlaw12_EntSafe.l0] at H
        by_cases c8 : x5_1 < (t135.size : Int)
        · rw [if_pos c8] at H
          have c8b0 : decide (x5_1 < (t135.size : Int)) = true := decide_eq_true c8
          clear c8
          have HC9 := Aside0.mk H
          clear H
          go_upto_region 8 with (fail)
          go_cut [32] (fun v32 wc => ∃ (kq : Nat) (x32_8 : Bool), v32 = .bool x32_8 ∧ Aside0 (muslinlaw12_EntSafe.j1 kq t135 t136 x5_1 x32_8 = some r) ∧ Aside0 (kq ≤ k1) ∧ Aside0 (Below w.heap.size w wc))
          case first =>
            have H := HC9.out
            clear HC9
            by_cases c10 : 0 ≤ x5_1
            · rw [if_pos c10] at H
              have c10b0 : decide (0 ≤ x5_1) = true := decide_eq_true c10
              clear c10
              (first | rw [c10b0] | (simp only [i64_w, i32_w]; rw [c10b0]) | skip)
              by_cases c12 : (bt t135 x5_1) = 60
              · rw [if_pos c12] at H
                have c12b0 : ((bt t135 x5_1) == 60) = true := beq_iff_eq.mpr c12
                have c12b1 : ((bt t135 x5_1) != 60) = false := bne_eq_false_iff_eq.mpr c12
                clear c12
                have H' := Aside0.mk H
                clear H
                have p11 : 0 ≤ (x5_1 : Int) := of_decide_eq_true (by first | (with_reducible assumption) | assumption)
                have q11 : x5_1 < (t135.size : Int) := of_decide_eq_true (by first | (with_reducible assumption) | assumption)
                have hx11 := bt_at t135 x5_1
                replace p11 := eq_true p11
                replace q11 := eq_true q11
                go_wp2
                go_meet
                case rel => exact ⟨_, (true), (by first | rfl | (simp; done) | (simp [*]; done)), H', ⟨by have := HK1.out; first | omega | exact Nat.le_refl _⟩, ⟨by repeat (first | (with_reducible first | exact HB.out | apply below_alloc | apply pw_below_drewN | apply below_drew1) | exact HB.out)⟩⟩
              · rw [if_neg c12] at H
                have c12b0 : ((bt t135 x5_1) == 60) = false := beq_eq_false_iff_ne.mpr c12
                have c12b1 : ((bt t135 x5_1) != 60) = true := bne_iff_ne.mpr c12
                have H' := Aside0.mk H
                clear H
                have p11 : 0 ≤ (x5_1 : Int) := of_decide_eq_true (by first | (with_reducible assumption) | assumption)
                have q11 : x5_1 < (t135.size : Int) := of_decide_eq_true (by first | (with_reducible assumption) | assumption)
                have hx11 := bt_at t135 x5_1
                replace p11 := eq_true p11
                replace q11 := eq_true q11
                have p13 : 0 ≤ (x5_1 : Int) := of_decide_eq_true (by first | (with_reducible assumption) | assumption)
                have q13 : x5_1 < (t135.size : Int) := of_decide_eq_true (by first | (with_reducible assumption) | assumption)
                have hx13 := bt_at t135 x5_1
                replace p13 := eq_true p13
                replace q13 := eq_true q13
                go_wp2
                go_meet
                case rel => exact ⟨_, (((bt t135 x5_1) == 62)), (by first | rfl | (simp; done) | (simp [*]; done)), H', ⟨by have := HK1.out; first | omega | exact Nat.le_refl _⟩, ⟨by repeat (first | (with_reducible first | exact HB.out | apply below_alloc | apply pw_below_drewN | apply below_drew1) | exact HB.out)⟩⟩
            · rw [if_neg c10] at H
              exact absurd H (by simp)
          case rest =>
            clear HC9
            try clear c1
            try clear p1
            try clear q1
            try clear hx1
            try clear p2
            try clear c3
            try clear c6
            try clear c8
            try clear c8b0
            try clear c10
            try clear c10b0
            try clear p11
            try clear q11
            try clear hx11
            try clear c12
            try clear c12b0
            try clear c12b1
            try clear p13
            try clear q13
            try clear hx13
            try clear p11
            try clear p13
            try clear p2
            try clear q11
            try clear q13
            obtain ⟨kq, x32_8, rfl, HA, HJ8, HB⟩ := hcut
            cases kq with
            | zero => exact absurd HA.out (by simp [muslinlaw12_EntSafe.j1])
            | succ kj8 =>
              have H := HA.out
              clear HA
              simp only [muslinlaw12_EntSafe.j1] at H
              by_cases c14 : x32_8 = true
              · subst c14
                have H1 : (some false) = some r := by rw [if_pos rfl] at H; exact H
                clear H
                have H := H1
                clear H1
                obtain rfl := Option.some.inj H
                go_wp2
                go_ret
                exact ⟨by first | rfl | (simp [errW_none, errW_some] <;> rfl) | (simp [*, errW_none, errW_some] <;> rfl), by repeat (first | (with_reducible first | exact HB.out | apply below_alloc | apply pw_below_drewN | apply below_drew1) | exact HB.out)⟩
              · replace c14 := Bool.eq_false_iff.mpr c14
                subst c14
                have H1 : (if 0 ≤ x5_1 then (if x5_1 < (t135.size : Int) then (if (bt t135 x5_1) = 38 then (if x5_1 ≤ (t135.size : Int) then ((muslinref12_One.f (t135.extract (x5_1 : Int).toNat t135.size)).bind fun bt137 => (if bt137.2 = 0 then (some false) else (muslinlaw12_EntSafe.l0 kj8 t135 t136 (wrap64 (x5_1 + 1))))) else (none)) else (muslinlaw12_EntSafe.l0 kj8 t135 t136 (wrap64 (x5_1 + 1)))) else (none)) else (none)) = some r := by rw [if_neg (show ¬ (false = true) by decide)] at H; exact H
                clear H
                have H := H1
                clear H1
                by_cases c15 : 0 ≤ x5_1
                · rw [if_pos c15] at H
                  have c15b0 : decide (0 ≤ x5_1) = true := decide_eq_true c15
                  clear c15
                  by_cases c16 : x5_1 < (t135.size : Int)
                  · rw [if_pos c16] at H
                    have c16b0 : decide (x5_1 < (t135.size : Int)) = true := decide_eq_true c16
                    clear c16
                    by_cases c18 : (bt t135 x5_1) = 38
                    · rw [if_pos c18] at H
                      have c18b0 : ((bt t135 x5_1) == 38) = true := beq_iff_eq.mpr c18
                      have c18b1 : ((bt t135 x5_1) != 38) = false := bne_eq_false_iff_eq.mpr c18
                      clear c18
                      have c19b0 := eq_true (of_decide_eq_true (by first | (with_reducible assumption) | assumption) : 0 ≤ x5_1)
                      by_cases c20 : x5_1 ≤ (t135.size : Int)
                      · rw [if_pos c20] at H
                        have c20b0 := eq_true c20
                        have c20b1 : decide (x5_1 ≤ (t135.size : Int)) = true := decide_eq_true c20
                        clear c20
                        replace H := Option.bind_eq_some_iff.mp H
                        obtain ⟨⟨t137, t138⟩, A210, H⟩ := H
                        replace H : (if t138 = 0 then (some false) else (muslinlaw12_EntSafe.l0 kj8 t135 t136 (wrap64 (x5_1 + 1)))) = some r := H
                        have A21 := Aside0.mk A210
                        clear A210
                        by_cases c22 : t138 = 0
                        · rw [if_pos c22] at H
                          have c22b0 : (t138 == 0) = true := beq_iff_eq.mpr c22
                          have c22b1 : (t138 != 0) = false := bne_eq_false_iff_eq.mpr c22
                          clear c22
                          obtain rfl := Option.some.inj H
                          have p17 : 0 ≤ (x5_1 : Int) := of_decide_eq_true (by first | (with_reducible assumption) | assumption)
                          have q17 : x5_1 < (t135.size : Int) := of_decide_eq_true (by first | (with_reducible assumption) | assumption)
                          have hx17 := bt_at t135 x5_1
                          replace p17 := eq_true p17
                          replace q17 := eq_true q17
                          go_wp2_with (first | ((with_reducible refine gate_callee (f := 18) rfl ?_); refine goesL_ (some 41) rfl rfl Tryz.func18 (by kernel_rfl) rfl #[.string (t135.extract (x5_1 : Int).toNat t135.size)] rfl (by (try simp only [List.map_toArray, List.map_cons, List.map_nil]); first | done | rfl | (simp only [List.length_drop, List.length_take]; rfl)) ?_; (with_reducible refine (muslinref12_One.calls (t135.extract (x5_1 : Int).toNat t135.size) t137 t138 _ (hGG.step (by repeat (first | (with_reducible first | exact HB.out | apply below_alloc | apply pw_below_drewN | apply below_drew1) | exact HB.out))) A21.out).mono ?_); rintro e w23 ⟨rfl, hb⟩; refine ⟨_, rfl, ?_⟩; have n0_ := Aside0.mk (below_step (by repeat (first | (with_reducible first | exact HB.out | apply below_alloc | apply pw_below_drewN | apply below_drew1) | exact HB.out)) hb); clear HB; have HB := n0_; clear n0_; (try clear hb); (try clear hb2); (try clear hk); (try clear hi)))
                          go_ret
                          exact ⟨by first | rfl | (simp [errW_none, errW_some] <;> rfl) | (simp [*, errW_none, errW_some] <;> rfl), by repeat (first | (with_reducible first | exact HB.out | apply below_alloc | apply pw_below_drewN | apply below_drew1) | exact HB.out)⟩
                        · rw [if_neg c22] at H
                          have c22b0 : (t138 == 0) = false := beq_eq_false_iff_ne.mpr c22
                          have c22b1 : (t138 != 0) = true := bne_iff_ne.mpr c22
                          have H' := Aside0.mk H
                          clear H
                          have p17 : 0 ≤ (x5_1 : Int) := of_decide_eq_true (by first | (with_reducible assumption) | assumption)
                          have q17 : x5_1 < (t135.size : Int) := of_decide_eq_true (by first | (with_reducible assumption) | assumption)
                          have hx17 := bt_at t135 x5_1
                          replace p17 := eq_true p17
                          replace q17 := eq_true q17
                          go_wp2_with (first | ((with_reducible refine gate_callee (f := 18) rfl ?_); refine goesL_ (some 41) rfl rfl Tryz.func18 (by kernel_rfl) rfl #[.string (t135.extract (x5_1 : Int).toNat t135.size)] rfl (by (try simp only [List.map_toArray, List.map_cons, List.map_nil]); first | done | rfl | (simp only [List.length_drop, List.length_take]; rfl)) ?_; (with_reducible refine (muslinref12_One.calls (t135.extract (x5_1 : Int).toNat t135.size) t137 t138 _ (hGG.step (by repeat (first | (with_reducible first | exact HB.out | apply below_alloc | apply pw_below_drewN | apply below_drew1) | exact HB.out))) A21.out).mono ?_); rintro e w24 ⟨rfl, hb⟩; refine ⟨_, rfl, ?_⟩; have n0_ := Aside0.mk (below_step (by repeat (first | (with_reducible first | exact HB.out | apply below_alloc | apply pw_below_drewN | apply below_drew1) | exact HB.out)) hb); clear HB; have HB := n0_; clear n0_; (try clear hb); (try clear hb2); (try clear hk); (try clear hi)))
                          go_roundg kj8
                          case measure => have := HK1.out; have := HJ8.out; omega
                          case rel => exact ⟨(wrap64 (x5_1 + 1)), (by first | rfl | (simp; done) | (simp [*]; done)), H', ⟨by have := HK1.out; have := HJ8.out; omega⟩, ⟨by repeat (first | (with_reducible first | exact HB.out | apply below_alloc | apply pw_below_drewN | apply below_drew1) | exact HB.out)⟩⟩
                      · rw [if_neg c20] at H
                        exact absurd H (by simp)
                    · rw [if_neg c18] at H
                      have c18b0 : ((bt t135 x5_1) == 38) = false := beq_eq_false_iff_ne.mpr c18
                      have c18b1 : ((bt t135 x5_1) != 38) = true := bne_iff_ne.mpr c18
                      have H' := Aside0.mk H
                      clear H
                      have p17 : 0 ≤ (x5_1 : Int) := of_decide_eq_true (by first | (with_reducible assumption) | assumption)
                      have q17 : x5_1 < (t135.size : Int) := of_decide_eq_true (by first | (with_reducible assumption) | assumption)
                      have hx17 := bt_at t135 x5_1
                      replace p17 := eq_true p17
                      replace q17 := eq_true q17
                      go_wp2
                      go_roundg kj8
                      case measure => have := HK1.out; have := HJ8.out; omega
                      case rel => exact ⟨(wrap64 (x5_1 + 1)), (by first | rfl | (simp; done) | (simp [*]; done)), H', ⟨by have := HK1.out; have := HJ8.out; omega⟩, ⟨by repeat (first | (with_reducible first | exact HB.out | apply below_alloc | apply pw_below_drewN | apply below_drew1) | exact HB.out)⟩⟩
                  · rw [if_neg c16] at H
                    exact absurd H (by simp)
                · rw [if_neg c15] at H
                  exact absurd H (by simp)
        · rw [if_neg c8] at H
          have c8b0 : decide (x5_1 < (t135.size : Int)) = false := decide_eq_false c8
          clear c8
          have H' := Aside0.mk H
          clear H
          go_wp2
          go_loopg [8] k1 (fun kq v8 w' => ∃ (x8_2 : Int), v8 = .int .i64 x8_2 ∧ Aside0 (muslinlaw12_EntSafe.l1 kq t136 x8_2 = some r) ∧ Aside0 (kq ≤ k1) ∧ Aside0 (Below w.heap.size w w'))
          case atStart => exact ⟨(0), (by first | rfl | (simp; done) | (simp [*]; done)), H', ⟨Nat.le_refl _⟩, ⟨by repeat (first | (with_reducible first | exact HB.out | apply below_alloc | apply pw_below_drewN | apply below_drew1) | exact HB.out)⟩⟩
          case round =>
            clear H'
            try clear c1
            try clear p1
            try clear q1
            try clear hx1
            try clear c2
            try clear p2
            try clear c3
            try clear c6
            try clear p6
            try clear c8
            try clear c8b0
            try clear c10
            try clear c10b0
            try clear p11
            try clear q11
            try clear hx11
            try clear c12
            try clear c12b0
            try clear c12b1
            try clear p13
            try clear q13
            try clear hx13
            try clear c14
            try clear c15
            try clear c15b0
            try clear c16
            try clear c16b0
            try clear p17
            try clear q17
            try clear hx17
            try clear c18
            try clear c18b0
            try clear c18b1
            try clear c19
            try clear c19b0
            try clear c20
            try clear c20b0
            try clear c20b1
            try clear c22
            try clear c22b0
            try clear c22b1
            try clear p1
            try clear p11
            try clear p13
            try clear p17
            try clear p2
            try clear q1
            try clear q11
            try clear q13
            try clear q17
            obtain ⟨x8_2, rfl, HA, HK2, HB⟩ := hrel
            cases gk with
            | zero => exact absurd HA.out (by simp [muslinlaw12_EntSafe.l1])
            | succ k2 =>
              have H := HA.out
              clear HA
              simp only [muslinlaw12_EntSafe.l1] at H
              by_cases c25 : x8_2 < (t136.size : Int)
              · rw [if_pos c25] at H
                have c25b0 : decide (x8_2 < (t136.size : Int)) = true := decide_eq_true c25
                clear c25
                by_cases c26 : 0 ≤ x8_2
                · rw [if_pos c26] at H
                  have c26b0 : decide (0 ≤ x8_2) = true := decide_eq_true c26
                  clear c26
                  by_cases c28 : (bt t136 x8_2) = 60
                  · rw [if_pos c28] at H
                    have c28b0 : ((bt t136 x8_2) == 60) = true := beq_iff_eq.mpr c28
                    have c28b1 : ((bt t136 x8_2) != 60) = false := bne_eq_false_iff_eq.mpr c28
                    clear c28
                    obtain rfl := Option.some.inj H
                    have p27 : 0 ≤ (x8_2 : Int) := of_decide_eq_true (by first | (with_reducible assumption) | assumption)
                    have q27 : x8_2 < (t136.size : Int) := of_decide_eq_true (by first | (with_reducible assumption) | assumption)
                    have hx27 := bt_at t136 x8_2
                    replace p27 := eq_true p27
                    replace q27 := eq_true q27
                    go_wp2
                    go_ret
                    exact ⟨by first | rfl | (simp [errW_none, errW_some] <;> rfl) | (simp [*, errW_none, errW_some] <;> rfl), by repeat (first | (with_reducible first | exact HB.out | apply below_alloc | apply pw_below_drewN | apply below_drew1) | exact HB.out)⟩
                  · rw [if_neg c28] at H
                    have c28b0 : ((bt t136 x8_2) == 60) = false := beq_eq_false_iff_ne.mpr c28
                    have c28b1 : ((bt t136 x8_2) != 60) = true := bne_iff_ne.mpr c28
                    by_cases c30 : (bt t136 x8_2) = 62
                    · rw [if_pos c30] at H
                      have c30b0 : ((bt t136 x8_2) == 62) = true := beq_iff_eq.mpr c30
                      have c30b1 : ((bt t136 x8_2) != 62) = false := bne_eq_false_iff_eq.mpr c30
                      clear c30
                      obtain rfl := Option.some.inj H
                      have p27 : 0 ≤ (x8_2 : Int) := of_decide_eq_true (by first | (with_reducible assumption) | assumption)
                      have q27 : x8_2 < (t136.size : Int) := of_decide_eq_true (by first | (with_reducible assumption) | assumption)
                      have hx27 := bt_at t136 x8_2
                      replace p27 := eq_true p27
                      replace q27 := eq_true q27
                      have p29 : 0 ≤ (x8_2 : Int) := of_decide_eq_true (by first | (with_reducible assumption) | assumption)
                      have q29 : x8_2 < (t136.size : Int) := of_decide_eq_true (by first | (with_reducible assumption) | assumption)
                      have hx29 := bt_at t136 x8_2
                      replace p29 := eq_true p29
                      replace q29 := eq_true q29
                      go_wp2
                      go_ret
                      exact ⟨by first | rfl | (simp [errW_none, errW_some] <;> rfl) | (simp [*, errW_none, errW_some] <;> rfl), by repeat (first | (with_reducible first | exact HB.out | apply below_alloc | apply pw_below_drewN | apply below_drew1) | exact HB.out)⟩
                    · rw [if_neg c30] at H
                      have c30b0 : ((bt t136 x8_2) == 62) = false := beq_eq_false_iff_ne.mpr c30
                      have c30b1 : ((bt t136 x8_2) != 62) = true := bne_iff_ne.mpr c30
                      by_cases c32 : (bt t136 x8_2) = 34
                      · rw [if_pos c32] at H
                        have c32b0 : ((bt t136 x8_2) == 34) = true := beq_iff_eq.mpr c32
                        have c32b1 : ((bt t136 x8_2) != 34) = false := bne_eq_false_iff_eq.mpr c32
                        clear c32
                        obtain rfl := Option.some.inj H
                        have p27 : 0 ≤ (x8_2 : Int) := of_decide_eq_true (by first | (with_reducible assumption) | assumption)
                        have q27 : x8_2 < (t136.size : Int) := of_decide_eq_true (by first | (with_reducible assumption) | assumption)
                        have hx27 := bt_at t136 x8_2
                        replace p27 := eq_true p27
                        replace q27 := eq_true q27
                        have p29 : 0 ≤ (x8_2 : Int) := of_decide_eq_true (by first | (with_reducible assumption) | assumption)
                        have q29 : x8_2 < (t136.size : Int) := of_decide_eq_true (by first | (with_reducible assumption) | assumption)
                        have hx29 := bt_at t136 x8_2
                        replace p29 := eq_true p29
                        replace q29 := eq_true q29
                        have p31 : 0 ≤ (x8_2 : Int) := of_decide_eq_true (by first | (with_reducible assumption) | assumption)
                        have q31 : x8_2 < (t136.size : Int) := of_decide_eq_true (by first | (with_reducible assumption) | assumption)
                        have hx31 := bt_at t136 x8_2
                        replace p31 := eq_true p31
                        replace q31 := eq_true q31
                        go_wp2
                        go_ret
                        exact ⟨by first | rfl | (simp [errW_none, errW_some] <;> rfl) | (simp [*, errW_none, errW_some] <;> rfl), by repeat (first | (with_reducible first | exact HB.out | apply below_alloc | apply pw_below_drewN | apply below_drew1) | exact HB.out)⟩
                      · rw [if_neg c32] at H
                        have c32b0 : ((bt t136 x8_2) == 34) = false := beq_eq_false_iff_ne.mpr c32
                        have c32b1 : ((bt t136 x8_2) != 34) = true := bne_iff_ne.mpr c32
                        have H' := Aside0.mk H
                        clear H
                        have p27 : 0 ≤ (x8_2 : Int) := of_decide_eq_true (by first | (with_reducible assumption) | assumption)
                        have q27 : x8_2 < (t136.size : Int) := of_decide_eq_true (by first | (with_reducible assumption) | assumption)
                        have hx27 := bt_at t136 x8_2
                        replace p27 := eq_true p27
                        replace q27 := eq_true q27
                        have p29 : 0 ≤ (x8_2 : Int) := of_decide_eq_true (by first | (with_reducible assumption) | assumption)
                        have q29 : x8_2 < (t136.size : Int) := of_decide_eq_true (by first | (with_reducible assumption) | assumption)
                        have hx29 := bt_at t136 x8_2
                        replace p29 := eq_true p29
                        replace q29 := eq_true q29
                        have p31 : 0 ≤ (x8_2 : Int) := of_decide_eq_true (by first | (with_reducible assumption) | assumption)
                        have q31 : x8_2 < (t136.size : Int) := of_decide_eq_true (by first | (with_reducible assumption) | assumption)
                        have hx31 := bt_at t136 x8_2
                        replace p31 := eq_true p31
                        replace q31 := eq_true q31
                        go_wp2
                        go_roundg k2
                        case measure => have := HK1.out; have := HK2.out; omega
                        case rel => exact ⟨(wrap64 (x8_2 + 1)), (by first | rfl | (simp; done) | (simp [*]; done)), H', ⟨by have := HK1.out; have := HK2.out; omega⟩, ⟨by repeat (first | (with_reducible first | exact HB.out | apply below_alloc | apply pw_below_drewN | apply below_drew1) | exact HB.out)⟩⟩
                · rw [if_neg c26] at H
                  exact absurd H (by simp)
              · rw [if_neg c25] at H
                have c25b0 : decide (x8_2 < (t136.size : Int)) = false := decide_eq_false c25
                clear c25
                replace H := Option.bind_eq_some_iff.mp H
                obtain ⟨t139, A330, H⟩ := H
                replace H : (some t139) = some r := H
                have A33 := Aside0.mk A330
                clear A330
                obtain rfl := Option.some.inj H
                go_wp2_with (first | ((with_reducible refine gate_callee (f := 11) rfl ?_); refine goesL_ (some 68) rfl rfl Tryz.func11 (by kernel_rfl) rfl #[] rfl (by (try simp only [List.map_toArray, List.map_cons, List.map_nil]); first | done | rfl | (simp only [List.length_drop, List.length_take]; rfl)) ?_; (with_reducible refine (muslinlaw12_live.calls  t139 _ (hGG.step (by repeat (first | (with_reducible first | exact HB.out | apply below_alloc | apply pw_below_drewN | apply below_drew1) | exact HB.out))) A33.out).mono ?_); rintro e w34 ⟨rfl, hb⟩; refine ⟨_, rfl, ?_⟩; have n0_ := Aside0.mk (below_step (by repeat (first | (with_reducible first | exact HB.out | apply below_alloc | apply pw_below_drewN | apply below_drew1) | exact HB.out)) hb); clear HB; have HB := n0_; clear n0_; (try clear hb); (try clear hb2); (try clear hk); (try clear hi)))
                go_ret
                exact ⟨by first | rfl | (simp [errW_none, errW_some] <;> rfl) | (simp [*, errW_none, errW_some] <;> rfl), by repeat (first | (with_reducible first | exact HB.out | apply below_alloc | apply pw_below_drewN | apply below_drew1) | exact HB.out)⟩
  · replace c3 := Bool.eq_false_iff.mpr c3
    subst c3
    have H1 : ((muslinlaw12_live.f).bind fun t134 => (some t134)) = some r := by rw [if_neg (show ¬ (false = true) by decide)] at H; exact H
    clear H
    have H := H1
    clear H1
    replace H := Option.bind_eq_some_iff.mp H
    obtain ⟨t134, A350, H⟩ := H
    replace H : (some t134) = some r := H
    have A35 := Aside0.mk A350
    clear A350
    obtain rfl := Option.some.inj H
    go_enter Tryz.func6, Tryz.ntmps6
    go_wp2_with (first | ((with_reducible refine gate_callee (f := 10) rfl ?_); refine goesL_ (some 10) rfl rfl Tryz.func10 (by kernel_rfl) rfl #[.string a0] rfl (by (try simp only [List.map_toArray, List.map_cons, List.map_nil]); first | done | rfl | (simp only [List.length_drop, List.length_take]; rfl)) ?_; (with_reducible refine (muslinlaw12_short.calls a0 false _ A2.out).mono ?_); rintro e w' ⟨rfl, ⟨nd, rfl⟩⟩; refine ⟨_, rfl, ?_⟩) | ((with_reducible refine gate_callee (f := 11) rfl ?_); refine goesL_ (some 12) rfl rfl Tryz.func11 (by kernel_rfl) rfl #[] rfl (by (try simp only [List.map_toArray, List.map_cons, List.map_nil]); first | done | rfl | (simp only [List.length_drop, List.length_take]; rfl)) ?_; (with_reducible refine (muslinlaw12_live.calls  t134 _ (hGG.step (by repeat (first | (with_reducible first | exact HB.out | apply below_alloc | apply pw_below_drewN | apply below_drew1) | exact HB.out))) A35.out).mono ?_); rintro e w36 ⟨rfl, hb⟩; refine ⟨_, rfl, ?_⟩; have n0_ := Aside0.mk (below_step (by repeat (first | (with_reducible first | exact HB.out | apply below_alloc | apply pw_below_drewN | apply below_drew1) | exact HB.out)) hb); clear HB; have HB := n0_; clear n0_; (try clear hb); (try clear hb2); (try clear hk); (try clear hi)))
    go_ret
    exact ⟨by first | rfl | (simp [errW_none, errW_some] <;> rfl) | (simp [*, errW_none, errW_some] <;> rfl), by repeat (first | (with_reducible first | exact HB.out | apply below_alloc | apply pw_below_drewN | apply below_drew1) | exact HB.out)⟩

/-- THE ONE PURE STATEMENT of muslinlaw12_EntSafe: yours. -/
def muslinlaw12_EntSafe.Pure : Prop := ∀ (a0 : ByteArray), a0.size ≤ 140737488351232 → ∃ k, muslinlaw12_EntSafe.f k a0 = some true
theorem muslinlaw12_EntSafe.walk (P : muslinlaw12_EntSafe.Pure) (a0 : ByteArray) (w : World) (hGG : GG w) (w0 : a0.size ≤ 140737488351232) :
    Calls Tryz.prog 6 #[.string a0] w fun e w' => e = .returned (.bool true) ∧ Below w.heap.size w w' := by
  obtain ⟨k, h⟩ := P a0 w0
  refine (muslinlaw12_EntSafe.calls k a0 true w hGG h).mono ?_
  rintro e w' ⟨rfl, hd⟩
  exact ⟨rfl, hd⟩

/-! ### muslinlaw12_EntPlain: function 7 -/
def muslinlaw12_EntPlain.l0 : Nat → ByteArray → Int → Option (Bool)
  | 0, _, _ => none
  | k + 1, x0, x3 => if x3 < (x0.size : Int) then (if 0 ≤ x3 then (if (bt x0 x3) = 38 then ((ent_Decode.f x0).bind fun t144 => (if (t144.size : Int) ≤ (x0.size : Int) then ((muslinlaw12_live.f).bind fun t145 => (some t145)) else (some false))) else (muslinlaw12_EntPlain.l0 k x0 (wrap64 (x3 + 1)))) else (none)) else ((ent_Decode.f x0).bind fun t142 => (if t142.toList = x0.toList then ((muslinlaw12_live.f).bind fun t143 => (some t143)) else (some false)))
def muslinlaw12_EntPlain.f (k : Nat) (a0 : ByteArray) : Option (Bool) := (muslinlaw12_short.f a0).bind fun t140 => (if t140 = true then (muslinlaw12_EntPlain.l0 k a0 0) else ((muslinlaw12_live.f).bind fun t141 => (some t141)))
theorem muslinlaw12_EntPlain.mono_l : ∀ k, (∀ y0 y1, LeO (muslinlaw12_EntPlain.l0 k y0 y1) (muslinlaw12_EntPlain.l0 (k + 1) y0 y1))
  | 0 => fun _ _ r h => by simp [muslinlaw12_EntPlain.l0] at h
  | k + 1 => by
    have ih0 := muslinlaw12_EntPlain.mono_l k
    · intro y0 y1
      unfold muslinlaw12_EntPlain.l0
      repeat' first
      | (with_reducible exact ih0 _ _)
      | (with_reducible exact LeO.refl _)
      | (with_reducible exact LeO.none _)
      | (with_reducible refine LeO.ite ?_ ?_)
      | (with_reducible refine LeO.bind ?_ (fun _ => ?_))
      | exact ih0 _ _
      | exact LeO.none _
      | refine LeO.ite ?_ ?_
      | refine LeO.bind ?_ (fun _ => ?_)
theorem muslinlaw12_EntPlain.mono : ∀ a0 k, LeO (muslinlaw12_EntPlain.f k a0) (muslinlaw12_EntPlain.f (k + 1) a0) := by
  intro a0 k
  have ih0 := muslinlaw12_EntPlain.mono_l k
  unfold muslinlaw12_EntPlain.f
  repeat' first
      | (with_reducible exact ih0 _ _)
      | (with_reducible exact LeO.refl _)
      | (with_reducible exact LeO.none _)
      | (with_reducible refine LeO.ite ?_ ?_)
      | (with_reducible refine LeO.bind ?_ (fun _ => ?_))
      | exact ih0 _ _
      | exact LeO.none _
      | refine LeO.ite ?_ ?_
      | refine LeO.bind ?_ (fun _ => ?_)
set_option maxHeartbeats 8000000 in
set_option maxRecDepth 100000 in
theorem muslinlaw12_EntPlain.calls (k : Nat) (a0 : ByteArray) (r : Bool) (w : World) (hGG : GG w) (h : muslinlaw12_EntPlain.f k a0 = some r) :
    Calls Tryz.prog 7 #[.string a0] w fun e w' => e = .returned (.bool r) ∧ Below w.heap.size w w' := by
  have HB := Aside0.mk (Below.refl w.heap.size w)
  have H : ((muslinlaw12_short.f a0).bind fun t140 => (if t140 = true then (muslinlaw12_EntPlain.l0 k a0 0) else ((muslinlaw12_live.f).bind fun t141 => (some t141)))) = some r := h
  clear h
  replace H := Option.bind_eq_some_iff.mp H
  obtain ⟨t140, A20, H⟩ := H
  replace H : (if t140 = true then (muslinlaw12_EntPlain.l0 k a0 0) else ((muslinlaw12_live.f).bind fun t141 => (some t141))) = some r := H
  have A2 := Aside0.mk A20
  clear A20
  by_cases c3 : t140 = true
  · subst c3
    have H1 : (muslinlaw12_EntPlain.l0 k a0 0) = some r := by rw [if_pos rfl] at H; exact H
    clear H
    have H := H1
    clear H1
    have H' := Aside0.mk H
    clear H
    go_enter Tryz.func7, Tryz.ntmps7
    go_wp2_with (first | ((with_reducible refine gate_callee (f := 10) rfl ?_); refine goesL_ (some 5) rfl rfl Tryz.func10 (by kernel_rfl) rfl #[.string a0] rfl (by (try simp only [List.map_toArray, List.map_cons, List.map_nil]); first | done | rfl | (simp only [List.length_drop, List.length_take]; rfl)) ?_; (with_reducible refine (muslinlaw12_short.calls a0 true _ A2.out).mono ?_); rintro e w' ⟨rfl, ⟨nd, rfl⟩⟩; refine ⟨_, rfl, ?_⟩))
    go_loopg [3] k (fun kq v3 w' => ∃ (x3_1 : Int), v3 = .int .i64 x3_1 ∧ Aside0 (muslinlaw12_EntPlain.l0 kq a0 x3_1 = some r) ∧ Aside0 (kq ≤ k) ∧ Aside0 (Below w.heap.size w w'))
    case atStart => exact ⟨(0), (by first | rfl | (simp; done) | (simp [*]; done)), H', ⟨Nat.le_refl _⟩, ⟨by repeat (first | (with_reducible first | exact HB.out | apply below_alloc | apply pw_below_drewN | apply below_drew1) | exact HB.out)⟩⟩
    case round =>
      clear H'
      try clear c1
      try clear p2
      try clear c3
      obtain ⟨x3_1, rfl, HA, HK1, HB⟩ := hrel
      cases gk with
      | zero => exact absurd HA.out (by simp [muslinlaw12_EntPlain.l0])
      | succ k1 =>
        have H := HA.out
        clear HA
        simp only [muslinlaw12_EntPlain.l0] at H
        by_cases c4 : x3_1 < (a0.size : Int)
        · rw [if_pos c4] at H
          have c4b0 : decide (x3_1 < (a0.size : Int)) = true := decide_eq_true c4
          clear c4
          by_cases c5 : 0 ≤ x3_1
          · rw [if_pos c5] at H
            have c5b0 : decide (0 ≤ x3_1) = true := decide_eq_true c5
            clear c5
            by_cases c7 : (bt a0 x3_1) = 38
            · rw [if_pos c7] at H
              have c7b0 : ((bt a0 x3_1) == 38) = true := beq_iff_eq.mpr c7
              have c7b1 : ((bt a0 x3_1) != 38) = false := bne_eq_false_iff_eq.mpr c7
              clear c7
              replace H := Option.bind_eq_some_iff.mp H
              obtain ⟨t144, A80, H⟩ := H
              replace H : (if (t144.size : Int) ≤ (a0.size : Int) then ((muslinlaw12_live.f).bind fun t145 => (some t145)) else (some false)) = some r := H
              have A8 := Aside0.mk A80
              clear A80
              by_cases c9 : (t144.size : Int) ≤ (a0.size : Int)
              · rw [if_pos c9] at H
                have c9b0 : decide ((t144.size : Int) ≤ (a0.size : Int)) = true := decide_eq_true c9
                have c9b1 : decide (t144.size ≤ a0.size) = true := decide_eq_true (Int.ofNat_le.mp c9)
                clear c9
                replace H := Option.bind_eq_some_iff.mp H
                obtain ⟨t145, A100, H⟩ := H
                replace H : (some t145) = some r := H
                have A10 := Aside0.mk A100
                clear A100
                obtain rfl := Option.some.inj H
                have p6 : 0 ≤ (x3_1 : Int) := of_decide_eq_true (by first | (with_reducible assumption) | assumption)
                have q6 : x3_1 < (a0.size : Int) := of_decide_eq_true (by first | (with_reducible assumption) | assumption)
                have hx6 := bt_at a0 x3_1
                replace p6 := eq_true p6
                replace q6 := eq_true q6
                go_wp2_with (first | ((with_reducible refine gate_callee (f := 12) rfl ?_); refine goesL_ (some 19) rfl rfl Tryz.func12 (by kernel_rfl) rfl #[.string a0] rfl (by (try simp only [List.map_toArray, List.map_cons, List.map_nil]); first | done | rfl | (simp only [List.length_drop, List.length_take]; rfl)) ?_; (with_reducible refine (ent_Decode.calls a0 t144 _ (hGG.step (by repeat (first | (with_reducible first | exact HB.out | apply below_alloc | apply pw_below_drewN | apply below_drew1) | exact HB.out))) A8.out).mono ?_); rintro e w11 ⟨rfl, hb⟩; refine ⟨_, rfl, ?_⟩; have n0_ := Aside0.mk (below_step (by repeat (first | (with_reducible first | exact HB.out | apply below_alloc | apply pw_below_drewN | apply below_drew1) | exact HB.out)) hb); clear HB; have HB := n0_; clear n0_; (try clear hb); (try clear hb2); (try clear hk); (try clear hi)) | (go_at_call 11; (with_reducible refine (muslinlaw12_live.calls  t145 _ (hGG.step (by repeat (first | (with_reducible first | exact HB.out | apply below_alloc | apply pw_below_drewN | apply below_drew1) | exact HB.out))) A10.out).mono ?_); rintro e w12 ⟨rfl, hb⟩; have n0_ := Aside0.mk (below_step (by repeat (first | (with_reducible first | exact HB.out | apply below_alloc | apply pw_below_drewN | apply below_drew1) | exact HB.out)) hb); clear HB; have HB := n0_; clear n0_; (try clear hb); (try clear hb2); (try clear hk); (try clear hi)))
                go_ret
                exact ⟨by first | rfl | (simp [errW_none, errW_some] <;> rfl) | (simp [*, errW_none, errW_some] <;> rfl), by repeat (first | (with_reducible first | exact HB.out | apply below_alloc | apply pw_below_drewN | apply below_drew1) | exact HB.out)⟩
              · rw [if_neg c9] at H
                have c9b0 : decide ((t144.size : Int) ≤ (a0.size : Int)) = false := decide_eq_false c9
                have c9b1 : decide (t144.size ≤ a0.size) = false := decide_eq_false (fun h => c9 (Int.ofNat_le.mpr h))
                clear c9
                obtain rfl := Option.some.inj H
                have p6 : 0 ≤ (x3_1 : Int) := of_decide_eq_true (by first | (with_reducible assumption) | assumption)
                have q6 : x3_1 < (a0.size : Int) := of_decide_eq_true (by first | (with_reducible assumption) | assumption)
                have hx6 := bt_at a0 x3_1
                replace p6 := eq_true p6
                replace q6 := eq_true q6
                go_wp2_with (first | ((with_reducible refine gate_callee (f := 12) rfl ?_); refine goesL_ (some 19) rfl rfl Tryz.func12 (by kernel_rfl) rfl #[.string a0] rfl (by (try simp only [List.map_toArray, List.map_cons, List.map_nil]); first | done | rfl | (simp only [List.length_drop, List.length_take]; rfl)) ?_; (with_reducible refine (ent_Decode.calls a0 t144 _ (hGG.step (by repeat (first | (with_reducible first | exact HB.out | apply below_alloc | apply pw_below_drewN | apply below_drew1) | exact HB.out))) A8.out).mono ?_); rintro e w13 ⟨rfl, hb⟩; refine ⟨_, rfl, ?_⟩; have n0_ := Aside0.mk (below_step (by repeat (first | (with_reducible first | exact HB.out | apply below_alloc | apply pw_below_drewN | apply below_drew1) | exact HB.out)) hb); clear HB; have HB := n0_; clear n0_; (try clear hb); (try clear hb2); (try clear hk); (try clear hi)))
                go_ret
                exact ⟨by first | rfl | (simp [errW_none, errW_some] <;> rfl) | (simp [*, errW_none, errW_some] <;> rfl), by repeat (first | (with_reducible first | exact HB.out | apply below_alloc | apply pw_below_drewN | apply below_drew1) | exact HB.out)⟩
            · rw [if_neg c7] at H
              have c7b0 : ((bt a0 x3_1) == 38) = false := beq_eq_false_iff_ne.mpr c7
              have c7b1 : ((bt a0 x3_1) != 38) = true := bne_iff_ne.mpr c7
              have H' := Aside0.mk H
              clear H
              have p6 : 0 ≤ (x3_1 : Int) := of_decide_eq_true (by first | (with_reducible assumption) | assumption)
              have q6 : x3_1 < (a0.size : Int) := of_decide_eq_true (by first | (with_reducible assumption) | assumption)
              have hx6 := bt_at a0 x3_1
              replace p6 := eq_true p6
              replace q6 := eq_true q6
              go_wp2
              go_roundg k1
              case measure => have := HK1.out; omega
              case rel => exact ⟨(wrap64 (x3_1 + 1)), (by first | rfl | (simp; done) | (simp [*]; done)), H', ⟨by have := HK1.out; omega⟩, ⟨by repeat (first | (with_reducible first | exact HB.out | apply below_alloc | apply pw_below_drewN | apply below_drew1) | exact HB.out)⟩⟩
          · rw [if_neg c5] at H
            exact absurd H (by simp)
        · rw [if_neg c4] at H
          have c4b0 : decide (x3_1 < (a0.size : Int)) = false := decide_eq_false c4
          clear c4
          replace H := Option.bind_eq_some_iff.mp H
          obtain ⟨t142, A140, H⟩ := H
          replace H : (if t142.toList = a0.toList then ((muslinlaw12_live.f).bind fun t143 => (some t143)) else (some false)) = some r := H
          have A14 := Aside0.mk A140
          clear A140
          by_cases c15 : t142.toList = a0.toList
          · rw [if_pos c15] at H
            have c15b0 : (t142.toList == a0.toList) = true := beq_iff_eq.mpr c15
            have c15b1 : (t142.toList != a0.toList) = false := bne_eq_false_iff_eq.mpr c15
            clear c15
            replace H := Option.bind_eq_some_iff.mp H
            obtain ⟨t143, A160, H⟩ := H
            replace H : (some t143) = some r := H
            have A16 := Aside0.mk A160
            clear A160
            obtain rfl := Option.some.inj H
            go_wp2_with (first | ((with_reducible refine gate_callee (f := 12) rfl ?_); refine goesL_ (some 28) rfl rfl Tryz.func12 (by kernel_rfl) rfl #[.string a0] rfl (by (try simp only [List.map_toArray, List.map_cons, List.map_nil]); first | done | rfl | (simp only [List.length_drop, List.length_take]; rfl)) ?_; (with_reducible refine (ent_Decode.calls a0 t142 _ (hGG.step (by repeat (first | (with_reducible first | exact HB.out | apply below_alloc | apply pw_below_drewN | apply below_drew1) | exact HB.out))) A14.out).mono ?_); rintro e w17 ⟨rfl, hb⟩; refine ⟨_, rfl, ?_⟩; have n0_ := Aside0.mk (below_step (by repeat (first | (with_reducible first | exact HB.out | apply below_alloc | apply pw_below_drewN | apply below_drew1) | exact HB.out)) hb); clear HB; have HB := n0_; clear n0_; (try clear hb); (try clear hb2); (try clear hk); (try clear hi)) | (go_at_call 11; (with_reducible refine (muslinlaw12_live.calls  t143 _ (hGG.step (by repeat (first | (with_reducible first | exact HB.out | apply below_alloc | apply pw_below_drewN | apply below_drew1) | exact HB.out))) A16.out).mono ?_); rintro e w18 ⟨rfl, hb⟩; have n0_ := Aside0.mk (below_step (by repeat (first | (with_reducible first | exact HB.out | apply below_alloc | apply pw_below_drewN | apply below_drew1) | exact HB.out)) hb); clear HB; have HB := n0_; clear n0_; (try clear hb); (try clear hb2); (try clear hk); (try clear hi)))
            go_ret
            exact ⟨by first | rfl | (simp [errW_none, errW_some] <;> rfl) | (simp [*, errW_none, errW_some] <;> rfl), by repeat (first | (with_reducible first | exact HB.out | apply below_alloc | apply pw_below_drewN | apply below_drew1) | exact HB.out)⟩
          · rw [if_neg c15] at H
            have c15b0 : (t142.toList == a0.toList) = false := beq_eq_false_iff_ne.mpr c15
            have c15b1 : (t142.toList != a0.toList) = true := bne_iff_ne.mpr c15
            obtain rfl := Option.some.inj H
            go_wp2_with (first | ((with_reducible refine gate_callee (f := 12) rfl ?_); refine goesL_ (some 28) rfl rfl Tryz.func12 (by kernel_rfl) rfl #[.string a0] rfl (by (try simp only [List.map_toArray, List.map_cons, List.map_nil]); first | done | rfl | (simp only [List.length_drop, List.length_take]; rfl)) ?_; (with_reducible refine (ent_Decode.calls a0 t142 _ (hGG.step (by repeat (first | (with_reducible first | exact HB.out | apply below_alloc | apply pw_below_drewN | apply below_drew1) | exact HB.out))) A14.out).mono ?_); rintro e w19 ⟨rfl, hb⟩; refine ⟨_, rfl, ?_⟩; have n0_ := Aside0.mk (below_step (by repeat (first | (with_reducible first | exact HB.out | apply below_alloc | apply pw_below_drewN | apply below_drew1) | exact HB.out)) hb); clear HB; have HB := n0_; clear n0_; (try clear hb); (try clear hb2); (try clear hk); (try clear hi)))
            go_ret
            exact ⟨by first | rfl | (simp [errW_none, errW_some] <;> rfl) | (simp [*, errW_none, errW_some] <;> rfl), by repeat (first | (with_reducible first | exact HB.out | apply below_alloc | apply pw_below_drewN | apply below_drew1) | exact HB.out)⟩
  · replace c3 := Bool.eq_false_iff.mpr c3
    subst c3
    have H1 : ((muslinlaw12_live.f).bind fun t141 => (some t141)) = some r := by rw [if_neg (show ¬ (false = true) by decide)] at H; exact H
    clear H
    have H := H1
    clear H1
    replace H := Option.bind_eq_some_iff.mp H
    obtain ⟨t141, A200, H⟩ := H
    replace H : (some t141) = some r := H
    have A20 := Aside0.mk A200
    clear A200
    obtain rfl := Option.some.inj H
    go_enter Tryz.func7, Tryz.ntmps7
    go_wp2_with (first | ((with_reducible refine gate_callee (f := 10) rfl ?_); refine goesL_ (some 5) rfl rfl Tryz.func10 (by kernel_rfl) rfl #[.string a0] rfl (by (try simp only [List.map_toArray, List.map_cons, List.map_nil]); first | done | rfl | (simp only [List.length_drop, List.length_take]; rfl)) ?_; (with_reducible refine (muslinlaw12_short.calls a0 false _ A2.out).mono ?_); rintro e w' ⟨rfl, ⟨nd, rfl⟩⟩; refine ⟨_, rfl, ?_⟩) | ((with_reducible refine gate_callee (f := 11) rfl ?_); refine goesL_ (some 7) rfl rfl Tryz.func11 (by kernel_rfl) rfl #[] rfl (by (try simp only [List.map_toArray, List.map_cons, List.map_nil]); first | done | rfl | (simp only [List.length_drop, List.length_take]; rfl)) ?_; (with_reducible refine (muslinlaw12_live.calls  t141 _ (hGG.step (by repeat (first | (with_reducible first | exact HB.out | apply below_alloc | apply pw_below_drewN | apply below_drew1) | exact HB.out))) A20.out).mono ?_); rintro e w21 ⟨rfl, hb⟩; refine ⟨_, rfl, ?_⟩; have n0_ := Aside0.mk (below_step (by repeat (first | (with_reducible first | exact HB.out | apply below_alloc | apply pw_below_drewN | apply below_drew1) | exact HB.out)) hb); clear HB; have HB := n0_; clear n0_; (try clear hb); (try clear hb2); (try clear hk); (try clear hi)))
    go_ret
    exact ⟨by first | rfl | (simp [errW_none, errW_some] <;> rfl) | (simp [*, errW_none, errW_some] <;> rfl), by repeat (first | (with_reducible first | exact HB.out | apply below_alloc | apply pw_below_drewN | apply below_drew1) | exact HB.out)⟩

/-- THE ONE PURE STATEMENT of muslinlaw12_EntPlain: yours. -/
def muslinlaw12_EntPlain.Pure : Prop := ∀ (a0 : ByteArray), a0.size ≤ 140737488351232 → ∃ k, muslinlaw12_EntPlain.f k a0 = some true
theorem muslinlaw12_EntPlain.walk (P : muslinlaw12_EntPlain.Pure) (a0 : ByteArray) (w : World) (hGG : GG w) (w0 : a0.size ≤ 140737488351232) :
    Calls Tryz.prog 7 #[.string a0] w fun e w' => e = .returned (.bool true) ∧ Below w.heap.size w w' := by
  obtain ⟨k, h⟩ := P a0 w0
  refine (muslinlaw12_EntPlain.calls k a0 true w hGG h).mono ?_
  rintro e w' ⟨rfl, hd⟩
  exact ⟨rfl, hd⟩

/-! ### muslinlaw12_EntApart: function 8 -/
def muslinlaw12_EntApart.j0 : Nat → ByteArray → ByteArray → Bool → Option (Bool)
  | 0, _, _, _ => none
  | k + 1, x0, x1, x12 => if x12 = true then ((muslinlaw12_live.f).bind fun t148 => (some t148)) else ((ent_Text.f x0).bind fun t149 => ((ent_Text.f x1).bind fun t150 => (if ((t149.toList == t150.toList) == (x0.toList == x1.toList)) = true then ((ent_Value.f x0).bind fun t151 => ((ent_Value.f x1).bind fun t152 => (if ((t151.toList == t152.toList) == (x0.toList == x1.toList)) = true then ((muslinlaw12_live.f).bind fun t153 => (some t153)) else (some false)))) else (some false))))
def muslinlaw12_EntApart.f (k : Nat) (a0 : ByteArray) (a1 : ByteArray) : Option (Bool) := (muslinlaw12_short.f a0).bind fun t146 => (if t146 = true then ((muslinlaw12_short.f a1).bind fun t147 => (muslinlaw12_EntApart.j0 k a0 a1 (!t147))) else (muslinlaw12_EntApart.j0 k a0 a1 true))
theorem muslinlaw12_EntApart.mono_l : ∀ k, (∀ y0 y1 y2, LeO (muslinlaw12_EntApart.j0 k y0 y1 y2) (muslinlaw12_EntApart.j0 (k + 1) y0 y1 y2))
  | 0 => fun _ _ _ r h => by simp [muslinlaw12_EntApart.j0] at h
  | k + 1 => by
    have ih0 := muslinlaw12_EntApart.mono_l k
    · intro y0 y1 y2
      unfold muslinlaw12_EntApart.j0
      repeat' first
      | (with_reducible exact ih0 _ _ _)
      | (with_reducible exact LeO.refl _)
      | (with_reducible exact LeO.none _)
      | (with_reducible refine LeO.ite ?_ ?_)
      | (with_reducible refine LeO.bind ?_ (fun _ => ?_))
      | exact ih0 _ _ _
      | exact LeO.none _
      | refine LeO.ite ?_ ?_
      | refine LeO.bind ?_ (fun _ => ?_)
theorem muslinlaw12_EntApart.mono : ∀ a0 a1 k, LeO (muslinlaw12_EntApart.f k a0 a1) (muslinlaw12_EntApart.f (k + 1) a0 a1) := by
  intro a0 a1 k
  have ih0 := muslinlaw12_EntApart.mono_l k
  unfold muslinlaw12_EntApart.f
  repeat' first
      | (with_reducible exact ih0 _ _ _)
      | (with_reducible exact LeO.refl _)
      | (with_reducible exact LeO.none _)
      | (with_reducible refine LeO.ite ?_ ?_)
      | (with_reducible refine LeO.bind ?_ (fun _ => ?_))
      | exact ih0 _ _ _
      | exact LeO.none _
      | refine LeO.ite ?_ ?_
      | refine LeO.bind ?_ (fun _ => ?_)
set_option maxHeartbeats 8000000 in
set_option maxRecDepth 100000 in
theorem muslinlaw12_EntApart.calls (k : Nat) (a0 : ByteArray) (a1 : ByteArray) (r : Bool) (w : World) (hGG : GG w) (h : muslinlaw12_EntApart.f k a0 a1 = some r) :
    Calls Tryz.prog 8 #[.string a0, .string a1] w fun e w' => e = .returned (.bool r) ∧ Below w.heap.size w w' := by
  have HB := Aside0.mk (Below.refl w.heap.size w)
  have H : ((muslinlaw12_short.f a0).bind fun t146 => (if t146 = true then ((muslinlaw12_short.f a1).bind fun t147 => (muslinlaw12_EntApart.j0 k a0 a1 (!t147))) else (muslinlaw12_EntApart.j0 k a0 a1 true))) = some r := h
  clear h
  have HC3 := Aside0.mk H
  clear H
  go_enter Tryz.func8, Tryz.ntmps8
  go_upto_region 1 with (fail)
  go_cut [12] (fun v12 wc => ∃ (kq : Nat) (x12_2 : Bool), v12 = .bool x12_2 ∧ Aside0 (muslinlaw12_EntApart.j0 kq a0 a1 x12_2 = some r) ∧ Aside0 (kq ≤ k) ∧ Aside0 (Below w.heap.size w wc))
  case first =>
    have H := HC3.out
    clear HC3
    replace H := Option.bind_eq_some_iff.mp H
    obtain ⟨t146, A40, H⟩ := H
    replace H : (if t146 = true then ((muslinlaw12_short.f a1).bind fun t147 => (muslinlaw12_EntApart.j0 k a0 a1 (!t147))) else (muslinlaw12_EntApart.j0 k a0 a1 true)) = some r := H
    have A4 := Aside0.mk A40
    clear A40
    by_cases c5 : t146 = true
    · subst c5
      have H1 : ((muslinlaw12_short.f a1).bind fun t147 => (muslinlaw12_EntApart.j0 k a0 a1 (!t147))) = some r := by rw [if_pos rfl] at H; exact H
      clear H
      have H := H1
      clear H1
      replace H := Option.bind_eq_some_iff.mp H
      obtain ⟨t147, A60, H⟩ := H
      replace H : (muslinlaw12_EntApart.j0 k a0 a1 (!t147)) = some r := H
      have A6 := Aside0.mk A60
      clear A60
      have H' := Aside0.mk H
      clear H
      go_wp2_with (first | ((with_reducible refine gate_callee (f := 10) rfl ?_); refine goesL_ (some 6) rfl rfl Tryz.func10 (by kernel_rfl) rfl #[.string a0] rfl (by (try simp only [List.map_toArray, List.map_cons, List.map_nil]); first | done | rfl | (simp only [List.length_drop, List.length_take]; rfl)) ?_; (with_reducible refine (muslinlaw12_short.calls a0 true _ A4.out).mono ?_); rintro e w' ⟨rfl, ⟨nd, rfl⟩⟩; refine ⟨_, rfl, ?_⟩) | (go_at_call 10; (with_reducible refine (muslinlaw12_short.calls a1 t147 _ A6.out).mono ?_); rintro e w' ⟨rfl, ⟨nd, rfl⟩⟩))
      go_meet
      case rel => exact ⟨_, (!t147), (by first | rfl | (simp; done) | (simp [*]; done)), H', ⟨by first | omega | exact Nat.le_refl _⟩, ⟨by repeat (first | (with_reducible first | exact HB.out | apply below_alloc | apply pw_below_drewN | apply below_drew1) | exact HB.out)⟩⟩
    · replace c5 := Bool.eq_false_iff.mpr c5
      subst c5
      have H1 : (muslinlaw12_EntApart.j0 k a0 a1 true) = some r := by rw [if_neg (show ¬ (false = true) by decide)] at H; exact H
      clear H
      have H := H1
      clear H1
      have H' := Aside0.mk H
      clear H
      go_wp2_with (first | ((with_reducible refine gate_callee (f := 10) rfl ?_); refine goesL_ (some 6) rfl rfl Tryz.func10 (by kernel_rfl) rfl #[.string a0] rfl (by (try simp only [List.map_toArray, List.map_cons, List.map_nil]); first | done | rfl | (simp only [List.length_drop, List.length_take]; rfl)) ?_; (with_reducible refine (muslinlaw12_short.calls a0 false _ A4.out).mono ?_); rintro e w' ⟨rfl, ⟨nd, rfl⟩⟩; refine ⟨_, rfl, ?_⟩))
      go_meet
      case rel => exact ⟨_, (true), (by first | rfl | (simp; done) | (simp [*]; done)), H', ⟨by first | omega | exact Nat.le_refl _⟩, ⟨by repeat (first | (with_reducible first | exact HB.out | apply below_alloc | apply pw_below_drewN | apply below_drew1) | exact HB.out)⟩⟩
  case rest =>
    clear HC3
    try clear c1
    try clear p2
    try clear c5
    obtain ⟨kq, x12_2, rfl, HA, HJ2, HB⟩ := hcut
    cases kq with
    | zero => exact absurd HA.out (by simp [muslinlaw12_EntApart.j0])
    | succ kj2 =>
      have H := HA.out
      clear HA
      simp only [muslinlaw12_EntApart.j0] at H
      by_cases c7 : x12_2 = true
      · subst c7
        have H1 : ((muslinlaw12_live.f).bind fun t148 => (some t148)) = some r := by rw [if_pos rfl] at H; exact H
        clear H
        have H := H1
        clear H1
        replace H := Option.bind_eq_some_iff.mp H
        obtain ⟨t148, A80, H⟩ := H
        replace H : (some t148) = some r := H
        have A8 := Aside0.mk A80
        clear A80
        obtain rfl := Option.some.inj H
        go_wp2_with (first | ((with_reducible refine gate_callee (f := 11) rfl ?_); refine goesL_ (some 13) rfl rfl Tryz.func11 (by kernel_rfl) rfl #[] rfl (by (try simp only [List.map_toArray, List.map_cons, List.map_nil]); first | done | rfl | (simp only [List.length_drop, List.length_take]; rfl)) ?_; (with_reducible refine (muslinlaw12_live.calls  t148 _ (hGG.step (by repeat (first | (with_reducible first | exact HB.out | apply below_alloc | apply pw_below_drewN | apply below_drew1) | exact HB.out))) A8.out).mono ?_); rintro e w9 ⟨rfl, hb⟩; refine ⟨_, rfl, ?_⟩; have n0_ := Aside0.mk (below_step (by repeat (first | (with_reducible first | exact HB.out | apply below_alloc | apply pw_below_drewN | apply below_drew1) | exact HB.out)) hb); clear HB; have HB := n0_; clear n0_; (try clear hb); (try clear hb2); (try clear hk); (try clear hi)))
        go_ret
        exact ⟨by first | rfl | (simp [errW_none, errW_some] <;> rfl) | (simp [*, errW_none, errW_some] <;> rfl), by repeat (first | (with_reducible first | exact HB.out | apply below_alloc | apply pw_below_drewN | apply below_drew1) | exact HB.out)⟩
      · replace c7 := Bool.eq_false_iff.mpr c7
        subst c7
        have H1 : ((ent_Text.f a0).bind fun t149 => ((ent_Text.f a1).bind fun t150 => (if ((t149.toList == t150.toList) == (a0.toList == a1.toList)) = true then ((ent_Value.f a0).bind fun t151 => ((ent_Value.f a1).bind fun t152 => (if ((t151.toList == t152.toList) == (a0.toList == a1.toList)) = true then ((muslinlaw12_live.f).bind fun t153 => (some t153)) else (some false)))) else (some false)))) = some r := by rw [if_neg (show ¬ (false = true) by decide)] at H; exact H
        clear H
        have H := H1
        clear H1
        replace H := Option.bind_eq_some_iff.mp H
        obtain ⟨t149, A100, H⟩ := H
        replace H : ((ent_Text.f a1).bind fun t150 => (if ((t149.toList == t150.toList) == (a0.toList == a1.toList)) = true then ((ent_Value.f a0).bind fun t151 => ((ent_Value.f a1).bind fun t152 => (if ((t151.toList == t152.toList) == (a0.toList == a1.toList)) = true then ((muslinlaw12_live.f).bind fun t153 => (some t153)) else (some false)))) else (some false))) = some r := H
        have A10 := Aside0.mk A100
        clear A100
        replace H := Option.bind_eq_some_iff.mp H
        obtain ⟨t150, A110, H⟩ := H
        replace H : (if ((t149.toList == t150.toList) == (a0.toList == a1.toList)) = true then ((ent_Value.f a0).bind fun t151 => ((ent_Value.f a1).bind fun t152 => (if ((t151.toList == t152.toList) == (a0.toList == a1.toList)) = true then ((muslinlaw12_live.f).bind fun t153 => (some t153)) else (some false)))) else (some false)) = some r := H
        have A11 := Aside0.mk A110
        clear A110
        by_cases c12 : ((t149.toList == t150.toList) == (a0.toList == a1.toList)) = true
        · rw [if_pos c12] at H
          have c12b0 : ((t149.toList == t150.toList) == (a0.toList == a1.toList)) = true := c12
          (try (have c12b1 : decide ((t149.toList == t150.toList) = (a0.toList == a1.toList)) = true := by simpa using c12))
          (try (have c12b2 : ((t149.toList == t150.toList) == (a0.toList == a1.toList)) = true := by simpa using c12))
          clear c12
          replace H := Option.bind_eq_some_iff.mp H
          obtain ⟨t151, A130, H⟩ := H
          replace H : ((ent_Value.f a1).bind fun t152 => (if ((t151.toList == t152.toList) == (a0.toList == a1.toList)) = true then ((muslinlaw12_live.f).bind fun t153 => (some t153)) else (some false))) = some r := H
          have A13 := Aside0.mk A130
          clear A130
          replace H := Option.bind_eq_some_iff.mp H
          obtain ⟨t152, A140, H⟩ := H
          replace H : (if ((t151.toList == t152.toList) == (a0.toList == a1.toList)) = true then ((muslinlaw12_live.f).bind fun t153 => (some t153)) else (some false)) = some r := H
          have A14 := Aside0.mk A140
          clear A140
          by_cases c15 : ((t151.toList == t152.toList) == (a0.toList == a1.toList)) = true
          · rw [if_pos c15] at H
            have c15b0 : ((t151.toList == t152.toList) == (a0.toList == a1.toList)) = true := c15
            (try (have c15b1 : decide ((t151.toList == t152.toList) = (a0.toList == a1.toList)) = true := by simpa using c15))
            (try (have c15b2 : ((t151.toList == t152.toList) == (a0.toList == a1.toList)) = true := by simpa using c15))
            clear c15
            replace H := Option.bind_eq_some_iff.mp H
            obtain ⟨t153, A160, H⟩ := H
            replace H : (some t153) = some r := H
            have A16 := Aside0.mk A160
            clear A160
            obtain rfl := Option.some.inj H
            go_wp2_with (first | ((with_reducible refine gate_callee (f := 14) rfl ?_); refine goesL_ (some 15) rfl rfl Tryz.func14 (by kernel_rfl) rfl #[.string a0] rfl (by (try simp only [List.map_toArray, List.map_cons, List.map_nil]); first | done | rfl | (simp only [List.length_drop, List.length_take]; rfl)) ?_; (with_reducible refine (ent_Text.calls a0 t149 _ (hGG.step (by repeat (first | (with_reducible first | exact HB.out | apply below_alloc | apply pw_below_drewN | apply below_drew1) | exact HB.out))) A10.out).mono ?_); rintro e w17 ⟨rfl, hb⟩; refine ⟨_, rfl, ?_⟩; have n0_ := Aside0.mk (below_step (by repeat (first | (with_reducible first | exact HB.out | apply below_alloc | apply pw_below_drewN | apply below_drew1) | exact HB.out)) hb); clear HB; have HB := n0_; clear n0_; (try clear hb); (try clear hb2); (try clear hk); (try clear hi)) | ((with_reducible refine gate_callee (f := 14) rfl ?_); refine goesL_ (some 17) rfl rfl Tryz.func14 (by kernel_rfl) rfl #[.string a1] rfl (by (try simp only [List.map_toArray, List.map_cons, List.map_nil]); first | done | rfl | (simp only [List.length_drop, List.length_take]; rfl)) ?_; (with_reducible refine (ent_Text.calls a1 t150 _ (hGG.step (by repeat (first | (with_reducible first | exact HB.out | apply below_alloc | apply pw_below_drewN | apply below_drew1) | exact HB.out))) A11.out).mono ?_); rintro e w18 ⟨rfl, hb⟩; refine ⟨_, rfl, ?_⟩; have n0_ := Aside0.mk (below_step (by repeat (first | (with_reducible first | exact HB.out | apply below_alloc | apply pw_below_drewN | apply below_drew1) | exact HB.out)) hb); clear HB; have HB := n0_; clear n0_; (try clear hb); (try clear hb2); (try clear hk); (try clear hi)) | (go_at_call 16; (with_reducible refine (ent_Value.calls a0 t151 _ (hGG.step (by repeat (first | (with_reducible first | exact HB.out | apply below_alloc | apply pw_below_drewN | apply below_drew1) | exact HB.out))) A13.out).mono ?_); rintro e w19 ⟨rfl, hb⟩; have n0_ := Aside0.mk (below_step (by repeat (first | (with_reducible first | exact HB.out | apply below_alloc | apply pw_below_drewN | apply below_drew1) | exact HB.out)) hb); clear HB; have HB := n0_; clear n0_; (try clear hb); (try clear hb2); (try clear hk); (try clear hi)) | (go_at_call 16; (with_reducible refine (ent_Value.calls a1 t152 _ (hGG.step (by repeat (first | (with_reducible first | exact HB.out | apply below_alloc | apply pw_below_drewN | apply below_drew1) | exact HB.out))) A14.out).mono ?_); rintro e w20 ⟨rfl, hb⟩; have n0_ := Aside0.mk (below_step (by repeat (first | (with_reducible first | exact HB.out | apply below_alloc | apply pw_below_drewN | apply below_drew1) | exact HB.out)) hb); clear HB; have HB := n0_; clear n0_; (try clear hb); (try clear hb2); (try clear hk); (try clear hi)) | (go_at_call 11; (with_reducible refine (muslinlaw12_live.calls  t153 _ (hGG.step (by repeat (first | (with_reducible first | exact HB.out | apply below_alloc | apply pw_below_drewN | apply below_drew1) | exact HB.out))) A16.out).mono ?_); rintro e w21 ⟨rfl, hb⟩; have n0_ := Aside0.mk (below_step (by repeat (first | (with_reducible first | exact HB.out | apply below_alloc | apply pw_below_drewN | apply below_drew1) | exact HB.out)) hb); clear HB; have HB := n0_; clear n0_; (try clear hb); (try clear hb2); (try clear hk); (try clear hi)))
            go_ret
            exact ⟨by first | rfl | (simp [errW_none, errW_some] <;> rfl) | (simp [*, errW_none, errW_some] <;> rfl), by repeat (first | (with_reducible first | exact HB.out | apply below_alloc | apply pw_below_drewN | apply below_drew1) | exact HB.out)⟩
          · rw [if_neg c15] at H
            have c15b0 : ((t151.toList == t152.toList) == (a0.toList == a1.toList)) = false := by simpa using c15
            (try (have c15b1 : decide ((t151.toList == t152.toList) = (a0.toList == a1.toList)) = false := by simpa using c15))
            (try (have c15b2 : ((t151.toList == t152.toList) == (a0.toList == a1.toList)) = false := by simpa using c15))
            (try (have c15b3 : ¬ ((t151.toList == t152.toList) = (a0.toList == a1.toList)) := by simpa using c15))
            clear c15
            obtain rfl := Option.some.inj H
            go_wp2_with (first | ((with_reducible refine gate_callee (f := 14) rfl ?_); refine goesL_ (some 15) rfl rfl Tryz.func14 (by kernel_rfl) rfl #[.string a0] rfl (by (try simp only [List.map_toArray, List.map_cons, List.map_nil]); first | done | rfl | (simp only [List.length_drop, List.length_take]; rfl)) ?_; (with_reducible refine (ent_Text.calls a0 t149 _ (hGG.step (by repeat (first | (with_reducible first | exact HB.out | apply below_alloc | apply pw_below_drewN | apply below_drew1) | exact HB.out))) A10.out).mono ?_); rintro e w22 ⟨rfl, hb⟩; refine ⟨_, rfl, ?_⟩; have n0_ := Aside0.mk (below_step (by repeat (first | (with_reducible first | exact HB.out | apply below_alloc | apply pw_below_drewN | apply below_drew1) | exact HB.out)) hb); clear HB; have HB := n0_; clear n0_; (try clear hb); (try clear hb2); (try clear hk); (try clear hi)) | ((with_reducible refine gate_callee (f := 14) rfl ?_); refine goesL_ (some 17) rfl rfl Tryz.func14 (by kernel_rfl) rfl #[.string a1] rfl (by (try simp only [List.map_toArray, List.map_cons, List.map_nil]); first | done | rfl | (simp only [List.length_drop, List.length_take]; rfl)) ?_; (with_reducible refine (ent_Text.calls a1 t150 _ (hGG.step (by repeat (first | (with_reducible first | exact HB.out | apply below_alloc | apply pw_below_drewN | apply below_drew1) | exact HB.out))) A11.out).mono ?_); rintro e w23 ⟨rfl, hb⟩; refine ⟨_, rfl, ?_⟩; have n0_ := Aside0.mk (below_step (by repeat (first | (with_reducible first | exact HB.out | apply below_alloc | apply pw_below_drewN | apply below_drew1) | exact HB.out)) hb); clear HB; have HB := n0_; clear n0_; (try clear hb); (try clear hb2); (try clear hk); (try clear hi)) | (go_at_call 16; (with_reducible refine (ent_Value.calls a0 t151 _ (hGG.step (by repeat (first | (with_reducible first | exact HB.out | apply below_alloc | apply pw_below_drewN | apply below_drew1) | exact HB.out))) A13.out).mono ?_); rintro e w24 ⟨rfl, hb⟩; have n0_ := Aside0.mk (below_step (by repeat (first | (with_reducible first | exact HB.out | apply below_alloc | apply pw_below_drewN | apply below_drew1) | exact HB.out)) hb); clear HB; have HB := n0_; clear n0_; (try clear hb); (try clear hb2); (try clear hk); (try clear hi)) | (go_at_call 16; (with_reducible refine (ent_Value.calls a1 t152 _ (hGG.step (by repeat (first | (with_reducible first | exact HB.out | apply below_alloc | apply pw_below_drewN | apply below_drew1) | exact HB.out))) A14.out).mono ?_); rintro e w25 ⟨rfl, hb⟩; have n0_ := Aside0.mk (below_step (by repeat (first | (with_reducible first | exact HB.out | apply below_alloc | apply pw_below_drewN | apply below_drew1) | exact HB.out)) hb); clear HB; have HB := n0_; clear n0_; (try clear hb); (try clear hb2); (try clear hk); (try clear hi)))
            go_ret
            exact ⟨by first | rfl | (simp [errW_none, errW_some] <;> rfl) | (simp [*, errW_none, errW_some] <;> rfl), by repeat (first | (with_reducible first | exact HB.out | apply below_alloc | apply pw_below_drewN | apply below_drew1) | exact HB.out)⟩
        · rw [if_neg c12] at H
          have c12b0 : ((t149.toList == t150.toList) == (a0.toList == a1.toList)) = false := by simpa using c12
          (try (have c12b1 : decide ((t149.toList == t150.toList) = (a0.toList == a1.toList)) = false := by simpa using c12))
          (try (have c12b2 : ((t149.toList == t150.toList) == (a0.toList == a1.toList)) = false := by simpa using c12))
          (try (have c12b3 : ¬ ((t149.toList == t150.toList) = (a0.toList == a1.toList)) := by simpa using c12))
          clear c12
          obtain rfl := Option.some.inj H
          go_wp2_with (first | ((with_reducible refine gate_callee (f := 14) rfl ?_); refine goesL_ (some 15) rfl rfl Tryz.func14 (by kernel_rfl) rfl #[.string a0] rfl (by (try simp only [List.map_toArray, List.map_cons, List.map_nil]); first | done | rfl | (simp only [List.length_drop, List.length_take]; rfl)) ?_; (with_reducible refine (ent_Text.calls a0 t149 _ (hGG.step (by repeat (first | (with_reducible first | exact HB.out | apply below_alloc | apply pw_below_drewN | apply below_drew1) | exact HB.out))) A10.out).mono ?_); rintro e w26 ⟨rfl, hb⟩; refine ⟨_, rfl, ?_⟩; have n0_ := Aside0.mk (below_step (by repeat (first | (with_reducible first | exact HB.out | apply below_alloc | apply pw_below_drewN | apply below_drew1) | exact HB.out)) hb); clear HB; have HB := n0_; clear n0_; (try clear hb); (try clear hb2); (try clear hk); (try clear hi)) | ((with_reducible refine gate_callee (f := 14) rfl ?_); refine goesL_ (some 17) rfl rfl Tryz.func14 (by kernel_rfl) rfl #[.string a1] rfl (by (try simp only [List.map_toArray, List.map_cons, List.map_nil]); first | done | rfl | (simp only [List.length_drop, List.length_take]; rfl)) ?_; (with_reducible refine (ent_Text.calls a1 t150 _ (hGG.step (by repeat (first | (with_reducible first | exact HB.out | apply below_alloc | apply pw_below_drewN | apply below_drew1) | exact HB.out))) A11.out).mono ?_); rintro e w27 ⟨rfl, hb⟩; refine ⟨_, rfl, ?_⟩; have n0_ := Aside0.mk (below_step (by repeat (first | (with_reducible first | exact HB.out | apply below_alloc | apply pw_below_drewN | apply below_drew1) | exact HB.out)) hb); clear HB; have HB := n0_; clear n0_; (try clear hb); (try clear hb2); (try clear hk); (try clear hi)))
          go_ret
          exact ⟨by first | rfl | (simp [errW_none, errW_some] <;> rfl) | (simp [*, errW_none, errW_some] <;> rfl), by repeat (first | (with_reducible first | exact HB.out | apply below_alloc | apply pw_below_drewN | apply below_drew1) | exact HB.out)⟩

/-- THE ONE PURE STATEMENT of muslinlaw12_EntApart: yours. -/
def muslinlaw12_EntApart.Pure : Prop := ∀ (a0 : ByteArray) (a1 : ByteArray), a0.size ≤ 140737488351232 → a1.size ≤ 140737488351232 → ∃ k, muslinlaw12_EntApart.f k a0 a1 = some true
theorem muslinlaw12_EntApart.walk (P : muslinlaw12_EntApart.Pure) (a0 : ByteArray) (a1 : ByteArray) (w : World) (hGG : GG w) (w0 : a0.size ≤ 140737488351232) (w1 : a1.size ≤ 140737488351232) :
    Calls Tryz.prog 8 #[.string a0, .string a1] w fun e w' => e = .returned (.bool true) ∧ Below w.heap.size w w' := by
  obtain ⟨k, h⟩ := P a0 a1 w0 w1
  refine (muslinlaw12_EntApart.calls k a0 a1 true w hGG h).mono ?_
  rintro e w' ⟨rfl, hd⟩
  exact ⟨rfl, hd⟩

end Go.Proofs.YtagbehhggpepfaaGreatDoor.GE
