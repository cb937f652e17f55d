/- What the rows of layer 12 share: what the listed variables give the walks, and a world in which they are laid. -/
import Derived.Test.YtagbehhggpepfaaGreatDoorRows
import Derived.Test.YtagbehhggpepfaaGreatDoorGiven
import Derived.ProofKit
import Derived.LaidMore
import Derived.Lay
import Derived.OpenShut
import Derived.ShutString
import Derived.ChangeOld
import Derived.SizedLaws
import Derived.Lib.LaidU8
import Derived.Shelf.Vars
import Derived.Stop.Joined
import Derived.Laws.IdiomMaps
import Derived.MakeChecks
set_option linter.unusedVariables false
namespace Go.Proofs.YtagbehhggpepfaaGreatDoor.RowB
open Go.ChangeShapes Go.WideShapes Go.ChangeAt Go.WideMaps Go.WideElems Go.RowKit
open Go.Proofs.YtagbehhggpepfaaGreatDoor.Ent Go.Proofs.YtagbehhggpepfaaGreatDoor.Given

theorem own : ownKnob Tryz.prog.godebug = none := by kernel_rfl

/-- The list that each row bears. -/
abbrev laid : List (String × DataW Unit) := Rows.entDecodesRow.laid

/-- 'returnsInHanded_of_change_and', the world's shape handed on besides. -/
theorem handed {H : Type} {enc : TypeId × Value → H} {a : Assume} {C : Checked} {os : Os} {f : FuncId} {fn : Func} {s : ChangeSpec} {conds : List PathCond} {apart fresh handsOn again : Bool} {X : World → Array Value → Prop}
    (hX : ∀ (w w' : World) (args : Array Value), w.heap = w'.heap → X w args → X w' args)
    (own : ownKnob C.prog.godebug = none) (started : os.Started) (noInit : C.prog.inits.idxOf? f = none) (hfn : C.prog.funcs[f]? = some fn)
    (witness : ∃ (w : World) (tape : Tape) (i : Input), w.os = os ∧ (w.forCall tape i).Shaped C.prog ∧ i.vars = [] ∧ Input.okWide C.prog (w.forCall tape i) .any w.heap.size f i ∧
      ((s.pre enc C.prog fn conds apart (w.forCall tape i).memory i.args ∧ X (w.forCall tape i).memory i.args) ∧ sizedMet enc C.prog fn (OpenSpec.ofChange s) apart (w.forCall tape i).memory i.args) ∧ a.holds C.prog (lone (Frame.enter C.prog f i.args .normal) [] (w.forCall tape i)))
    (contract : ∀ (W : World) (base : Nat) (args : Array Value) (ds gs : List (DataW H)) (before : List MemPlace),
      (∀ (j : Nat) t v, fn.params[j]? = some t → args[j]? = some v → Value.okWide C.prog W .any base t v) →
      DataW.Whole enc C.prog fn.params.toList s.vars apart W args.toList ds gs before →
      conds.all (PathCond.test C.prog ⟨fn.params.toList, ds, s.plain.varTypes C.prog, gs⟩) = true →
      (DataW.weightsEach C.prog (fn.params.toList ++ s.plain.varTypes C.prog) (ds ++ gs)).all (· ≤ reachBytes) = true → X W args → W.ShapedOpen C.prog →
      a.holds C.prog (lone (Frame.enter C.prog f args .normal) [] W) →
      Calls C.prog f args W fun e W' => ∃ v, e = .returned v ∧ s.post enc C.prog fn apart fresh handsOn again W args v W') :
    ReturnsInHanded a C os f .any (fun w args => (s.pre enc C.prog fn conds apart w args ∧ X w args) ∧ sizedMet enc C.prog fn (OpenSpec.ofChange s) apart w args) (s.post enc C.prog fn apart fresh handsOn again) := by
  refine returnsInHanded_of_calls own started noInit witness ?_
  intro w tape i _ hsh _ hok hpre hholds
  obtain ⟨_, _, _, fn', hfn', _, _, _, _, hval⟩ := hok
  have e : fn' = fn := Option.some.inj (hfn'.symm.trans hfn)
  subst e
  obtain ⟨⟨⟨ds, gs, before, hw, hc⟩, hx⟩, hz⟩ := hpre
  have hw' := DataW.Whole.of_heap (w' := w.forCall tape i) (by rfl) hw
  refine (contract (w.forCall tape i) w.heap.size i.args ds gs before hval hw' hc (hz.weights hw) (hX _ _ _ (by rfl) hx) hsh hholds).mono fun e W' ⟨v, he, hp⟩ => ?_
  subst he
  exact ChangeSpec.post_blind hp

/-! ### what the listed variables give -/
theorem max_at {W : World} (h : W.ShapedOpen Tryz.prog) : Cut1.MaxAt W :=
  cell_of_shapedOpen_int (g := 1) (t := 3) (zero := #[.int .i64 0]) h (of_decide_eq_true (by kernel_rfl)) (by kernel_rfl) rfl (by kernel_rfl) (by kernel_rfl) Tryz.underlying3

theorem high_at {W : World} (h : Lib.VarReads Tryz.prog W "muslin/chars.high" Rows.laid_muslin_chars_high) : Chars.HighAt W := by
  obtain ⟨g, t, cs, fuel, p, hg, ht, hv, hd⟩ := h
  obtain rfl := Option.some.inj ((show Tryz.prog.globalNamed "muslin/chars.high" = some 2 by kernel_rfl).symm.trans hg)
  obtain rfl := Option.some.inj ((show (Tryz.prog.globals[2]?).map (·.type) = some 119 by kernel_rfl).symm.trans ht)
  have hcs := Lib.cells_of_tab (k := .i32) (zs := highs) (e := 21) (n := 32) Tryz.underlying119 Tryz.underlying21 (by kernel_rfl) (by kernel_rfl) hd
  have hT : Lib.TabIs Tryz.prog W "muslin/chars.high" .i32 highs := by unfold Lib.TabIs; rw [hv, ← hcs]
  exact fun i hi => hT.cell (by kernel_rfl) i hi

theorem err_at {W : World} (h : Lib.VarReads Tryz.prog W "strconv.ErrSyntax" Rows.laid_strconv_ErrSyntax) : Dig.ErrAt W := by
  unfold Rows.laid_strconv_ErrSyntax at h
  obtain ⟨g, t, cs, fuel, p, hg, ht, hv, hd⟩ := h
  obtain rfl := Option.some.inj ((show Tryz.prog.globalNamed "strconv.ErrSyntax" = some 5 by kernel_rfl).symm.trans hg)
  obtain rfl := Option.some.inj ((show (Tryz.prog.globals[5]?).map (·.type) = some 35 by kernel_rfl).symm.trans ht)
  obtain ⟨f1, u, v, hcs, hn, h1⟩ := iface_of_trod Tryz.underlying35 hd
  refine ⟨.iface u v, ?_, Or.inr ⟨u, v, rfl⟩⟩
  have := World.var?_cell (by kernel_rfl : Tryz.prog.globalNamed "strconv.ErrSyntax" = some 5) hv 0
  rw [Array.eq_one_of_toList hcs] at this
  simpa using this

theorem names_find (s : Bs) (z : DataW Unit) : DataW.atKey Rows.laid_muslin_ent_names (.string s) z = match names.lookup s with | some v => .lit (.int .i32 v) | none => z := by
  have key : ∀ (l : List (Bs × Int)), DataW.atKey (H := Unit) (.map (l.map fun p => (.string p.1, .lit (.int .i32 p.2)))) (.string s) z = match l.lookup s with | some v => .lit (.int .i32 v) | none => z := by
    intro l
    induction l with
    | nil => rfl
    | cons p l ih =>
      obtain ⟨a, b⟩ := p
      unfold DataW.atKey at ih ⊢
      simp only [List.map_cons, List.find?_cons, List.lookup_cons] at ih ⊢
      by_cases h : s = a
      · subst h
        have e1 : (Lit.string s).sameKey (Lit.string s) = true := by simp [Lit.sameKey]
        rw [e1]
        simp
      · have e1 : (Lit.string a).sameKey (Lit.string s) = false := by simpa [Lit.sameKey] using Ne.symm h
        have e2 : (s == a) = false := beq_eq_false_iff_ne.2 h
        rw [e1, e2]
        exact ih
  exact key names

set_option maxRecDepth 100000 in
theorem names_at {W : World} (h : Lib.VarReads Tryz.prog W "muslin/ent.names" Rows.laid_muslin_ent_names) : Sig.NamesAt W := by
  obtain ⟨g, t, cs, fuel, p, hg, ht, hv, hd⟩ := h
  obtain rfl := Option.some.inj ((show Tryz.prog.globalNamed "muslin/ent.names" = some 0 by kernel_rfl).symm.trans hg)
  obtain rfl := Option.some.inj ((show (Tryz.prog.globals[0]?).map (·.type) = some 52 by kernel_rfl).symm.trans ht)
  have law : KeyLaw Tryz.prog 9 := string_law Tryz.underlying9
  have hfind := names_find
  have hnil : Rows.laid_muslin_ent_names ≠ (.nil : DataW Unit) := by intro e; cases e
  generalize Rows.laid_muslin_ent_names = D at hd hfind hnil
  rcases open_map Tryz.underlying52 hd with ⟨_, hx⟩ | ⟨bm, es, clock, m, _, hcs, hb, _, F, hx⟩
  · exact absurd (congrArg Prod.fst hx) hnil
  have hcell : W.cell? ⟨0, 0, none⟩ = some (.map (some bm)) := by
    have := World.var?_cell (by kernel_rfl : Tryz.prog.globalNamed "muslin/ent.names" = some 0) hv 0
    rw [Array.eq_one_of_toList hcs] at this
    simpa using this
  have hlt : bm < W.heap.size := by
    rcases Nat.lt_or_ge bm W.heap.size with h' | h'
    · exact h'
    · simp [Array.getElem?_eq_none h'] at hb
  refine ⟨bm, hcell, fun W' hB s hs => ?_⟩
  have zero : (zeroValue 21).run Tryz.prog W' = .ok (.int .i32 0) W' := by kernel_rfl
  have hb' : W'.heap[bm]? = some (.map es clock) := (hB.block bm hlt).trans hb
  have hf := hfind s.data.toList .nil
  have hD := congrArg Prod.fst hx
  simp only at hD
  rcases fit_lookup_ok (w := W') law Tryz.underlying52 zero hb' F (keyOf_string_mk (s := s) Tryz.underlying9 (by unfold maxLen; omega)) with ⟨hrun, hat⟩ | ⟨v, y, hrun, hRv, hat, _⟩
  · have := hat .nil
    rw [← hD, hf] at this
    have hn : names.lookup (Ref.lst s) = none := by
      cases hl : names.lookup (Ref.lst s) with
      | none => rfl
      | some v =>
        have hl' : names.lookup s.data.toList = some v := hl
        rw [hl'] at this
        cases this
    rw [hn]
    exact hrun
  · obtain ⟨r, rfl, rfl, _⟩ := elemAt_int Tryz.underlying21 hRv
    have := hat .nil
    rw [← hD, hf] at this
    have hn : names.lookup (Ref.lst s) = some r := by
      cases hl : names.lookup (Ref.lst s) with
      | none =>
        have hl' : names.lookup s.data.toList = none := hl
        rw [hl'] at this
        cases this
      | some v =>
        have hl' : names.lookup s.data.toList = some v := hl
        rw [hl'] at this
        simp at this
        rw [this]
    rw [hn]
    exact hrun

theorem gg {W : World} (hL : laidMetH Tryz.prog laid W) (hS : W.ShapedOpen Tryz.prog) : GG W := by
  rw [MakeChecks.laidMetH_plain _ _ _ (by kernel_rfl)] at hL
  have hr : ∀ {n : String} {d : DataW Unit}, (n, d) ∈ laid → Lib.VarReads Tryz.prog W n d := fun h => Lib.laidMet.reads hL h
  exact ⟨max_at hS, high_at (hr (by simp [laid, Rows.entDecodesRow])), err_at (hr (by simp [laid, Rows.entDecodesRow])), names_at (hr (by simp [laid, Rows.entDecodesRow]))⟩

/-! ### a world in which they are laid -/
abbrev great : List String := ["unicode/utf8.first"]
noncomputable def door (os : Os) : World := World.doorLaid Tryz.prog 162 os
noncomputable def start (os : Os) : World := (door os).layVars Tryz.prog (laid.filter fun x => great.contains x.1)
noncomputable def blocks (os : Os) : List Nat := (List.range (door os).heap.size).filter fun b => b != 3

theorem start_os (os : Os) : (start os).os = os := World.layVars_os _ _ _
theorem start_met (os : Os) (args : Array Value) : laidMetH Tryz.prog laid ((start os).forCall (fun _ _ => 0) ⟨#[], args, []⟩).memory := by
  rw [MakeChecks.laidMetH_plain _ _ _ (by kernel_rfl)]
  have h : laidMet Tryz.prog laid (start os) := laidMet_layVars (w0 := door os) great (blocks os) rfl (by kernel_rfl) (by kernel_rfl) (LaidIn.of_run (blocks os) 8 (by kernel_rfl) (by kernel_rfl) (by kernel_rfl) (by kernel_rfl))
  exact h.of_heap (by simp [World.memory, World.forCall, Input.heap])
end Go.Proofs.YtagbehhggpepfaaGreatDoor.RowB
