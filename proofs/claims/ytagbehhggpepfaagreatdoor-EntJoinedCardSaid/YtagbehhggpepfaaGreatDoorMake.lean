/- The replacer's trie: what 'add' lays. makeGenericReplacer, the first loop: which bytes the keys use. -/
import Derived.Test.YtagbehhggpepfaaGreatDoorProg
import Derived.Test.YtagbehhggpepfaaGreatDoorLaw
import Derived.WalkKit
import Derived.WalkSpells
import Derived.Deep.QuietTactic
import Derived.BigQuiet
import Derived.RegionTactic
import Derived.StillTailTactics
import Derived.Lib.Hide
import Derived.Lib.OthersKept
import Derived.Laws.Rows
import Derived.Deep.MidRow
set_option linter.unusedVariables false
set_option linter.unusedSimpArgs false
namespace Go.Proofs.YtagbehhggpepfaaGreatDoor.Trie
open Go.RowKit


abbrev node (val : ByteArray) (pr : Int) (pfx : ByteArray) (nxt tab : Value) : Array Value := #[.string val, .int .i64 pr, .string pfx, nxt, tab]

set_option maxHeartbeats 2000000 in
set_option maxRecDepth 100000 in
theorem add_empty (b : Nat) (val : ByteArray) (pr : Int) (r : Value) (w : World) (x0 : Value) (c0 : w.cell? ⟨b, 0, none⟩ = some x0) (c1 : w.cell? ⟨b, 1, none⟩ = some (.int .i64 0)) (f0 : w.frozen? ⟨b, 0, none⟩ = false) (f1 : w.frozen? ⟨b, 1, none⟩ = false) :
    Calls Tryz.prog 99 #[.pointer (some ⟨b, 0, none⟩), .string ⟨#[]⟩, .string val, .int .i64 pr, r] w fun e w' =>
      e = .returned (.tuple #[]) ∧ w' = (w.setCell ⟨b, 0, none⟩ (.string val)).setCell ⟨b, 1, none⟩ (.int .i64 pr) := by
  have hemp : (⟨#[]⟩ : ByteArray).toList.isEmpty = true := by rw [Go.Lib.toList_data]; rfl
  go_enter Tryz.func99, Tryz.ntmps99
  go_wp2
  ((try simp only [Exit.inBlock, Exit.then]); refine bodyPost_ret (results_none rfl _ _ _) rfl ?_)
  exact ⟨rfl, rfl⟩

/-- A fresh node's block. -/
def zeroNode : Obj := .cells (node ⟨#[]⟩ 0 ⟨#[]⟩ (.pointer none) (.slice none 0 0)) 131 (0, 0)

set_option maxHeartbeats 2000000 in
set_option maxRecDepth 100000 in
theorem add_leaf (b : Nat) (key val : ByteArray) (pr : Int) (r : Value) (w : World) (x2 x3 : Value) (hk : key.toList.isEmpty = false)
    (c2 : w.cell? ⟨b, 2, none⟩ = some (.string ⟨#[]⟩)) (c3 : w.cell? ⟨b, 3, none⟩ = some x3) (c4 : w.cell? ⟨b, 4, none⟩ = some (.slice none 0 0)) (f2 : w.frozen? ⟨b, 2, none⟩ = false) (f3 : w.frozen? ⟨b, 3, none⟩ = false) :
    Calls Tryz.prog 99 #[.pointer (some ⟨b, 0, none⟩), .string key, .string val, .int .i64 pr, r] w fun e w' =>
      e = .returned (.tuple #[]) ∧ w' = (((((w.setCell ⟨b, 2, none⟩ (.string key)).setCell ⟨b, 3, none⟩ (.pointer (some ⟨w.heap.size, 0, none⟩))).alloc zeroNode).setCell ⟨w.heap.size, 0, none⟩ (.string val)).setCell ⟨w.heap.size, 1, none⟩ (.int .i64 pr)) := by
  have hemp : (⟨#[]⟩ : ByteArray).toList.isEmpty = true := by rw [Go.Lib.toList_data]; rfl
  have hlt : b < w.heap.size := World.block_lt_of_cell? w _ c2
  have hsn : ∀ w, Go.Sem.run Tryz.prog (Go.binOp .neq 129 (.slice none 0 0) (.slice none 0 0)) w = .ok (.bool false) w := fun w => Go.run_neq_slice_nil_any w _ _ none 0 0 0 0 Tryz.underlying129
  go_enter Tryz.func99, Tryz.ntmps99
  go_wp2_with fail
  have hn0 : ∀ W : World, (W.alloc zeroNode).cell? ⟨W.heap.size, 0, none⟩ = some (.string ⟨#[]⟩) := fun W => by unfold zeroNode; go_simp
  have hn1 : ∀ W : World, (W.alloc zeroNode).cell? ⟨W.heap.size, 1, none⟩ = some (.int .i64 0) := fun W => by unfold zeroNode; go_simp
  have hf0 : ∀ (W : World) (i : Nat), (W.alloc zeroNode).frozen? ⟨W.heap.size, i, none⟩ = false := fun W i => by unfold zeroNode; go_simp
  have hsz : ((w.setCell ⟨b, 2, none⟩ (.string key)).setCell ⟨b, 3, none⟩ (.pointer (some ⟨w.heap.size, 0, none⟩))).heap.size = w.heap.size := by simp
  have h0 := hn0 ((w.setCell ⟨b, 2, none⟩ (.string key)).setCell ⟨b, 3, none⟩ (.pointer (some ⟨w.heap.size, 0, none⟩)))
  have h1 := hn1 ((w.setCell ⟨b, 2, none⟩ (.string key)).setCell ⟨b, 3, none⟩ (.pointer (some ⟨w.heap.size, 0, none⟩)))
  have h2 := hf0 ((w.setCell ⟨b, 2, none⟩ (.string key)).setCell ⟨b, 3, none⟩ (.pointer (some ⟨w.heap.size, 0, none⟩)))
  rw [hsz] at h0 h1 h2
  refine (add_empty w.heap.size val pr r _ _ h0 h1 (h2 0) (h2 1)).mono ?_
  rintro e w1 ⟨rfl, rfl⟩
  go_wp2
  go_end0
  exact ⟨rfl, rfl⟩

set_option maxHeartbeats 2000000 in
set_option maxRecDepth 100000 in
theorem add_root (g tb N : Nat) (c : UInt8) (val : ByteArray) (pr : Int) (m : Int) (htg : tb ≠ g) (hm0 : 0 ≤ m) (hm : m < N) (hN : N ≤ 1000) (w : World)
    (c2 : w.cell? ⟨g, 2, none⟩ = some (.string ⟨#[]⟩)) (c4 : w.cell? ⟨g, 4, none⟩ = some (.slice (some ⟨tb, 0, none⟩) N N)) (cm : w.cell? ⟨g, 6 + c.toNat, none⟩ = some (.int .u8 m))
    (ct : w.cell? ⟨tb, m.toNat, none⟩ = some (.pointer none)) (ft : w.frozen? ⟨tb, m.toNat, none⟩ = false)
    (key : ByteArray) (hk : key.toList.isEmpty = false) (h0 : 0 < key.size) (hc : key[0]'h0 = c)
    (R : World → Prop) (sub : ∀ n, Calls Tryz.prog 99 #[.pointer (some ⟨w.heap.size, 0, none⟩), .string (key.extract 1 key.size), .string val, .int .i64 pr, .pointer (some ⟨g, 0, none⟩)]
      (((w.drewN n).alloc zeroNode).setCell ⟨tb, m.toNat, none⟩ (.pointer (some ⟨w.heap.size, 0, none⟩))).drew fun e w' => e = .returned (.tuple #[]) ∧ R w') :
    Calls Tryz.prog 99 #[.pointer (some ⟨g, 0, none⟩), .string key, .string val, .int .i64 pr, .pointer (some ⟨g, 0, none⟩)] w fun e w' =>
      e = .returned (.tuple #[]) ∧ R w' := by
  have hemp : (⟨#[]⟩ : ByteArray).toList.isEmpty = true := by rw [Go.Lib.toList_data]; rfl
  have hc256 := c.toNat_lt
  have hsn : ∀ w, Go.Sem.run Tryz.prog (Go.binOp .neq 129 (.slice (some ⟨tb, 0, none⟩) N N) (.slice none 0 0)) w = .ok (.bool true) w := fun w => Go.run_neq_slice_nil_any w _ _ _ N N 0 0 Tryz.underlying129
  go_enter Tryz.func99, Tryz.ntmps99
  go_wp2_with fail
  have SUB := Lib.hid sub
  clear sub
  go_quiet (fail)
  have hfa : ∀ n : Nat, ((w.drewN n).alloc zeroNode).frozen? ⟨tb, m.toNat, none⟩ = false := fun n => (frozen?_alloc_cells _ _ _ _).trans ft
  have hca : ∀ n : Nat, ((w.drewN n).alloc zeroNode).cell? ⟨tb, m.toNat, none⟩ = some (.pointer none) := fun n => Lib.cell?_alloc_some _ ct
  have hcs : ∀ (n : Nat) (v : Value), (((w.drewN n).alloc zeroNode).setCell ⟨tb, m.toNat, none⟩ v).cell? ⟨tb, m.toNat, none⟩ = some v := fun n v => World.cell?_setCell_same _ _ _ (hca n)
  have hc4 : ∀ (n : Nat) (v : Value), (((w.drewN n).alloc zeroNode).setCell ⟨tb, m.toNat, none⟩ v).cell? ⟨g, 4, none⟩ = some (.slice (some ⟨tb, 0, none⟩) N N) := fun n v => (World.cell?_setCell_other _ ⟨tb, m.toNat, none⟩ ⟨g, 4, none⟩ _ (fun e => htg (congrArg Addr.block e))).trans (Lib.cell?_alloc_some _ c4)
  unfold zeroNode node at hfa hca hcs hc4
  go_wp2_with fail
  have g4 := hc4 nq (.pointer (some ⟨w.heap.size, 0, none⟩))
  have gs := hcs nq (.pointer (some ⟨w.heap.size, 0, none⟩))
  generalize hW : ((w.drewN nq).alloc (.cells #[.string ⟨#[]⟩, .int .i64 0, .string ⟨#[]⟩, .pointer none, .slice none 0 0] 131)).setCell ⟨tb, m.toNat, none⟩ (.pointer (some ⟨w.heap.size, 0, none⟩)) = W at g4 gs ⊢
  have HS := Lib.hid (SUB.out nq)
  clear SUB
  have hW' : ((w.drewN nq).alloc zeroNode).setCell ⟨tb, m.toNat, none⟩ (.pointer (some ⟨w.heap.size, 0, none⟩)) = W := hW
  rw [hW'] at HS
  clear hW'
  clear hW hcs hc4 hca hfa
  have hk1 : (1 : Int) ≤ (key.size : Int) := by omega
  go_still_tail 12, (by kernel_rfl)
  change wpList _ _ _ _ _ W.drew
  generalize W.drew = W2 at HS ⊢
  go_wp2_with fail
  refine HS.out.mono ?_
  rintro e w1 ⟨rfl, hR⟩
  go_wp2
  go_end0
  exact ⟨rfl, hR⟩

/-- What an 'add' at the root does: one cell of the table turns, one node (and what hangs from it) is new. -/
structure Added (B tb m : Nat) (w w' : World) : Prop where
  old : ∀ a v, a ≠ ⟨tb, m, none⟩ → w.cell? a = some v → w'.cell? a = some v
  froz : ∀ a v, w.cell? a = some v → w'.frozen? a = w.frozen? a
  here : w'.cell? ⟨tb, m, none⟩ = some (.pointer (some ⟨w.heap.size, 0, none⟩))
  below : B ≤ tb → B ≤ w.heap.size → Below B w w'
  size : w.heap.size < w'.heap.size

/-- A node that ends a text. -/
structure Leaf (n : Nat) (val : ByteArray) (pr : Int) (w : World) : Prop where
  val : w.cell? ⟨n, 0, none⟩ = some (.string val)
  pr : w.cell? ⟨n, 1, none⟩ = some (.int .i64 pr)
  pfx : w.cell? ⟨n, 2, none⟩ = some (.string ⟨#[]⟩)
  tab : w.cell? ⟨n, 4, none⟩ = some (.slice none 0 0)

/-- A node with a prefix behind which another stands. -/
structure Mid (n k : Nat) (key : ByteArray) (w : World) : Prop where
  pr : w.cell? ⟨n, 1, none⟩ = some (.int .i64 0)
  pfx : w.cell? ⟨n, 2, none⟩ = some (.string key)
  nxt : w.cell? ⟨n, 3, none⟩ = some (.pointer (some ⟨k, 0, none⟩))
  tab : w.cell? ⟨n, 4, none⟩ = some (.slice none 0 0)

theorem zero_cells (W : World) : (W.alloc zeroNode).cell? ⟨W.heap.size, 0, none⟩ = some (.string ⟨#[]⟩) ∧ (W.alloc zeroNode).cell? ⟨W.heap.size, 1, none⟩ = some (.int .i64 0) ∧ (W.alloc zeroNode).cell? ⟨W.heap.size, 2, none⟩ = some (.string ⟨#[]⟩) ∧
    (W.alloc zeroNode).cell? ⟨W.heap.size, 3, none⟩ = some (.pointer none) ∧ (W.alloc zeroNode).cell? ⟨W.heap.size, 4, none⟩ = some (.slice none 0 0) := by
  unfold zeroNode
  refine ⟨?_, ?_, ?_, ?_, ?_⟩ <;> go_simp
theorem zero_froz (W : World) (a : Addr) : (W.alloc zeroNode).frozen? a = W.frozen? a := frozen?_alloc_cells _ _ _ _

theorem other {W : World} {a b : Addr} (v : Value) (h : a ≠ b) : (W.setCell a v).cell? b = W.cell? b := World.cell?_setCell_other _ a b _ h

/-- The world in which the node hangs. -/
def hung (w : World) (n tb m : Nat) : World := (((w.drewN n).alloc zeroNode).setCell ⟨tb, m, none⟩ (.pointer (some ⟨w.heap.size, 0, none⟩))).drew

theorem hung_cell (w : World) (n tb m : Nat) (a : Addr) (h : a ≠ ⟨tb, m, none⟩) : (hung w n tb m).cell? a = (w.alloc zeroNode).cell? a := by
  unfold hung
  rw [World.cell?_drew]
  exact (other _ (Ne.symm h)).trans rfl
theorem hung_old {w : World} {n tb m : Nat} {a : Addr} {v : Value} (h : a ≠ ⟨tb, m, none⟩) (hc : w.cell? a = some v) : (hung w n tb m).cell? a = some v := by
  rw [hung_cell _ _ _ _ _ h]; exact Lib.cell?_alloc_some _ hc
theorem hung_froz (w : World) (n tb m : Nat) (a : Addr) : (hung w n tb m).frozen? a = w.frozen? a := by
  unfold hung
  rw [World.frozen?_drew, World.frozen?_setCell, zero_froz]
  rfl
theorem hung_here {w : World} {n tb m : Nat} {v : Value} (h : w.cell? ⟨tb, m, none⟩ = some v) : (hung w n tb m).cell? ⟨tb, m, none⟩ = some (.pointer (some ⟨w.heap.size, 0, none⟩)) := by
  unfold hung
  rw [World.cell?_drew]
  exact World.cell?_setCell_same _ _ _ (Lib.cell?_alloc_some _ h)
theorem hung_size (w : World) (n tb m : Nat) : (hung w n tb m).heap.size = w.heap.size + 1 := by
  unfold hung
  simp
theorem hung_below {B : Nat} (w : World) (n tb m : Nat) (h1 : B ≤ tb) (h2 : B ≤ w.heap.size) : Below B w (hung w n tb m) := by
  unfold hung
  refine Below.drew ?_
  refine Below.setCell (p := ⟨tb, m, none⟩) ?_ h1 _
  exact Below.alloc (a := w) (w := w.drewN n) ⟨rfl, rfl, rfl, Nat.le_refl _, fun _ _ => rfl⟩ h2 _

theorem ne_of_block {a b : Addr} (h : a.block ≠ b.block) : a ≠ b := fun e => h (congrArg Addr.block e)

/-- A text of one byte. -/
theorem add_one (B g tb N : Nat) (c : UInt8) (val : ByteArray) (pr : Int) (m : Nat) (htg : tb ≠ g) (hm : m < N) (hN : N ≤ 1000) (w : World)
    (c2 : w.cell? ⟨g, 2, none⟩ = some (.string ⟨#[]⟩)) (c4 : w.cell? ⟨g, 4, none⟩ = some (.slice (some ⟨tb, 0, none⟩) N N)) (cm : w.cell? ⟨g, 6 + c.toNat, none⟩ = some (.int .u8 m))
    (ct : w.cell? ⟨tb, m, none⟩ = some (.pointer none)) (ft : w.frozen? ⟨tb, m, none⟩ = false) :
    Calls Tryz.prog 99 #[.pointer (some ⟨g, 0, none⟩), .string ⟨#[c]⟩, .string val, .int .i64 pr, .pointer (some ⟨g, 0, none⟩)] w fun e w' =>
      e = .returned (.tuple #[]) ∧ Added B tb m w w' ∧ Leaf w.heap.size val pr w' := by
  have hlt : tb < w.heap.size := World.block_lt_of_cell? w _ ct
  refine add_root g tb N c val pr (m : Int) htg (by omega) (by omega) hN w c2 c4 cm (by simpa using ct) (by simpa using ft) ⟨#[c]⟩ (by rw [Go.Lib.toList_data]; rfl) (show 0 < 1 by omega) rfl (fun w' => Added B tb m w w' ∧ Leaf w.heap.size val pr w') ?_
  intro n
  rw [show ((⟨#[c]⟩ : ByteArray).extract 1 (⟨#[c]⟩ : ByteArray).size) = ⟨#[]⟩ from rfl]
  have hz := zero_cells w
  have hne : ∀ i, (⟨w.heap.size, i, none⟩ : Addr) ≠ ⟨tb, m, none⟩ := fun i => ne_of_block (by simp; omega)
  have hh := @hung_cell w n tb m
  have hf0 : ∀ i, (hung w n tb m).frozen? ⟨w.heap.size, i, none⟩ = false := fun i => by rw [hung_froz, ← zero_froz]; unfold zeroNode; go_simp
  refine (add_empty w.heap.size val pr _ (hung w n tb m) (.string ⟨#[]⟩) ((hh _ (hne 0)).trans hz.1) ((hh _ (hne 1)).trans hz.2.1) (hf0 0) (hf0 1)).mono ?_
  rintro e w' ⟨rfl, rfl⟩
  refine ⟨rfl, ⟨?_, ?_, ?_, ?_, ?_⟩, ?_, ?_, ?_, ?_⟩
  · intro a v ha hv
    have hlt' := World.block_lt_of_cell? w _ hv
    rw [other _ (ne_of_block (by simp; omega)), other _ (ne_of_block (by simp; omega))]
    exact hung_old ha hv
  · intro a v hv
    rw [World.frozen?_setCell, World.frozen?_setCell, hung_froz]
  · rw [other _ (hne 1), other _ (hne 0)]
    exact hung_here ct
  · intro h1 h2
    exact ((hung_below w n tb m h1 h2).setCell (p := ⟨w.heap.size, 0, none⟩) h2 _).setCell (p := ⟨w.heap.size, 1, none⟩) h2 _
  · simp [hung_size]
  · rw [other _ (by simp)]
    exact World.cell?_setCell_same _ _ _ ((hh _ (hne 0)).trans hz.1)
  · refine World.cell?_setCell_same _ _ _ ((other _ (by simp)).trans ((hh _ (hne 1)).trans hz.2.1))
  · rw [other _ (by simp), other _ (by simp)]
    exact (hh _ (hne 2)).trans hz.2.2.1
  · rw [other _ (by simp), other _ (by simp)]
    exact (hh _ (hne 4)).trans hz.2.2.2.2

/-- A text of two bytes. -/
theorem add_two (B g tb N : Nat) (c d : UInt8) (val : ByteArray) (pr : Int) (m : Nat) (htg : tb ≠ g) (hm : m < N) (hN : N ≤ 1000) (w : World)
    (c2 : w.cell? ⟨g, 2, none⟩ = some (.string ⟨#[]⟩)) (c4 : w.cell? ⟨g, 4, none⟩ = some (.slice (some ⟨tb, 0, none⟩) N N)) (cm : w.cell? ⟨g, 6 + c.toNat, none⟩ = some (.int .u8 m))
    (ct : w.cell? ⟨tb, m, none⟩ = some (.pointer none)) (ft : w.frozen? ⟨tb, m, none⟩ = false) :
    Calls Tryz.prog 99 #[.pointer (some ⟨g, 0, none⟩), .string ⟨#[c, d]⟩, .string val, .int .i64 pr, .pointer (some ⟨g, 0, none⟩)] w fun e w' =>
      e = .returned (.tuple #[]) ∧ Added B tb m w w' ∧ Mid w.heap.size (w.heap.size + 1) ⟨#[d]⟩ w' ∧ Leaf (w.heap.size + 1) val pr w' := by
  have hlt : tb < w.heap.size := World.block_lt_of_cell? w _ ct
  refine add_root g tb N c val pr (m : Int) htg (by omega) (by omega) hN w c2 c4 cm (by simpa using ct) (by simpa using ft) ⟨#[c, d]⟩ (by rw [Go.Lib.toList_data]; rfl) (show 0 < 2 by omega) rfl
    (fun w' => Added B tb m w w' ∧ Mid w.heap.size (w.heap.size + 1) ⟨#[d]⟩ w' ∧ Leaf (w.heap.size + 1) val pr w') ?_
  intro n
  rw [show ((⟨#[c, d]⟩ : ByteArray).extract 1 (⟨#[c, d]⟩ : ByteArray).size) = ⟨#[d]⟩ from rfl]
  have hz := zero_cells w
  have hne : ∀ i, (⟨w.heap.size, i, none⟩ : Addr) ≠ ⟨tb, m, none⟩ := fun i => ne_of_block (by simp; omega)
  have hne1 : ∀ i, (⟨w.heap.size + 1, i, none⟩ : Addr) ≠ ⟨tb, m, none⟩ := fun i => ne_of_block (by simp; omega)
  have hh := @hung_cell w n tb m
  have hf0 : ∀ i, (hung w n tb m).frozen? ⟨w.heap.size, i, none⟩ = false := fun i => by rw [hung_froz, ← zero_froz]; unfold zeroNode; go_simp
  refine (add_leaf w.heap.size ⟨#[d]⟩ val pr _ (hung w n tb m) (.pointer none) (.pointer none) (by rw [Go.Lib.toList_data]; rfl) ((hh _ (hne 2)).trans hz.2.2.1) ((hh _ (hne 3)).trans hz.2.2.2.1) ((hh _ (hne 4)).trans hz.2.2.2.2) (hf0 2) (hf0 3)).mono ?_
  rintro e w' ⟨rfl, rfl⟩
  rw [hung_size]
  obtain ⟨W, hW⟩ : ∃ W, W = (((hung w n tb m).setCell ⟨w.heap.size, 2, none⟩ (.string ⟨#[d]⟩)).setCell ⟨w.heap.size, 3, none⟩ (.pointer (some ⟨w.heap.size + 1, 0, none⟩))) := ⟨_, rfl⟩
  rw [← hW]
  have hWs : W.heap.size = w.heap.size + 1 := by rw [hW]; simp [hung_size]
  have hWf : ∀ a, W.frozen? a = w.frozen? a := fun a => by rw [hW, World.frozen?_setCell, World.frozen?_setCell, hung_froz]
  have hWo : ∀ a, a.block ≠ w.heap.size → W.cell? a = (hung w n tb m).cell? a := fun a ha => by
    rw [hW, other _ (ne_of_block (Ne.symm ha)), other _ (ne_of_block (Ne.symm ha))]
  have hW1 : ∀ i, i ≠ 2 → i ≠ 3 → W.cell? ⟨w.heap.size, i, none⟩ = (w.alloc zeroNode).cell? ⟨w.heap.size, i, none⟩ := fun i h2 h3 => by
    rw [hW, other _ (by first | (simp; done) | (simp; omega)), other _ (by first | (simp; done) | (simp; omega))]
    exact hh _ (hne i)
  have hW2 : W.cell? ⟨w.heap.size, 2, none⟩ = some (.string ⟨#[d]⟩) := by
    rw [hW, other _ (by simp)]
    exact World.cell?_setCell_same _ _ _ ((hh _ (hne 2)).trans hz.2.2.1)
  have hW3 : W.cell? ⟨w.heap.size, 3, none⟩ = some (.pointer (some ⟨w.heap.size + 1, 0, none⟩)) := by
    rw [hW]
    exact World.cell?_setCell_same _ _ _ ((other _ (by simp)).trans ((hh _ (hne 3)).trans hz.2.2.2.1))
  have hWb : B ≤ tb → B ≤ w.heap.size → Below B w W := fun h1 h2 => by
    rw [hW]
    exact ((hung_below w n tb m h1 h2).setCell (p := ⟨w.heap.size, 2, none⟩) h2 _).setCell (p := ⟨w.heap.size, 3, none⟩) h2 _
  clear hW
  have hy := zero_cells W
  rw [hWs] at hy
  refine ⟨rfl, ⟨?_, ?_, ?_, ?_, ?_⟩, ⟨?_, ?_, ?_, ?_⟩, ?_, ?_, ?_, ?_⟩
  · intro a v ha hv
    have hlt' := World.block_lt_of_cell? w _ hv
    rw [other _ (ne_of_block (by simp; omega)), other _ (ne_of_block (by simp; omega))]
    exact Lib.cell?_alloc_some _ ((hWo _ (by omega)).trans (hung_old ha hv))
  · intro a v hv
    rw [World.frozen?_setCell, World.frozen?_setCell, zero_froz, hWf]
  · rw [other _ (hne1 1), other _ (hne1 0)]
    exact Lib.cell?_alloc_some _ ((hWo _ (by simp; omega)).trans (hung_here ct))
  · intro h1 h2
    exact ((Below.alloc (hWb h1 h2) (by omega) _).setCell (p := ⟨w.heap.size + 1, 0, none⟩) (by show B ≤ w.heap.size + 1; omega) _).setCell (p := ⟨w.heap.size + 1, 1, none⟩) (by show B ≤ w.heap.size + 1; omega) _
  · simp only [World.size_setCell, World.size_alloc, hWs]; omega
  · rw [other _ (by simp), other _ (by simp)]
    exact Lib.cell?_alloc_some _ ((hW1 1 (by omega) (by omega)).trans hz.2.1)
  · rw [other _ (by simp), other _ (by simp)]
    exact Lib.cell?_alloc_some _ hW2
  · rw [other _ (by simp), other _ (by simp)]
    exact Lib.cell?_alloc_some _ hW3
  · rw [other _ (by simp), other _ (by simp)]
    exact Lib.cell?_alloc_some _ ((hW1 4 (by omega) (by omega)).trans hz.2.2.2.2)
  · rw [other _ (by simp)]
    exact World.cell?_setCell_same _ _ _ hy.1
  · exact World.cell?_setCell_same _ _ _ ((other _ (by simp)).trans hy.2.1)
  · rw [other _ (by simp), other _ (by simp)]
    exact hy.2.2.1
  · rw [other _ (by simp), other _ (by simp)]
    exact hy.2.2.2.2
end Go.Proofs.YtagbehhggpepfaaGreatDoor.Trie
set_option linter.unusedVariables false
set_option linter.unusedSimpArgs false
namespace Go.Proofs.YtagbehhggpepfaaGreatDoor.Make
open Go.RowKit Go.Proofs.YtagbehhggpepfaaGreatDoor.Trie

open Go.Proofs.YtagbehhggpepfaaGreatDoor.Ent (Bs)

/-- The replacer's cells ahead of the mapping, as they are laid. -/
def headOf (ts : Int) : List Value := [.string ⟨#[]⟩, .int .i64 0, .string ⟨#[]⟩, .pointer none, .slice none 0 0, .int .i64 ts]
def zeroHead : List Value := headOf 0

def mark (l : Bs) (c : Nat) : Int := if l.any (fun b => b.toNat == c) then 1 else 0

/-- The replacer while its keys' bytes are looked up. -/
structure StT (ts : Int) (g : Nat) (l : Bs) (w W : World) : Prop where
  head : ∀ i z, (headOf ts)[i]? = some z → W.cell? ⟨g, i, none⟩ = some z
  map : ∀ c, c < 256 → W.cell? ⟨g, 6 + c, none⟩ = some (.int .u8 (mark l c))
  fz : ∀ i, W.frozen? ⟨g, i, none⟩ = false
  below : Below w.heap.size w W

abbrev St (g : Nat) (l : Bs) (w W : World) : Prop := StT 0 g l w W

theorem mark_snoc (l : Bs) (b : UInt8) (c : Nat) : mark (l ++ [b]) c = if b.toNat = c then 1 else mark l c := by
  unfold mark
  rw [List.any_append]
  by_cases h : b.toNat = c
  · rw [if_pos h]; simp [h]
  · rw [if_neg h]; simp [h]

theorem StT.put {g : Nat} {l : Bs} {w W : World} (h : St g l w W) (hg : w.heap.size ≤ g) (b : UInt8) : St g (l ++ [b]) w (W.setCell ⟨g, 6 + b.toNat, none⟩ (.int .u8 1)) := by
  refine ⟨?_, ?_, ?_, h.below.setCell (p := ⟨g, 6 + b.toNat, none⟩) hg _⟩
  · intro i z hz
    have hi : i < 6 := (List.getElem?_eq_some_iff.1 hz).1
    rw [other _ (by first | (simp; done) | (simp; omega))]
    exact h.head i z hz
  · intro c hc
    rw [mark_snoc]
    by_cases hbc : b.toNat = c
    · subst hbc
      rw [if_pos rfl]
      exact World.cell?_setCell_same _ _ _ (h.map _ hc)
    · rw [if_neg hbc, other _ (by first | (simp; done) | (simp; omega))]
      exact h.map c hc
  · intro i
    rw [World.frozen?_setCell]
    exact h.fz i

theorem StT.drew {ts : Int} {g : Nat} {l : Bs} {w W : World} (h : StT ts g l w W) : StT ts g l w W.drew := ⟨fun i z hz => h.head i z hz, fun c hc => h.map c hc, fun i => h.fz i, h.below.drew⟩

/-- The keys' bytes up to the round q. -/
def keysTo (xs : List ByteArray) : Nat → Bs
  | 0 => []
  | q + 1 => keysTo xs q ++ (xs.getD (2 * q) ⟨#[]⟩).data.toList

theorem alloc_cell (w : World) (l : List Value) (t : TypeId) (i : Nat) : (w.alloc (.cells l.toArray t)).cell? ⟨w.heap.size, i, none⟩ = l[i]? := by
  have h : (w.alloc (.cells l.toArray t)).heap[w.heap.size]? = some (.cells l.toArray t (0, 0)) := by
    show (w.heap.push _)[w.heap.size]? = _
    simp
  exact (Go.cell_of_row _ _ _ _ _ _ h).trans (by simp)
theorem froz_new (w : World) (i : Nat) : w.frozen? ⟨w.heap.size, i, none⟩ = false := by
  rw [← zero_froz]; unfold zeroNode; go_simp

def zeroAll : List Value := zeroHead ++ List.replicate 256 (Value.int .u8 0)

theorem StT.size {ts : Int} {g : Nat} {l : Bs} {w W : World} (h : StT ts g l w W) (hg : w.heap.size ≤ g) (t2 : Int) : StT t2 g l w (W.setCell ⟨g, 5, none⟩ (.int .i64 t2)) := by
  refine ⟨?_, ?_, ?_, h.below.setCell (p := ⟨g, 5, none⟩) hg _⟩
  · intro i z hz
    have hi : i < 6 := (List.getElem?_eq_some_iff.1 hz).1
    by_cases h5 : i = 5
    · subst h5
      obtain rfl : z = .int .i64 t2 := by cases hz; rfl
      exact World.cell?_setCell_same _ _ _ (h.head 5 (.int .i64 ts) rfl)
    · rw [other _ (by first | (simp; done) | (simp; omega))]
      refine h.head i z ?_
      match i, hi, h5, hz with
      | 0, _, _, hz => exact hz
      | 1, _, _, hz => exact hz
      | 2, _, _, hz => exact hz
      | 3, _, _, hz => exact hz
      | 4, _, _, hz => exact hz
      | (k + 5), hi, h5, _ => exact absurd (by omega : k + 5 = 5) h5
  · intro c hc
    rw [other _ (by first | (simp; done) | (simp; omega))]
    exact h.map c hc
  · intro i
    rw [World.frozen?_setCell]
    exact h.fz i

theorem start {xs : List ByteArray} (w : World) : St w.heap.size (keysTo xs 0) w (w.alloc (.cells zeroAll.toArray 133)) := by
  refine ⟨?_, ?_, ?_, (Below.refl _ _).alloc (Nat.le_refl _) _⟩
  · intro i z hz
    rw [alloc_cell]
    unfold zeroAll
    change zeroHead[i]? = some z at hz
    rw [List.getElem?_append_left (List.getElem?_eq_some_iff.1 hz).1]
    exact hz
  · intro c h
    rw [alloc_cell]
    unfold zeroAll
    rw [List.getElem?_append_right (by show 6 ≤ 6 + c; omega), show 6 + c - zeroHead.length = c by show 6 + c - 6 = c; omega, List.getElem?_replicate, if_pos h]
    rfl
  · intro i
    exact (frozen?_alloc_cells _ _ _ _).trans (froz_new w i)

theorem wp_load_mid {P : Program} {o : Oper} {a : Act} {w : World} {K : Act → World → Prop} {Q : Exit → Act → World → Prop} (ty : TypeId) (x : Operand) (ho : o.op = .load ty x)
    (b off : Nat) (hx : a.eval x = .pointer (some ⟨b, off, none⟩)) (v : Value) (hl : (loadVar ty ⟨b, off, none⟩).run P w = .ok v w)
    (h : K (a.put o.dst v) w) : o.wp P a w K Q := by
  unfold Oper.wp execOp
  simp only [ho, hx, Instr.loadAt, Instr.sureAddr, Sem.run_bind, Sem.run_pure, Result.andThen_ok, hl]
  exact h

/-- The mapping, as a list. -/
def mapOf (l : Bs) : List Value := (List.range 256).map fun c => Value.int .u8 (mark l c)

theorem mapOf_get (l : Bs) (j : Nat) : (mapOf l)[j]? = if j < 256 then some (Value.int .u8 (mark l j)) else none := by
  unfold mapOf
  rw [List.getElem?_map]
  by_cases h : j < 256
  · rw [if_pos h, List.getElem?_range h]; rfl
  · rw [if_neg h, List.getElem?_eq_none (by rw [List.length_range]; omega)]; rfl

theorem StT.load {ts : Int} {g : Nat} {l : Bs} {w W : World} (h : StT ts g l w W) : (loadVar 102 ⟨g, 6, none⟩).run Tryz.prog W = .ok (.agg (mapOf l).toArray) W := by
  refine run_loadVar_mid W g 6 _ (mapOf l) _ ?_ Tryz.underlying102 rfl ?_
  · intro j v hj
    rw [mapOf_get] at hj
    split at hj
    · cases hj
      rename_i hlt
      exact h.map j hlt
    · cases hj
  · have hi : (Tryz.prog.info? 102).map (·.size) = some 256 := by kernel_rfl
    rw [hi]
    unfold mapOf
    rw [List.length_map, List.length_range]

/-- How many of the first bytes are marked. -/
def sumTo (l : Bs) : Nat → Int
  | 0 => 0
  | j + 1 => sumTo l j + mark l j

theorem index_agg (cs : Array Value) (j : Nat) (v : Value) (hv : cs[j]? = some v) (hj : j < 256) (wx : World) : (Instr.index 102 (.agg cs) (.int .i64 (j : Int))).run Tryz.prog wx = .ok v wx := by
  have hn : 0 ≤ (j : Int) ∧ (j : Int) < 256 := by omega
  simp [Instr.index, run_underlying Tryz.underlying102, asIntOf, hn, hv, go_sem]
  intro h; omega

theorem mark_bd (l : Bs) (c : Nat) : 0 ≤ mark l c ∧ mark l c ≤ 1 := by unfold mark; split <;> omega
theorem sum_bd (l : Bs) : ∀ j : Nat, 0 ≤ sumTo l j ∧ sumTo l j ≤ j
  | 0 => by unfold sumTo; omega
  | j + 1 => by
    have h1 := mark_bd l j
    have h2 := sum_bd l j
    unfold sumTo; omega

/-- The replacer while its bytes get their ranks. -/
structure StM (ts : Int) (g : Nat) (f : Nat → Int) (w W : World) : Prop where
  head : ∀ i z, (headOf ts)[i]? = some z → W.cell? ⟨g, i, none⟩ = some z
  map : ∀ c, c < 256 → W.cell? ⟨g, 6 + c, none⟩ = some (.int .u8 (f c))
  fz : ∀ i, W.frozen? ⟨g, i, none⟩ = false
  below : Below w.heap.size w W

theorem StT.toM {ts : Int} {g : Nat} {l : Bs} {w W : World} (h : StT ts g l w W) (t2 : Int) (ht : ts = t2) (f : Nat → Int) (hf : ∀ c, f c = mark l c) : StM t2 g f w W :=
  ⟨by subst ht; exact h.head, fun c hc => by rw [hf]; exact h.map c hc, h.fz, h.below⟩

theorem StM.drew {ts : Int} {g : Nat} {f : Nat → Int} {w W : World} (h : StM ts g f w W) : StM ts g f w W.drew := ⟨fun i z hz => h.head i z hz, fun c hc => h.map c hc, fun i => h.fz i, h.below.drew⟩

theorem StM.put {ts : Int} {g : Nat} {f f' : Nat → Int} {w W : World} (h : StM ts g f w W) (hg : w.heap.size ≤ g) (j : Nat) (v : Int) (hf : ∀ c, f' c = if c = j then v else f c) :
    StM ts g f' w (W.setCell ⟨g, 6 + j, none⟩ (.int .u8 v)) := by
  refine ⟨?_, ?_, ?_, h.below.setCell (p := ⟨g, 6 + j, none⟩) hg _⟩
  · intro i z hz
    have hi : i < 6 := (List.getElem?_eq_some_iff.1 hz).1
    rw [other _ (by first | (simp; done) | (simp; omega))]
    exact h.head i z hz
  · intro c hc
    rw [hf]
    by_cases hbc : c = j
    · subst hbc
      rw [if_pos rfl]
      exact World.cell?_setCell_same _ _ _ (h.map _ hc)
    · rw [if_neg hbc, other _ (by first | (simp; done) | (simp; omega))]
      exact h.map c hc
  · intro i
    rw [World.frozen?_setCell]
    exact h.fz i

/-- What a byte is turned to. -/
def rk (l : Bs) (t : Int) (c : Nat) : Int := if mark l c = 0 then t else sumTo l c
def rkTo (l : Bs) (t : Int) (j c : Nat) : Int := if c < j then rk l t c else mark l c
theorem rkTo_succ (l : Bs) (t : Int) (j c : Nat) : rkTo l t (j + 1) c = if c = j then rk l t j else rkTo l t j c := by
  unfold rkTo
  by_cases h : c = j
  · subst h; rw [if_pos (by omega), if_pos rfl]
  · rw [if_neg h]
    by_cases h2 : c < j
    · rw [if_pos (by omega), if_pos h2]
    · rw [if_neg (by omega), if_neg h2]

theorem sum_mono (l : Bs) (j : Nat) : ∀ d : Nat, sumTo l j ≤ sumTo l (j + d)
  | 0 => Int.le_refl _
  | d + 1 => by
    have h1 := mark_bd l (j + d)
    have h2 := sum_mono l j d
    show _ ≤ sumTo l (j + d) + mark l (j + d)
    omega

/-! ### the adds -/
/-- The replacer, as 'add' and 'lookup' read it. -/
structure Root (g tb : Nat) (f : Nat → Int) (W : World) : Prop where
  pr : W.cell? ⟨g, 1, none⟩ = some (.int .i64 0)
  pfx : W.cell? ⟨g, 2, none⟩ = some (.string ⟨#[]⟩)
  tab : W.cell? ⟨g, 4, none⟩ = some (.slice (some ⟨tb, 0, none⟩) 5 5)
  ts : W.cell? ⟨g, 5, none⟩ = some (.int .i64 5)
  map : ∀ c, c < 256 → W.cell? ⟨g, 6 + c, none⟩ = some (.int .u8 (f c))

def keyB : Nat → ByteArray
  | 0 => ⟨#[38]⟩
  | 1 => ⟨#[60]⟩
  | 2 => ⟨#[62]⟩
  | _ => ⟨#[194, 160]⟩
def valB : Nat → ByteArray
  | 0 => ⟨#[38, 97, 109, 112, 59]⟩
  | 1 => ⟨#[38, 108, 116, 59]⟩
  | 2 => ⟨#[38, 103, 116, 59]⟩
  | _ => ⟨#[38, 110, 98, 115, 112, 59]⟩
def slot : Nat → Nat
  | 0 => 0
  | 1 => 1
  | 2 => 2
  | _ => 4
def ents : List ByteArray := [keyB 0, valB 0, keyB 1, valB 1, keyB 2, valB 2, keyB 3, valB 3]

theorem ents_at (q : Nat) (h : q < 4) : ents[2 * q]? = some (keyB q) ∧ ents[2 * q + 1]? = some (valB q) := by
  match q, h with
  | 0, _ => exact ⟨rfl, rfl⟩
  | 1, _ => exact ⟨rfl, rfl⟩
  | 2, _ => exact ⟨rfl, rfl⟩
  | 3, _ => exact ⟨rfl, rfl⟩

theorem Leaf.added {B tb m n : Nat} {v : ByteArray} {p : Int} {W W' : World} (h : Leaf n v p W) (ha : Added B tb m W W') (hn : tb < n) : Leaf n v p W' :=
  ⟨ha.old _ _ (ne_of_block (by simp; omega)) h.val, ha.old _ _ (ne_of_block (by simp; omega)) h.pr, ha.old _ _ (ne_of_block (by simp; omega)) h.pfx, ha.old _ _ (ne_of_block (by simp; omega)) h.tab⟩
theorem Mid.added {B tb m n k : Nat} {v : ByteArray} {W W' : World} (h : Mid n k v W) (ha : Added B tb m W W') (hn : tb < n) : Mid n k v W' :=
  ⟨ha.old _ _ (ne_of_block (by simp; omega)) h.pr, ha.old _ _ (ne_of_block (by simp; omega)) h.pfx, ha.old _ _ (ne_of_block (by simp; omega)) h.nxt, ha.old _ _ (ne_of_block (by simp; omega)) h.tab⟩

def NodeOk (tb : Nat) (n : Nat) (W : World) : Nat → Prop
  | 0 => Leaf n (valB 0) 8 W
  | 1 => Leaf n (valB 1) 6 W
  | 2 => Leaf n (valB 2) 4 W
  | _ => ∃ k, tb < k ∧ Mid n k ⟨#[160]⟩ W ∧ Leaf k (valB 3) 2 W

theorem NodeOk.added {B tb m n : Nat} {W W' : World} {q : Nat} (h : NodeOk tb n W q) (ha : Added B tb m W W') (hn : tb < n) : NodeOk tb n W' q := by
  match q, h with
  | 0, h => exact Leaf.added h ha hn
  | 1, h => exact Leaf.added h ha hn
  | 2, h => exact Leaf.added h ha hn
  | q + 3, ⟨k, hk, h1, h2⟩ => exact ⟨k, hk, Mid.added h1 ha hn, Leaf.added h2 ha hk⟩

structure Adds (q g tb : Nat) (ns : Nat → Nat) (f : Nat → Int) (w W : World) : Prop where
  root : Root g tb f W
  done : ∀ i, i < q → W.cell? ⟨tb, slot i, none⟩ = some (.pointer (some ⟨ns i, 0, none⟩)) ∧ tb < ns i ∧ NodeOk tb (ns i) W i
  rest : ∀ j, j < 5 → (∀ i, i < q → slot i ≠ j) → W.cell? ⟨tb, j, none⟩ = some (.pointer none)
  fz : ∀ j, j < 5 → W.frozen? ⟨tb, j, none⟩ = false
  below : Below w.heap.size w W
  lt : tb < W.heap.size

theorem Adds.drew {q g tb : Nat} {ns : Nat → Nat} {f : Nat → Int} {w W : World} (h : Adds q g tb ns f w W) : Adds q g tb ns f w W.drew := by
  refine ⟨⟨h.root.pr, h.root.pfx, h.root.tab, h.root.ts, h.root.map⟩, ?_, h.rest, h.fz, h.below.drew, h.lt⟩
  intro i hi
  obtain ⟨h1, h2, h3⟩ := h.done i hi
  refine ⟨h1, h2, ?_⟩
  match i, h3 with
  | 0, h3 => exact ⟨h3.val, h3.pr, h3.pfx, h3.tab⟩
  | 1, h3 => exact ⟨h3.val, h3.pr, h3.pfx, h3.tab⟩
  | 2, h3 => exact ⟨h3.val, h3.pr, h3.pfx, h3.tab⟩
  | i + 3, ⟨k, hk, m, l⟩ => exact ⟨k, hk, ⟨m.pr, m.pfx, m.nxt, m.tab⟩, ⟨l.val, l.pr, l.pfx, l.tab⟩⟩

theorem slot_inj (i j : Nat) (hi : i < 4) (hj : j < 4) (h : slot i = slot j) : i = j := by
  match i, j, hi, hj with
  | 0, 0, _, _ => rfl
  | 0, 1, _, _ => cases h
  | 0, 2, _, _ => cases h
  | 0, 3, _, _ => cases h
  | 1, 0, _, _ => cases h
  | 1, 1, _, _ => rfl
  | 1, 2, _, _ => cases h
  | 1, 3, _, _ => cases h
  | 2, 0, _, _ => cases h
  | 2, 1, _, _ => cases h
  | 2, 2, _, _ => rfl
  | 2, 3, _, _ => cases h
  | 3, 0, _, _ => cases h
  | 3, 1, _, _ => cases h
  | 3, 2, _, _ => cases h
  | 3, 3, _, _ => rfl

theorem slot_lt (i : Nat) : slot i < 5 := by unfold slot; split <;> omega

theorem Adds.step {q g tb : Nat} {ns : Nat → Nat} {f : Nat → Int} {w W W' : World} (h : Adds q g tb ns f w W) (hq : q < 4) (hg : tb ≠ g) (htb : w.heap.size ≤ tb)
    (ha : Added w.heap.size tb (slot q) W W') (hn : NodeOk tb W.heap.size W' q) : Adds (q + 1) g tb (fun i => if i = q then W.heap.size else ns i) f w W' := by
  have ho : ∀ i v, W.cell? ⟨g, i, none⟩ = some v → W'.cell? ⟨g, i, none⟩ = some v := fun i v hv => ha.old _ _ (ne_of_block (Ne.symm hg)) hv
  refine ⟨⟨ho _ _ h.root.pr, ho _ _ h.root.pfx, ho _ _ h.root.tab, ho _ _ h.root.ts, fun c hc => ho _ _ (h.root.map c hc)⟩, ?_, ?_, ?_, h.below.trans ((ha.below htb (by have := h.lt; omega))), by have := h.lt; have := ha.size; omega⟩
  · intro i hi
    by_cases hiq : i = q
    · subst hiq
      simp only [if_true]
      exact ⟨ha.here, h.lt, hn⟩
    · simp only [if_neg hiq]
      obtain ⟨h1, h2, h3⟩ := h.done i (by omega)
      refine ⟨ha.old _ _ (fun e => hiq (slot_inj i q (by omega) hq (by simpa using e))) h1, h2, h3.added ha h2⟩
  · intro j hj hall
    refine ha.old _ _ (fun e => hall q (by omega) (by simpa using e.symm)) (h.rest j hj fun i hi => hall i (by omega))
  · intro j hj5
    by_cases hj : j = slot q
    · subst hj
      have hc := h.rest (slot q) (slot_lt q) (fun i hi e => by have := slot_inj i q (by omega) hq e; omega)
      exact (ha.froz _ _ hc).trans (h.fz _ hj5)
    · rcases Classical.em (∃ i, i < q ∧ slot i = j) with ⟨i, hi, rfl⟩ | hno
      · exact (ha.froz _ _ (h.done i hi).1).trans (h.fz _ hj5)
      · exact (ha.froz _ _ (h.rest j hj5 fun i hi e => hno ⟨i, hi, e⟩)).trans (h.fz _ hj5)

/-- What a byte is turned to. -/
def rkN (c : Nat) : Int := if c = 38 then 0 else if c = 60 then 1 else if c = 62 then 2 else if c = 160 then 3 else if c = 194 then 4 else 5
theorem rk_ents : ∀ c : Nat, c < 256 → rk (keysTo ents 4) 5 c = rkN c := by decide +kernel

/-- One add. -/
theorem add_q (q g tb : Nat) (ns : Nat → Nat) (w W : World) (h : Adds q g tb ns rkN w W) (hq : q < 4) (hg : tb ≠ g) (p : Int) (hp : p = 8 - 2 * (q : Int)) :
    Calls Tryz.prog 99 #[.pointer (some ⟨g, 0, none⟩), .string (keyB q), .string (valB q), .int .i64 p, .pointer (some ⟨g, 0, none⟩)] W fun e w' =>
      e = .returned (.tuple #[]) ∧ Added w.heap.size tb (slot q) W w' ∧ NodeOk tb W.heap.size w' q := by
  subst hp
  have hr := h.rest (slot q) (slot_lt q) (fun i hi e => by have := slot_inj i q (by omega) hq e; omega)
  have hf := h.fz (slot q) (slot_lt q)
  have hlt := h.lt
  match q, hq with
  | 0, _ => exact add_one _ g tb 5 38 _ 8 0 hg (by omega) (by omega) W h.root.pfx h.root.tab (h.root.map 38 (by omega)) hr hf
  | 1, _ => exact add_one _ g tb 5 60 _ 6 1 hg (by omega) (by omega) W h.root.pfx h.root.tab (h.root.map 60 (by omega)) hr hf
  | 2, _ => exact add_one _ g tb 5 62 _ 4 2 hg (by omega) (by omega) W h.root.pfx h.root.tab (h.root.map 62 (by omega)) hr hf
  | 3, _ =>
    refine (add_two w.heap.size g tb 5 194 160 _ 2 4 hg (by omega) (by omega) W h.root.pfx h.root.tab (h.root.map 194 (by omega)) hr hf).mono ?_
    rintro e w' ⟨he, ha, hm, hl⟩
    exact ⟨he, ha, _, by omega, hm, hl⟩

/-- The replacer that is laid: its blocks are new from B on. -/
def Gen (B g : Nat) (W : World) : Prop := ∃ (tb : Nat) (ns : Nat → Nat), Root g tb rkN W ∧ B ≤ g ∧ B ≤ tb ∧ (∀ i, i < 4 → W.cell? ⟨tb, slot i, none⟩ = some (.pointer (some ⟨ns i, 0, none⟩)) ∧ tb < ns i ∧ NodeOk tb (ns i) W i) ∧ W.cell? ⟨tb, 3, none⟩ = some (.pointer none)

/-- The table's start. -/
theorem adds_start {g : Nat} {w wr : World} (h : StM 5 g rkN w wr) (hg : w.heap.size ≤ g) (hgl : g < wr.heap.size) :
    Adds 0 g wr.heap.size (fun _ => 0) rkN w ((wr.setCell ⟨g, 4, none⟩ (.slice (some ⟨wr.heap.size, 0, none⟩) 5 5)).alloc (.cells (madeCells #[.pointer none] 5) 128)) := by
  have hs := h.below.size
  obtain ⟨W1, hW1⟩ : ∃ W1, wr.setCell ⟨g, 4, none⟩ (.slice (some ⟨wr.heap.size, 0, none⟩) 5 5) = W1 := ⟨_, rfl⟩
  have hsz : W1.heap.size = wr.heap.size := by rw [← hW1]; simp
  have hb1 : Below w.heap.size w W1 := by rw [← hW1]; exact h.below.setCell (p := ⟨g, 4, none⟩) hg _
  have ho1 : ∀ i v, wr.cell? ⟨g, i, none⟩ = some v → i ≠ 4 → W1.cell? ⟨g, i, none⟩ = some v := fun i v hv hi => by
    rw [← hW1, other _ (by first | (simp; done) | (simp; omega))]
    exact hv
  have h4 : W1.cell? ⟨g, 4, none⟩ = some (.slice (some ⟨wr.heap.size, 0, none⟩) 5 5) := by rw [← hW1]; exact World.cell?_setCell_same _ _ _ (h.head 4 _ rfl)
  rw [hW1]
  rw [← hsz] at h4 hgl ⊢
  clear hW1
  have hm : madeCells #[.pointer none] 5 = [Value.pointer none, .pointer none, .pointer none, .pointer none, .pointer none].toArray := by kernel_rfl
  rw [hm]
  have ho : ∀ i v, W1.cell? ⟨g, i, none⟩ = some v → (W1.alloc (.cells [Value.pointer none, .pointer none, .pointer none, .pointer none, .pointer none].toArray 128)).cell? ⟨g, i, none⟩ = some v := fun i v hv => Lib.cell?_alloc_some _ hv
  refine ⟨⟨ho _ _ (ho1 _ _ (h.head 1 _ rfl) (by omega)), ho _ _ (ho1 _ _ (h.head 2 _ rfl) (by omega)), ho _ _ h4, ho _ _ (ho1 _ _ (h.head 5 _ rfl) (by omega)), fun c hc => ho _ _ (ho1 _ _ (h.map c hc) (by omega))⟩, fun i hi => absurd hi (by omega), ?_, ?_, ?_, ?_⟩
  · intro j hj _
    rw [alloc_cell]
    match j, hj with
    | 0, _ => rfl
    | 1, _ => rfl
    | 2, _ => rfl
    | 3, _ => rfl
    | 4, _ => rfl
  · intro j _
    exact (frozen?_alloc_cells _ _ _ _).trans (froz_new W1 j)
  · exact hb1.alloc (by omega) _
  · simp

theorem infoNode : (Tryz.prog.info? 128).map (fun i => (i.zero, i.size, i.bytes)) = some (some (.pointer none), 1, 8) := by kernel_rfl

set_option maxHeartbeats 4000000 in
set_option maxRecDepth 100000 in
theorem make (ob cp : Nat) (xs : List ByteArray) (hxs : xs = ents) (w : World) (hob : ∀ i s, xs[i]? = some s → w.cell? ⟨ob, i, none⟩ = some (.string s)) :
    Calls Tryz.prog 76 #[.slice (some ⟨ob, 0, none⟩) 8 cp] w fun e w' => e = .returned (.pointer (some ⟨w.heap.size, 0, none⟩)) ∧ Gen w.heap.size w.heap.size w' ∧ Below w.heap.size w w' := by
  have HX := Lib.hid (show xs.length = 2 * 4 by rw [hxs]; rfl)
  have H5 := Lib.hid (show sumTo (keysTo xs 4) 256 = 5 by rw [hxs]; decide +kernel)
  have HOB := Lib.hid hob
  have HSZ := Lib.hid (show ∀ s ∈ xs, s.size ≤ 1000 by rw [hxs]; decide)
  have HE := Lib.hid hxs
  clear hob hxs
  go_enter Tryz.func76, Tryz.ntmps76
  go_wp2_with fail
  go_loopw [4] (fun v W => ∃ q : Nat, v = .int .i64 ((2 * q : Nat) : Int) ∧ q ≤ 4 ∧ Hid (St w.heap.size (keysTo xs q) w W)) (fun v _ => 2 * 4 - (intOf v).toNat)
  case atStart => exact ⟨0, rfl, Nat.zero_le _, Lib.hid (start w)⟩
  case round =>
    obtain ⟨q, rfl, hq, hst⟩ := hrel
    by_cases hlt : q < 4
    ·
      --[[ L1
      have hlt2 : 2 * q < xs.length := by have := HX.out; omega
      obtain ⟨key, hkey⟩ : ∃ key, xs[2 * q]'hlt2 = key := ⟨_, rfl⟩
      have hk? : xs[2 * q]? = some key := by rw [List.getElem?_eq_getElem hlt2, hkey]
      have hcell : wr.cell? ⟨ob, 2 * q, none⟩ = some (.string key) := (hst.out.below.cell (p := ⟨ob, 2 * q, none⟩) (World.block_lt_of_cell? w _ (HOB.out _ _ hk?))).trans (HOB.out _ _ hk?)
      have hks : key.size ≤ 1000 := HSZ.out _ (by rw [← hkey]; exact List.getElem_mem _)
      have hto : keysTo xs (q + 1) = keysTo xs q ++ key.data.toList := by
        show keysTo xs q ++ (xs.getD (2 * q) ⟨#[]⟩).data.toList = _
        rw [List.getD_eq_getElem?_getD, hk?]; rfl
      have HTO := Lib.hid hto
      clear hto hk? hkey hlt2
      have hbt : key.data.toList.length = key.size := Array.length_toList
      go_wp2_with fail
      go_loopw [6] (fun v W => ∃ j : Nat, v = .int .i64 (j : Int) ∧ j ≤ key.size ∧ Hid (St w.heap.size (keysTo xs q ++ key.data.toList.take j) w W)) (fun v _ => key.size - (intOf v).toNat)
      case atStart => exact ⟨0, rfl, Nat.zero_le _, Lib.hid (by simpa using hst.out)⟩
      case round =>
        obtain ⟨j, rfl, hj, hst2⟩ := hrel
        clear hst
        by_cases hjl : j < key.size
        · have hjk : j < key.data.toList.length := by omega
          obtain ⟨b, hb⟩ : ∃ b, key[j]'hjl = b := ⟨_, rfl⟩
          have hb256 : b.toNat < 256 := b.toNat_lt
          have htk : key.data.toList.take (j + 1) = key.data.toList.take j ++ [b] := by
            rw [List.take_succ_eq_append_getElem hjk]
            exact congrArg (fun x => key.data.toList.take j ++ [x]) hb
          have hput := hst2.out.put (Nat.le_refl _) b
          rw [List.append_assoc, ← htk] at hput
          have HP := Lib.hid hput
          have hmp := hst2.out.map b.toNat hb256
          have hfz := hst2.out.fz (6 + b.toNat)
          clear hput htk hjk hst2
          go_wp2_with fail
          go_region
          go_wp2
          go_roundw
          case rel => exact ⟨j + 1, by go_num, by omega, Lib.hid HP.out.drew⟩
          case measure => simp [intOf]; omega
        · obtain rfl : j = key.size := by omega
          have hfin := hst2.out
          rw [← hbt, List.take_length, ← HTO.out] at hfin
          have HF := Lib.hid hfin
          clear hst2 hfin
          go_wp2
          go_roundw
          case rel => exact ⟨q + 1, by go_num, by omega, HF⟩
          case measure => simp [intOf]; omega
      --]] L1
    · obtain rfl : q = 4 := by omega
      clear HX HSZ
      have HLD := Lib.hid hst.out.load
      go_wp2_with fail
      refine wp_load_mid _ _ rfl w.heap.size 6 rfl _ HLD.out ?_
      go_wp2_with fail
      go_loopw [41] (fun v W => ∃ j : Nat, v = .int .i64 (j : Int) ∧ j ≤ 256 ∧ Hid (StT (sumTo (keysTo xs 4) j) w.heap.size (keysTo xs 4) w W)) (fun v _ => 256 - (intOf v).toNat)
      case atStart => exact ⟨0, rfl, Nat.zero_le _, Lib.hid hst.out⟩
      case round =>
        obtain ⟨j, rfl, hj, hst2⟩ := hrel
        by_cases hjl : j < 256
        ·
          --[[ L2
          have hix : ∀ wx, (Instr.index 102 (.agg (mapOf (keysTo xs 4)).toArray) (.int .i64 (j : Int))).run Tryz.prog wx = .ok (.int .u8 (mark (keysTo xs 4) j)) wx := by
            intro wx
            exact index_agg _ j _ (by simp [mapOf_get, hjl]) hjl wx
          have hts := hst2.out.head 5 _ rfl
          have hfz := hst2.out.fz 5
          have hbd := mark_bd (keysTo xs 4) j
          have hsm := sum_bd (keysTo xs 4) j
          have hsz2 := hst2.out.size (Nat.le_refl _) (wrap64 (sumTo (keysTo xs 4) j + wrap64 (mark (keysTo xs 4) j)))
          have hw : wrap64 (sumTo (keysTo xs 4) j + wrap64 (mark (keysTo xs 4) j)) = sumTo (keysTo xs 4) (j + 1) := by
            show _ = sumTo (keysTo xs 4) j + mark (keysTo xs 4) j
            unfold wrap64; omega
          have HSZ2 := Lib.hid (show StT (sumTo (keysTo xs 4) (j + 1)) w.heap.size (keysTo xs 4) w (wr.setCell ⟨w.heap.size, 5, none⟩ (.int .i64 (wrap64 (sumTo (keysTo xs 4) j + wrap64 (mark (keysTo xs 4) j))))) by rw [← hw]; exact hsz2)
          clear hw hsz2 hbd hsm
          go_wp2_with fail
          go_roundw
          case rel => exact ⟨j + 1, by go_num, by omega, HSZ2⟩
          case measure => simp [intOf]; omega
          --]] L2
        · obtain rfl : j = 256 := by omega
          have HLD2 := Lib.hid hst2.out.load
          go_wp2_with fail
          refine wp_load_mid _ _ rfl w.heap.size 6 rfl _ HLD2.out ?_
          have HM0 := Lib.hid (hst2.out.toM 5 H5.out (rkTo (keysTo xs 4) 5 0) (fun c => rfl))
          clear hst hst2 HLD HLD2
          go_wp2_with fail
          go_loopw [9, 58] (fun x v W => ∃ j : Nat, v = .int .i64 (j : Int) ∧ j ≤ 256 ∧ x = .int .u8 (sumTo (keysTo xs 4) j) ∧ Hid (StM 5 w.heap.size (rkTo (keysTo xs 4) 5 j) w W)) (fun _ v _ => 256 - (intOf v).toNat)
          case atStart => exact ⟨0, rfl, Nat.zero_le _, rfl, HM0⟩
          case round =>
            obtain ⟨j, rfl, hj, rfl, hst3⟩ := hrel
            clear HM0
            by_cases hjl : j < 256
            · have hts := hst3.out.head 5 _ rfl
              have hcj := hst3.out.map j hjl
              have hfz := hst3.out.fz (6 + j)
              have hsm := sum_bd (keysTo xs 4) j
              have hs5 : sumTo (keysTo xs 4) (j + 1) ≤ 5 := by
                have := sum_mono (keysTo xs 4) (j + 1) (256 - (j + 1))
                rw [show j + 1 + (256 - (j + 1)) = 256 by omega, H5.out] at this
                exact this
              have HP := Lib.hid (fun v (hv : rk (keysTo xs 4) 5 j = v) => hst3.out.put (f' := rkTo (keysTo xs 4) 5 (j + 1)) (Nat.le_refl _) j v (fun c => by rw [rkTo_succ, hv]))
              by_cases hm : mark (keysTo xs 4) j = 0
              · have hix : ∀ wx, (Instr.index 102 (.agg (mapOf (keysTo xs 4)).toArray) (.int .i64 (j : Int))).run Tryz.prog wx = .ok (.int .u8 0) wx := by
                  intro wx
                  exact index_agg _ j _ (by simp [mapOf_get, hjl, hm]) hjl wx
                have HS := Lib.hid (show sumTo (keysTo xs 4) (j + 1) = sumTo (keysTo xs 4) j by show sumTo (keysTo xs 4) j + mark (keysTo xs 4) j = _; rw [hm]; omega)
                have HP2 := Lib.hid (HP.out 5 (by unfold rk; rw [if_pos hm]))
                clear hm hst3 HP hsm hs5
                go_wp2_with fail
                go_region
                go_wp2
                go_roundw
                case rel => exact ⟨j + 1, by go_num, by omega, by rw [HS.out], Lib.hid HP2.out.drew⟩
                case measure => simp [intOf]; omega
              · have hm1 : mark (keysTo xs 4) j = 1 := by have := mark_bd (keysTo xs 4) j; omega
                have hix : ∀ wx, (Instr.index 102 (.agg (mapOf (keysTo xs 4)).toArray) (.int .i64 (j : Int))).run Tryz.prog wx = .ok (.int .u8 1) wx := by
                  intro wx
                  exact index_agg _ j _ (by simp [mapOf_get, hjl, hm1]) hjl wx
                have HP2 := Lib.hid (HP.out _ (show _ = sumTo (keysTo xs 4) j by unfold rk; rw [if_neg hm]))
                have HS := Lib.hid (show sumTo (keysTo xs 4) (j + 1) = sumTo (keysTo xs 4) j + 1 by show sumTo (keysTo xs 4) j + mark (keysTo xs 4) j = _; rw [hm1])
                have hs4 : sumTo (keysTo xs 4) j + 1 ≤ 5 := by rw [← HS.out]; exact hs5
                have hs0 : 0 ≤ sumTo (keysTo xs 4) j := hsm.1
                clear hm hm1 hst3 HP hsm hs5
                go_wp2_with fail
                go_roundw
                case rel => exact ⟨j + 1, by go_num, by omega, by rw [HS.out], HP2⟩
                case measure => simp [intOf]; omega
            · obtain rfl : j = 256 := by omega
              have HS0 := Lib.hid hst3.out
              have h5c := hst3.out.head 5 _ rfl
              have h4c := hst3.out.head 4 _ rfl
              have hf4 := hst3.out.fz 4
              have hgl : w.heap.size < wr.heap.size := World.block_lt_of_cell? wr _ h5c
              obtain ⟨i0, hi, hz0, hz1, hz2⟩ := info_parts infoNode
              have hmk := fun w => run_make (P := Tryz.prog) w 129 128 i0 (.pointer none) Tryz.underlying129 hi hz0 .i64 .i64 5 5 (by omega) (by omega) (by rw [hz2]; omega) (by omega)
              rw [hz1] at hmk
              have HA := Lib.hid (adds_start (g := w.heap.size) (w := w) (wr := wr) (by
                have := hst3.out
                refine ⟨this.head, fun c hc => ?_, this.fz, this.below⟩
                rw [this.map c hc]
                unfold rkTo
                rw [if_pos hc, HE.out, rk_ents c hc]) (Nat.le_refl _) hgl)
              have HK := Lib.hid (fun (W : World) (hB : Below w.heap.size w W) (i : Nat) (s : ByteArray) (hs : ents[i]? = some s) => (hB.cell (p := ⟨ob, i, none⟩) (World.block_lt_of_cell? w _ (HOB.out i s (by rw [HE.out]; exact hs)))).trans (HOB.out i s (by rw [HE.out]; exact hs)))
              clear hst3 HE HOB H5
              go_wp2_with fail
              obtain ⟨wo, rfl⟩ : ∃ wo : World, wo = wr := ⟨_, rfl⟩
              go_loopw [12] (fun v W => ∃ q : Nat, v = .int .i64 ((2 * q : Nat) : Int) ∧ q ≤ 4 ∧ Hid (∃ ns, Adds q w.heap.size wo.heap.size ns rkN w W)) (fun v _ => 8 - (intOf v).toNat)
              case atStart => exact ⟨0, rfl, Nat.zero_le _, Lib.hid ⟨_, HA.out⟩⟩
              case round =>
                obtain ⟨q, rfl, hq, hst4⟩ := hrel
                obtain ⟨ns, had⟩ := hst4.out
                have hne : wo.heap.size ≠ w.heap.size := by omega
                have htb : w.heap.size ≤ wo.heap.size := by omega
                clear hst4 HA HS0 h5c h4c hf4
                by_cases hlt : q < 4
                · have hk := HK.out _ had.below _ _ (ents_at q hlt).1
                  have hv := HK.out _ had.below _ _ (ents_at q hlt).2
                  have HAD := Lib.hid had.drew
                  have HSTEP := Lib.hid (fun W' hA hN => had.drew.step hlt hne htb (W' := W') hA hN)
                  have b1 : (2 * (q : Int)) < 8 := by omega
                  have b2 : (2 * (q : Int) + 1) < 8 := by omega
                  have b3 : 0 ≤ 2 * (q : Int) := by omega
                  have b4 : 0 ≤ 2 * (q : Int) + 1 := by omega
                  have e1 : (2 * (q : Int)).toNat = 2 * q := by omega
                  have e2 : (2 * (q : Int) + 1).toNat = 2 * q + 1 := by omega
                  have w1 : IntKind.i64.wrap (2 * (q : Int) + 1) = 2 * (q : Int) + 1 := by rw [IntKind.wrap_i64]; omega
                  have w2 : IntKind.i64.wrap (8 - 2 * (q : Int)) = 8 - 2 * (q : Int) := by rw [IntKind.wrap_i64]; omega
                  clear had HK
                  go_wp2_with fail
                  go_still_tail 17, (by kernel_rfl)
                  clear w1 w2 e1 e2 b1 b2 b3 b4 hk hv
                  change wpList _ _ _ _ _ wr.drew
                  obtain ⟨W, hW⟩ : ∃ W, wr.drew = W := ⟨_, rfl⟩
                  rw [hW] at HAD HSTEP ⊢
                  clear hW
                  go_wp2_with fail
                  refine (add_q q w.heap.size wo.heap.size ns w _ HAD.out hlt hne _ rfl).mono ?_
                  rintro e W' ⟨rfl, hA, hN⟩
                  have HN := Lib.hid (HSTEP.out W' hA hN)
                  clear hA hN HSTEP HAD
                  go_wp2
                  go_roundw
                  case rel =>
                    repeat apply Exists.intro
                    exact ⟨⟨q + 1, by go_num, by omega, Lib.hid ⟨_, HN.out⟩⟩, rfl⟩
                  case measure => simp [intOf]; omega
                · obtain rfl : q = 4 := by omega
                  have HF := Lib.hid had
                  clear had
                  go_wp2
                  go_ret
                  have had := HF.out
                  exact ⟨rfl, ⟨_, ns, had.root, Nat.le_refl _, htb, had.done, had.rest 3 (by omega) (fun i hi => by unfold slot; split <;> omega)⟩, had.below⟩
end Go.Proofs.YtagbehhggpepfaaGreatDoor.Make
