/- The generic replacer's Replace at any text: what is written. The generic replacer's WriteString at any text. -/
import Derived.Test.YtagbehhggpepfaaGreatDoorLook
import Derived.Test.YtagbehhggpepfaaGreatDoorLatin
import Derived.Test.YtagbehhggpepfaaGreatDoorRef
import Derived.Stop.Asserts
import Derived.Deep.RegionWith
import Derived.Laws.MakeOwn
import Derived.OneCell
import Derived.StillTailTactics
set_option linter.unusedVariables false
set_option linter.unusedSimpArgs false
namespace Go.Proofs.YtagbehhggpepfaaGreatDoor.Repw
open Go.RowKit Go.Proofs.YtagbehhggpepfaaGreatDoor.Ent Go.Proofs.YtagbehhggpepfaaGreatDoor.Make Go.Proofs.YtagbehhggpepfaaGreatDoor.Repl Go.Proofs.YtagbehhggpepfaaGreatDoor.Look

theorem infoByte : (Tryz.prog.info? 5).map (fun i => (i.zero, i.size, i.bytes)) = some (some (.int .u8 0), 1, 1) := by kernel_rfl

theorem asserts (v : Value) (w : World) : (Instr.typeAssert (.iface 197 v) 199 201 true).run Tryz.prog w = .ok (.tuple #[.iface 197 v, .bool true]) w :=
  run_typeAssert_hasB Tryz.underlying201 (by kernel_rfl) v _ w

set_option maxHeartbeats 4000000 in
set_option maxRecDepth 100000 in
theorem getSW (v : Value) (w : World) :
    Calls Tryz.prog 173 #[.iface 197 v] w fun e w' => e = .returned (.iface 197 v) ∧ w' = w := by
  have h := asserts
  have hnot : ∀ (x : Bool) (w : World), (Op.unary .not (.bool x)).run Tryz.prog w = .ok (.bool (!x)) w := fun _ _ => rfl
  go_enter Tryz.func173, Tryz.ntmps173
  go_wp2
  go_ret
  exact ⟨rfl, rfl⟩

/-- The writer's buffer, of the call's own. -/
def Buf (B bb : Nat) (l : Bs) (w : World) : Prop :=
  ∃ v, w.heap[bb]? = some (.cells #[v] 196 (0, 0)) ∧ w.ownsRow B 5 1 v l.length (Lib.byteCells l) ∧ v.ownBlock ≠ some bb ∧ B ≤ bb

theorem Buf.lt {B bb : Nat} {l : Bs} {w : World} (h : Buf B bb l w) : bb < w.heap.size := by
  obtain ⟨v, hb, _⟩ := h
  rcases Nat.lt_or_ge bb w.heap.size with h' | h'
  · exact h'
  · simp [Array.getElem?_eq_none h'] at hb
theorem Buf.drewN {B bb : Nat} {l : Bs} {w : World} (h : Buf B bb l w) (n : Nat) : Buf B bb l (w.drewN n) := h
theorem Buf.drew {B bb : Nat} {l : Bs} {w : World} (h : Buf B bb l w) : Buf B bb l w.drew := h

theorem own_ne {B bb n : Nat} {v u : Value} {xs : List Value} {w : World} (h : w.ownsRow B 5 1 v n xs) (hb : w.heap[bb]? = some (.cells #[u] 196 (0, 0))) : v.ownBlock ≠ some bb := by
  rcases h.2 with ⟨rfl, _⟩ | ⟨g', cap, cur, rfl, _, hh, _⟩
  · simp [Value.ownBlock]
  · intro he
    have : g' = bb := by simpa [Value.ownBlock] using he
    subst this
    rw [hb] at hh
    injection hh with hh
    injection hh with _ ht
    exact absurd ht (by decide)

theorem strCells_lst (s : ByteArray) : Lib.strCells s = Lib.byteCells (Ref.lst s) := rfl
theorem byteCells_append (a b : Bs) : Lib.byteCells (a ++ b) = Lib.byteCells a ++ Lib.byteCells b := by simp [Lib.byteCells]

set_option maxHeartbeats 4000000 in
set_option maxRecDepth 100000 in
theorem put (B bb : Nat) (l : Bs) (t : ByteArray) (w : World) (h : Buf B bb l w) (hlen : l.length + t.size ≤ 100000000) (hB : B ≤ w.heap.size) :
    Calls Tryz.prog 184 #[.pointer (some ⟨bb, 0, none⟩), .string t] w fun e w' =>
      (∃ x, e = .returned (.tuple #[.int .i64 x, .nilIface])) ∧ Buf B bb (l ++ Ref.lst t) w' ∧ Below B w w' := by
  obtain ⟨v, hb, hown, hne, hBb⟩ := h
  obtain ⟨i0, hi, hz0, hz1, hz2⟩ := info_parts infoByte
  have hlt : bb < w.heap.size := lt_of_block hb
  have c0 : w.cell? ⟨bb, 0, none⟩ = some v := cell_of_one hb
  have f0 : w.frozen? ⟨bb, 0, none⟩ = false := free_of_one hb
  go_enter Tryz.func184, Tryz.ntmps184
  go_wp2_with (at_builtin; refine Lib.wpList_append_own_string _ rfl _ _ 196 9 rfl B 5 i0 Tryz.underlying196 Tryz.underlying9 hi hz0 hz1 hz2 _ _ _ rfl hown t rfl ?c3 ?c4 ?c5 ?_)
  case c3 => unfold maxLen; omega
  case c4 => omega
  case c5 => omega
  intro v' w2 hown' hgrow _
  have hb2 : w2.heap[bb]? = some (.cells #[v] 196 (0, 0)) := by
    rw [hgrow.block bb hlt (fun e => hne e.symm)]
    exact hb
  have d0 : w2.cell? ⟨bb, 0, none⟩ = some v := cell_of_one hb2
  have g0 : w2.frozen? ⟨bb, 0, none⟩ = false := free_of_one hb2
  have HB2 := Lib.hid hb2
  have HO := Lib.hid hown'
  have HG : Below B w w2 := (Below.refl _ w).grown hgrow hB (fun k hk => (hown.lt k hk).1)
  obtain ⟨ao, n', cap, rfl⟩ : ∃ ao n' cap, v' = .slice ao n' cap := by
    rcases hown'.2 with ⟨hv, _⟩ | ⟨g, cap, cur, fz, hv, _⟩
    · exact ⟨_, _, _, hv⟩
    · exact ⟨_, _, _, fz⟩
  clear hb hown hne hown' hgrow hb2 c0 f0
  go_wp2
  go_ret2
  have hb2 := HB2.out
  have hown' := HO.out
  refine ⟨⟨_, rfl⟩, ⟨_, one_setCell hb2, ?_, ?_, hBb⟩, HG.setCell (p := ⟨bb, 0, none⟩) hBb _⟩
  · refine ownsRow_setCell_other ?_ (own_ne hown' hb2) _
    rw [byteCells_append, List.length_append, Ref.lst_length, ← strCells_lst]
    exact hown'
  · exact own_ne hown' hb2

/-! ### the ways of a byte -/
structure GenT (B g tb : Nat) (ns : Nat → Nat) (W : World) : Prop where
  root : Root g tb rkN W
  hg : B ≤ g
  htb : B ≤ tb
  nodes : ∀ i, i < 4 → W.cell? ⟨tb, slot i, none⟩ = some (.pointer (some ⟨ns i, 0, none⟩)) ∧ tb < ns i ∧ NodeOk tb (ns i) W i
  three : W.cell? ⟨tb, 3, none⟩ = some (.pointer none)

def Finds (s : ByteArray) (g : Nat) (W : World) (v : ByteArray) (k : Nat) (b : Bool) : Prop :=
  Calls Tryz.prog 174 #[.pointer (some ⟨g, 0, none⟩), .string s, .bool false] W fun e w' => e = .returned (.tuple #[.string v, .int .i64 (k : Int), .bool b]) ∧ ∃ n, w' = W.drewN n

inductive Way (B g tb : Nat) (ns : Nat → Nat) (s : ByteArray) (c : UInt8) (r : Bs) : Prop
  | skip (h : rkN c.toNat = 5) (hw : wr false (c :: r) = c :: wr false r) : Way B g tb ns s c r
  | nil (h : rkN c.toNat = 3) (hw : wr false (c :: r) = c :: wr false r) : Way B g tb ns s c r
  | hit (m n k : Nat) (v : ByteArray) (h : rkN c.toNat = (m : Int)) (hm : m < 5) (hk : 0 < k) (hk2 : k ≤ s.size) (hv : v.size ≤ 6)
      (hw : wr false (c :: r) = Ref.lst v ++ wr false ((c :: r).drop k))
      (hc : ∀ W, GenT B g tb ns W → W.cell? ⟨tb, m, none⟩ = some (.pointer (some ⟨n, 0, none⟩)))
      (hf : ∀ W, GenT B g tb ns W → Finds s g W v k true) : Way B g tb ns s c r
  | miss (m n : Nat) (h : rkN c.toNat = (m : Int)) (hm : m < 5) (hw : wr false (c :: r) = c :: wr false r)
      (hc : ∀ W, GenT B g tb ns W → W.cell? ⟨tb, m, none⟩ = some (.pointer (some ⟨n, 0, none⟩)))
      (hf : ∀ W, GenT B g tb ns W → Finds s g W ⟨#[]⟩ 0 false) : Way B g tb ns s c r

theorem head_of {s : ByteArray} {c : UInt8} {r : Bs} (h : Ref.lst s = c :: r) : ∃ h0 : 0 < s.size, s[0]'h0 = c := by
  have hl := Ref.lst_length s
  rw [h] at hl
  simp at hl
  refine ⟨by omega, ?_⟩
  have : (Ref.lst s)[0]? = some c := by rw [h]; rfl
  unfold Ref.lst at this
  rw [List.getElem?_eq_some_iff] at this
  obtain ⟨_, h2⟩ := this
  rw [Array.getElem_toList] at h2
  exact h2

theorem tail_of {s : ByteArray} {c : UInt8} {r : Bs} (h : Ref.lst s = c :: r) : (s.extract 1 s.size).data.toList = r := by
  have : (s.extract 1 s.size).data.toList = s.data.toList.drop 1 := by
    simp [ByteArray.data_extract]
    exact List.take_of_length_le (by rw [List.length_tail]; exact Nat.le_of_eq (congrArg (· - 1) Array.length_toList))
  rw [this]
  unfold Ref.lst at h
  rw [h]; rfl

theorem way (B g tb : Nat) (ns : Nat → Nat) (s : ByteArray) (c : UInt8) (r : Bs) (h : Ref.lst s = c :: r) (hs : s.size ≤ 100000000) : Way B g tb ns s c r := by
  obtain ⟨h0, hc⟩ := head_of h
  have leaf : ∀ (i m : Nat) (v : ByteArray) (p : Int) (hi : i < 4) (hm : m < 5) (hp : 0 < p) (hmap : rkN c.toNat = (m : Int)) (hsl : slot i = m) (hN : ∀ tb n W, NodeOk tb n W i → Trie.Leaf n v p W),
      ∀ W, GenT B g tb ns W → Finds s g W v 1 true := fun i m v p hi hm hp hmap hsl hN W hg => by
    obtain ⟨t1, _, t3⟩ := hg.nodes i hi
    have hcm := hg.root.map c.toNat c.toNat_lt
    rw [hmap] at hcm
    rw [hsl] at t1
    exact look_leaf g tb (ns i) c m hm v p hp W hg.root.pr hg.root.tab hg.root.ts hcm t1 (hN _ _ _ t3) s h0 hc hs
  have cell : ∀ (i m : Nat) (hi : i < 4) (hsl : slot i = m), ∀ W, GenT B g tb ns W → W.cell? ⟨tb, m, none⟩ = some (.pointer (some ⟨ns i, 0, none⟩)) := fun i m hi hsl W hg => by
    rw [← hsl]; exact (hg.nodes i hi).1
  by_cases e1 : c = 38
  · subst e1
    exact .hit 0 (ns 0) 1 (valB 0) rfl (by omega) (by omega) (by omega) (by decide) (by rw [wr_cons _ _ _ (by simp)]; rfl) (cell 0 0 (by omega) rfl) (leaf 0 0 _ 8 (by omega) (by omega) (by omega) rfl rfl (fun _ _ _ h => h))
  by_cases e2 : c = 60
  · subst e2
    exact .hit 1 (ns 1) 1 (valB 1) rfl (by omega) (by omega) (by omega) (by decide) (by rw [wr_cons _ _ _ (by simp)]; rfl) (cell 1 1 (by omega) rfl) (leaf 1 1 _ 6 (by omega) (by omega) (by omega) rfl rfl (fun _ _ _ h => h))
  by_cases e3 : c = 62
  · subst e3
    exact .hit 2 (ns 2) 1 (valB 2) rfl (by omega) (by omega) (by omega) (by decide) (by rw [wr_cons _ _ _ (by simp)]; rfl) (cell 2 2 (by omega) rfl) (leaf 2 2 _ 4 (by omega) (by omega) (by omega) rfl rfl (fun _ _ _ h => h))
  have hesc : esc false c = [c] := by unfold esc; rw [if_neg e1, if_neg e2, if_neg e3, if_neg (by simp)]
  by_cases e4 : c = 194
  · subst e4
    have ht := tail_of h
    by_cases hh : r.head? = some 160
    · obtain ⟨r', rfl⟩ : ∃ r', r = 160 :: r' := by
        cases r with
        | nil => cases hh
        | cons d r' => exact ⟨r', by simpa using hh⟩
      have hsz : 1 < s.size := by rw [← Ref.lst_length, h]; simp
      refine .hit 4 (ns 3) 2 (valB 3) rfl (by omega) (by omega) (by omega) (by decide) (by rw [wr_nbsp]; rfl) (cell 3 4 (by omega) rfl) ?_
      intro W hg
      obtain ⟨t1, _, k, hk, hm, hl⟩ := hg.nodes 3 (by omega)
      exact look_mid g tb (ns 3) k 194 4 (by omega) (valB 3) 2 (by omega) W hg.root.pr hg.root.tab hg.root.ts (hg.root.map 194 (by omega)) t1 hm hl s h0 hc hs hsz (by rw [ht]; rfl)
    · refine .miss 4 (ns 3) rfl (by omega) (by rw [wr_cons _ _ _ (fun x => hh x.2), hesc]; rfl) (cell 3 4 (by omega) rfl) ?_
      intro W hg
      obtain ⟨t1, _, k, hk, hm, hl⟩ := hg.nodes 3 (by omega)
      refine look_mid_no g tb (ns 3) k 194 4 (by omega) W hg.root.pr hg.root.tab hg.root.ts (hg.root.map 194 (by omega)) t1 hm s h0 hc hs ?_
      rw [ht]
      cases r with
      | nil => rfl
      | cons d r' =>
        have : d ≠ 160 := by simpa using hh
        show (160 == d && _) = false
        rw [beq_eq_false_iff_ne.2 (Ne.symm this)]; rfl
  have hw : wr false (c :: r) = c :: wr false r := by rw [wr_cons _ _ _ (fun x => e4 x.1), hesc]; rfl
  have ne : ∀ (n : Nat), n < 256 → c ≠ UInt8.ofNat n → c.toNat ≠ n := fun n hn h e => h (by rw [← e, UInt8.ofNat_toNat])
  by_cases e5 : c = 160
  · subst e5
    exact .nil rfl hw
  refine .skip ?_ hw
  unfold rkN
  rw [if_neg (ne 38 (by omega) e1), if_neg (ne 60 (by omega) e2), if_neg (ne 62 (by omega) e3), if_neg (ne 160 (by omega) e5), if_neg (ne 194 (by omega) e4)]
end Go.Proofs.YtagbehhggpepfaaGreatDoor.Repw
set_option linter.unusedVariables false
set_option linter.unusedSimpArgs false
namespace Go.Proofs.YtagbehhggpepfaaGreatDoor.Repx
open Go.RowKit Go.Proofs.YtagbehhggpepfaaGreatDoor.Ent Go.Proofs.YtagbehhggpepfaaGreatDoor.Make Go.Proofs.YtagbehhggpepfaaGreatDoor.Repl Go.Proofs.YtagbehhggpepfaaGreatDoor.Look Go.Proofs.YtagbehhggpepfaaGreatDoor.Repw

theorem nil_ahead (a : Addr) (w : World) : (nilAhead 309 197 (.pointer (some a)) "WriteString").run Tryz.prog w = .ok (some false) w := by kernel_rfl

theorem method_ws (a : Addr) (w : World) : (method 309 197 (.pointer (some a)) "WriteString").run Tryz.prog w = .ok (184, .pointer (some a)) w := by kernel_rfl

theorem GenT.below {B g tb : Nat} {ns : Nat → Nat} {w W : World} (h : GenT B g tb ns w) (hb : Below w.heap.size w W) : GenT B g tb ns W := by
  have hc : ∀ a v, w.cell? a = some v → W.cell? a = some v := fun a v hv => (hb.cell (World.block_lt_of_cell? w _ hv)).trans hv
  have hL : ∀ {n : Nat} {v : ByteArray} {p : Int}, Trie.Leaf n v p w → Trie.Leaf n v p W := fun h => ⟨hc _ _ h.val, hc _ _ h.pr, hc _ _ h.pfx, hc _ _ h.tab⟩
  refine ⟨⟨hc _ _ h.root.pr, hc _ _ h.root.pfx, hc _ _ h.root.tab, hc _ _ h.root.ts, fun c hh => hc _ _ (h.root.map c hh)⟩, h.hg, h.htb, ?_, hc _ _ h.three⟩
  intro i hi
  obtain ⟨h1, h2, h4⟩ := h.nodes i hi
  refine ⟨hc _ _ h1, h2, ?_⟩
  match i, hi, h4 with
  | 0, _, h4 => exact hL h4
  | 1, _, h4 => exact hL h4
  | 2, _, h4 => exact hL h4
  | 3, _, ⟨k, hk, m, l⟩ => exact ⟨k, hk, ⟨hc _ _ m.pr, hc _ _ m.pfx, hc _ _ m.nxt, hc _ _ m.tab⟩, hL l⟩

theorem esc_le (c : UInt8) : (esc false c).length ≤ 6 := by
  unfold esc
  split
  · simp
  · split
    · simp
    · split
      · simp
      · split <;> simp
theorem wr_le (l : Bs) : (wr false l).length ≤ 6 * l.length :=
  wr_ind false (fun l t => t.length ≤ 6 * l.length) (by simp) (fun r h => by simp [nbsp]; omega) (fun c r _ h => by have := esc_le c; simp; omega) l

theorem drop_at (s : ByteArray) (i : Nat) (h : i < s.size) : ∃ c r, (Ref.lst s).drop i = c :: r ∧ s[i]'h = c ∧ r = (Ref.lst s).drop (i + 1) := by
  have hl : i < (Ref.lst s).length := by rw [Ref.lst_length]; exact h
  refine ⟨(Ref.lst s)[i], _, List.drop_eq_getElem_cons hl, ?_, rfl⟩
  show _ = s.data.toList[i]
  rw [Array.getElem_toList]; rfl

theorem lst_extract (s : ByteArray) (a b : Nat) : Ref.lst (s.extract a b) = ((Ref.lst s).drop a).take (b - a) := by
  unfold Ref.lst
  simp [ByteArray.data_extract]

theorem lst_tail (s : ByteArray) (a : Nat) (h : a ≤ s.size) : Ref.lst (s.extract a s.size) = (Ref.lst s).drop a := by
  rw [lst_extract]
  exact List.take_of_length_le (by rw [List.length_drop, Ref.lst_length]; omega)

theorem below_drewN (B : Nat) (W : World) (n : Nat) : Below B W (W.drewN n) := ⟨rfl, rfl, rfl, Nat.le_refl _, fun _ _ => rfl⟩

set_option maxHeartbeats 8000000 in
set_option maxRecDepth 100000 in
theorem writeString (B g tb : Nat) (ns : Nat → Nat) (w0 : World) (hG : GenT B g tb ns w0) (s : ByteArray) (hs : s.size ≤ 1000000) (bb : Nat) (w : World) (hB : Below w0.heap.size w0 w) (hbuf : Buf w0.heap.size bb [] w) :
    Calls Tryz.prog 172 #[.pointer (some ⟨g, 0, none⟩), .iface 197 (.pointer (some ⟨bb, 0, none⟩)), .string s] w fun e w' =>
      (∃ x, e = .returned (.tuple #[.int .i64 x, .nilIface])) ∧ Buf w0.heap.size bb (Ent.wr false (Ref.lst s)) w' ∧ Below w0.heap.size w0 w' := by
  have HG := Lib.hid (fun (W : World) (h : Below w0.heap.size w0 W) => GenT.below hG h)
  have HBUF := Lib.hid hbuf
  clear hG hbuf
  go_enter Tryz.func172, Tryz.ntmps172
  go_wp2_with (go_at_call 173; refine (getSW _ _).mono ?_; rintro e w' ⟨rfl, rfl⟩)
  go_loopw [6, 7, 9, 11, 12] (fun n er la pm v W => ∃ (i j : Nat) (x : Int) (acc : Bs), v = .int .i64 (i : Int) ∧ la = .int .i64 (j : Int) ∧ n = .int .i64 x ∧ er = .nilIface ∧ pm = .bool false ∧ j ≤ i ∧ i ≤ s.size + 1 ∧ j ≤ s.size ∧
    Hid (acc ++ ((Ref.lst s).drop j).take (i - j) ++ Ent.wr false ((Ref.lst s).drop i) = Ent.wr false (Ref.lst s)) ∧ Hid (Buf w0.heap.size bb acc W) ∧ Below w0.heap.size w0 W) (fun _ _ _ _ v _ => s.size + 1 - (intOf v).toNat)
  case atStart => exact ⟨0, 0, 0, [], rfl, rfl, rfl, rfl, rfl, by omega, by omega, by omega, Lib.hid (by simp), HBUF, hB⟩
  case round =>
    obtain ⟨i, j, x, acc, rfl, rfl, rfl, rfl, rfl, hji, hi1, hjs, hacc, hb, hBW⟩ := hrel
    clear HBUF hB
    have hal : acc.length ≤ 6000000 := by
      have h1 := congrArg List.length hacc.out
      have h2 := wr_le (Ref.lst s)
      rw [Ref.lst_length] at h2
      simp only [List.length_append] at h1
      omega
    by_cases hout : i = s.size + 1
    · -- behind the loop
      --[[ out
      subst hout
      have hA : acc ++ (Ref.lst s).drop j = Ent.wr false (Ref.lst s) := by
        rw [← hacc.out, List.drop_eq_nil_of_le (i := s.size + 1) (by rw [Ref.lst_length]; omega), List.take_of_length_le (by rw [List.length_drop, Ref.lst_length]; omega), wr_nil, List.append_nil]
      have HA := Lib.hid hA
      have hbsz := hBW.size
      clear hacc hA
      by_cases hj : j = s.size
      · have hjb : ((j : Int) != (s.size : Int)) = false := by simp [hj]
        have HF : Hid (Buf w0.heap.size bb (Ent.wr false (Ref.lst s)) wr) := by
          rw [← HA.out, List.drop_eq_nil_of_le (by rw [Ref.lst_length]; omega), List.append_nil]
          exact hb
        clear hb
        subst hj
        go_wp2_with fail
        go_ret2
        exact ⟨⟨_, rfl⟩, HF.out, hBW⟩
      · have hjb : ((j : Int) != (s.size : Int)) = true := by simp; omega
        have hna := nil_ahead ⟨bb, 0, none⟩
        have hme := method_ws ⟨bb, 0, none⟩
        go_wp2_with fail
        go_region_with (go_at_call 184; refine (put w0.heap.size bb acc (s.extract j s.size) _ (by exact hb.out) (by simp; omega) (by exact hbsz)).mono ?_; rintro e w2 ⟨⟨x2, rfl⟩, hb2, hB2⟩)
        have HB2 : Below w0.heap.size w0 w2 := hBW.drew.trans hB2
        have HF : Hid (Buf w0.heap.size bb (Ent.wr false (Ref.lst s)) w2) := by
          rw [← HA.out, ← lst_tail s j hjs]
          exact Lib.hid hb2
        clear hb2 hB2 hb
        go_wp2_with fail
        go_ret2
        exact ⟨⟨_, rfl⟩, HF.out, HB2⟩
      --]] out
    by_cases hlast : i = s.size
    ·
      --[[ last
      subst hlast
      have hA : acc ++ ((Ref.lst s).drop j).take (s.size + 1 - j) ++ Ent.wr false ((Ref.lst s).drop (s.size + 1)) = Ent.wr false (Ref.lst s) := by
        rw [← hacc.out, List.drop_eq_nil_of_le (i := s.size + 1) (by rw [Ref.lst_length]; omega), List.drop_eq_nil_of_le (i := s.size) (by rw [Ref.lst_length]; omega),
          List.take_of_length_le (by rw [List.length_drop, Ref.lst_length]; omega), List.take_of_length_le (by rw [List.length_drop, Ref.lst_length]; omega)]
      have HA := Lib.hid hA
      have HL := Lib.hid (fun W (h : Below w0.heap.size w0 W) => look_empty B g W ⟨tb, ns, (HG.out W h).root, (HG.out W h).hg, (HG.out W h).htb, (HG.out W h).nodes, (HG.out W h).three⟩)
      clear hacc hA
      go_wp2_with fail
      refine (HL.out _ hBW).mono ?_
      rintro e w1 ⟨rfl, rfl⟩
      go_wp2_with fail
      go_roundw
      case rel => exact ⟨s.size + 1, j, x, acc, by go_num, rfl, rfl, rfl, rfl, by omega, by omega, by omega, HA, hb, hBW⟩
      case measure => simp [intOf]
      --]] last
    have hlt : i < s.size := by omega
    obtain ⟨c, r, hdrop, hc, hr⟩ := drop_at s i hlt
    have hts := lst_tail s i (by omega)
    rw [hdrop] at hts
    have hG := HG.out _ hBW
    have hmap := hG.root.map c.toNat c.toNat_lt
    have hc256 : c.toNat < 256 := c.toNat_lt
    have c1 := hG.root.pr
    have c4 := hG.root.tab
    have c5 := hG.root.ts
    have c3 := hG.three
    have hw := way B g tb ns (s.extract i s.size) c r hts (by simp; omega)
    clear hG
    have hal2 : (((Ref.lst s).drop j).take (i - j)) ++ [c] = ((Ref.lst s).drop j).take (i + 1 - j) := by
      rw [show i + 1 - j = (i - j) + 1 by omega, List.take_add_one]
      congr 1
      rw [List.getElem?_drop, show j + (i - j) = i by omega]
      have : (Ref.lst s)[i]? = some c := by rw [← List.head?_drop, hdrop]; rfl
      rw [this]; rfl
    cases hw with
    | skip h hw =>
      --[[ skip
      rw [h] at hmap
      have HA := Lib.hid (show acc ++ ((Ref.lst s).drop j).take (i + 1 - j) ++ Ent.wr false ((Ref.lst s).drop (i + 1)) = Ent.wr false (Ref.lst s) by
        rw [← hacc.out, hdrop, hw, ← hal2, hr]; simp)
      clear h hw hal2 hdrop hts hacc hr
      go_wp2_with fail
      go_quiet (fail)
      go_wp2_with fail
      go_roundw
      case rel => exact ⟨i + 1, j, x, acc, by go_num, rfl, rfl, rfl, rfl, by omega, by omega, by omega, HA, Lib.hid (hb.out.drewN _), hBW.trans (below_drewN _ _ _)⟩
      case measure => simp [intOf]; omega
      --]] skip
    | nil h hw =>
      --[[ nil
      rw [h] at hmap
      have HA := Lib.hid (show acc ++ ((Ref.lst s).drop j).take (i + 1 - j) ++ Ent.wr false ((Ref.lst s).drop (i + 1)) = Ent.wr false (Ref.lst s) by
        rw [← hacc.out, hdrop, hw, ← hal2, hr]; simp)
      clear h hw hal2 hdrop hts hacc hr
      go_wp2_with fail
      go_quiet (fail)
      go_wp2_with fail
      go_roundw
      case rel => exact ⟨i + 1, j, x, acc, by go_num, rfl, rfl, rfl, rfl, by omega, by omega, by omega, HA, Lib.hid (hb.out.drewN _), hBW.trans (below_drewN _ _ _)⟩
      case measure => simp [intOf]; omega
      --]] nil
    | hit m n k v h hm hk hk2 hv hw hcn hf =>
      --[[ hit
      rw [h] at hmap
      have cn := hcn _ (HG.out _ hBW)
      have HF := Lib.hid (fun W hW => hf W (HG.out W hW))
      clear h hcn hf hal2
      have m0 : 0 ≤ (m : Int) := by omega
      have m5 : (m : Int) < 5 := by omega
      have m5n : ¬ (m : Int) = 5 := by omega
      have k0 : ¬ (k : Int) = 0 := by omega
      have HW := Lib.hid hw
      have HD := Lib.hid hdrop
      have HT := Lib.hid hts
      have HR := Lib.hid hr
      clear hw hdrop hts hr
      go_wp2_with fail
      go_quiet (fail)
      go_wp2_with fail
      have hB1 : Below w0.heap.size w0 (wr.drewN nq) := hBW.trans (below_drewN _ _ _)
      refine (HF.out _ hB1).mono ?_
      rintro e w1 ⟨rfl, nq2, hw1⟩
      have HB1 : Below w0.heap.size w0 w1 := by rw [hw1]; exact hB1.trans (below_drewN _ _ _)
      have HU1 : Hid (Buf w0.heap.size bb acc w1) := by rw [hw1]; exact Lib.hid hb.out
      clear hw1 hB1 hb hBW c1 c3 c4 c5 cn hmap HF
      have hna := nil_ahead ⟨bb, 0, none⟩
      have hme := method_ws ⟨bb, 0, none⟩
      have hbs1 := HB1.size
      go_wp2_with fail
      go_region_with (go_at_call 184; refine (put w0.heap.size bb acc (s.extract j i) _ (by exact HU1.out) (by simp; omega) (by exact hbs1)).mono ?_; rintro e w2 ⟨⟨x2, rfl⟩, hb2, hB2⟩)
      have HB2 : Below w0.heap.size w0 w2 := HB1.drew.trans hB2
      have HU2 := Lib.hid hb2
      have hbs2 := HB2.size
      have hal2 : (acc ++ Ref.lst (s.extract j i)).length ≤ 7000000 := by rw [List.length_append, Ref.lst_length]; simp; omega
      have HAL := Lib.hid hal2
      clear hb2 hB2 HU1 HB1 hbs1 hal2
      go_wp2_with fail
      refine (put w0.heap.size bb _ v _ HU2.out (by have := HAL.out; omega) hbs2).mono ?_
      rintro e w3 ⟨⟨x3, rfl⟩, hb3, hB3⟩
      have HB3 : Below w0.heap.size w0 w3 := HB2.trans hB3
      have HU3 := Lib.hid hb3
      have hA : (acc ++ Ref.lst (s.extract j i) ++ Ref.lst v) ++ ((Ref.lst s).drop (i + k)).take (i + k - (i + k)) ++ Ent.wr false ((Ref.lst s).drop (i + k)) = Ent.wr false (Ref.lst s) := by
        rw [← hacc.out, HD.out, HW.out, lst_extract, Nat.sub_self, List.take_zero, List.append_nil, ← HD.out, List.drop_drop]
        simp
      have HA := Lib.hid hA
      have hk3 : i + k ≤ s.size := by simp at hk2; omega
      clear hb3 hB3 HU2 HB2 hbs2 HAL hA hacc hal HW HD HT HR
      go_wp2_with fail
      go_roundw
      case rel => exact ⟨i + k, i + k, _, _, by go_num, by go_num, rfl, rfl, congrArg Value.bool (beq_eq_false_iff_ne.2 k0), by omega, by omega, by omega, HA, HU3, HB3⟩
      case measure => simp [intOf]; omega
      --]] hit
    | miss m n h hm hw hcn hf =>
      --[[ miss
      rw [h] at hmap
      have cn := hcn _ (HG.out _ hBW)
      have HF := Lib.hid (fun W hW => hf W (HG.out W hW))
      have HA := Lib.hid (show acc ++ ((Ref.lst s).drop j).take (i + 1 - j) ++ Ent.wr false ((Ref.lst s).drop (i + 1)) = Ent.wr false (Ref.lst s) by
        rw [← hacc.out, hdrop, hw, ← hal2, hr]; simp)
      clear h hcn hf hal2 hw hdrop hts hr hacc
      have m0 : 0 ≤ (m : Int) := by omega
      have m5 : (m : Int) < 5 := by omega
      have m5n : ¬ (m : Int) = 5 := by omega
      go_wp2_with fail
      go_quiet (fail)
      go_wp2_with fail
      have hB1 : Below w0.heap.size w0 (wr.drewN nq) := hBW.trans (below_drewN _ _ _)
      refine (HF.out _ hB1).mono ?_
      rintro e w1 ⟨rfl, nq2, hw1⟩
      have HB1 : Below w0.heap.size w0 w1 := by rw [hw1]; exact hB1.trans (below_drewN _ _ _)
      have HU1 : Hid (Buf w0.heap.size bb acc w1) := by rw [hw1]; exact Lib.hid hb.out
      clear hw1 hB1 hb hBW c1 c3 c4 c5 cn hmap HF
      go_wp2_with fail
      go_roundw
      case rel => exact ⟨i + 1, j, x, acc, by go_num, rfl, rfl, rfl, rfl, by omega, by omega, by omega, HA, HU1, HB1⟩
      case measure => simp [intOf]; omega
      --]] miss
end Go.Proofs.YtagbehhggpepfaaGreatDoor.Repx
