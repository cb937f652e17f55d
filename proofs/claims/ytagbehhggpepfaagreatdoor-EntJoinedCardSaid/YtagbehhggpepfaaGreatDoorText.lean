/- ent.Text and ent.Value at any text: the plain writing. -/
import Derived.Test.YtagbehhggpepfaaGreatDoorRepx
import Derived.Laws.NewBlocks
import Derived.Lib.Replace
import Derived.Lib.CountLaws
import Derived.Test.YtagbehhggpepfaaGreatDoorCut
import Derived.Test.YtagbehhggpepfaaGreatDoorLaw
set_option linter.unusedVariables false
set_option linter.unusedSimpArgs false
namespace Go.Proofs.YtagbehhggpepfaaGreatDoor.Txt
open Go.RowKit Go.Proofs.YtagbehhggpepfaaGreatDoor.Ent Go.Proofs.YtagbehhggpepfaaGreatDoor.Make Go.Proofs.YtagbehhggpepfaaGreatDoor.Repl Go.Proofs.YtagbehhggpepfaaGreatDoor.Look Go.Proofs.YtagbehhggpepfaaGreatDoor.Repw Go.Proofs.YtagbehhggpepfaaGreatDoor.Repx Go.Proofs.YtagbehhggpepfaaGreatDoor.Once1

theorem buf_string {w : World} {base : Nat} {v : Value} {l : Bs} (h : w.ownsRow base 5 1 v l.length (Lib.byteCells l)) :
    (convert 196 9 v).run Tryz.prog w = .ok (.string ⟨l.toArray⟩) w := by
  rcases h.2 with ⟨rfl, h0⟩ | ⟨g, cap, cur, rfl, _⟩
  · obtain rfl : l = [] := List.eq_nil_of_length_eq_zero h0
    exact run_convert_bytes_nil w 196 5 Tryz.underlying196 Tryz.underlying5 0 0 9 Tryz.underlying9
  · refine run_convert_bytes_back (P := Tryz.prog) w 196 9 5 ⟨g, 0, none⟩ cap l Tryz.underlying196 Tryz.underlying5 Tryz.underlying9 (fun j hj => ?_)
    exact h.cells (g := g) rfl j _ (by simp [Lib.byteCells, List.getElem?_eq_getElem hj])

set_option maxHeartbeats 8000000 in
set_option maxRecDepth 100000 in
theorem genReplace (B g tb : Nat) (ns : Nat → Nat) (w : World) (hG : GenT B g tb ns w) (s : ByteArray) (hs : s.size ≤ 1000000) :
    Calls Tryz.prog 171 #[.pointer (some ⟨g, 0, none⟩), .string s] w fun e w' => e = .returned (.string (Ref.str (Ent.wr false (Ref.lst s)))) ∧ Below w.heap.size w w' := by
  obtain ⟨i0, hi, hz0, hz1, hz2⟩ := info_parts infoByte
  have hmk := fun w => run_make (P := Tryz.prog) w 196 5 i0 (.int .u8 0) Tryz.underlying196 hi hz0 .i64 .i64 0 (s.size : Int) (by omega) (by omega) (by rw [hz2]; omega) (by omega)
  have HWS := Lib.hid (writeString B g tb ns w hG s hs)
  clear hG
  go_enter Tryz.func171, Tryz.ntmps171
  go_wp2_with fail
  refine (HWS.out _ _ (((Below.refl _ w).alloc (Nat.le_refl _) _).alloc (by simp) _) ⟨_, ?_, (World.ownsRow_made w _ s.size (Nat.le_refl _) (by unfold maxLen; omega) (by rw [size_madeCells, Nat.mul_one])).alloc _, ?_, by omega⟩).mono ?_
  · have := heap_alloc_new (w.alloc (.cells (madeCells #[.int .u8 0] s.size) 5)) (.cells #[.slice (some ⟨w.heap.size, 0, none⟩) 0 s.size] 196)
    simpa using this
  · simp [Value.ownBlock]
  rintro e w1 ⟨⟨x, rfl⟩, hbuf, hB1⟩
  obtain ⟨v, hb, hown, _, _⟩ := hbuf
  have c0 : w1.cell? ⟨w.heap.size + 1, 0, none⟩ = some v := cell_of_one hb
  have hcv := buf_string hown
  have HB1 := Lib.hid hB1
  clear hb hown hB1
  go_wp2
  go_ret
  exact ⟨rfl, HB1.out⟩

theorem nil_ahead_r (a : Addr) (w : World) : (nilAhead 309 100 (.pointer (some a)) "Replace").run Tryz.prog w = .ok (some false) w := by kernel_rfl
theorem method_r (a : Addr) (w : World) : (method 309 100 (.pointer (some a)) "Replace").run Tryz.prog w = .ok (171, .pointer (some a)) w := by kernel_rfl

theorem Fresh.cells {b ob cp : Nat} {w : World} (h : Fresh b ob cp w) : w.cell? ⟨b, 0, none⟩ = some (.int .u32 0) ∧ w.cell? ⟨b, 1, none⟩ = some (.int .i32 0) ∧ w.cell? ⟨b, 3, none⟩ = some .nilIface ∧
    w.cell? ⟨b, 4, none⟩ = some (.slice (some ⟨ob, 0, none⟩) 8 cp) ∧ (∀ i, w.frozen? ⟨b, i, none⟩ = false) ∧ b < w.heap.size := by
  have hb := h.blk
  refine ⟨?_, ?_, ?_, ?_, fun i => Lib.frozen_of_heap hb i, lt_of_block hb⟩ <;> (rw [Lib.cell_of_heap hb]; rfl)

set_option maxHeartbeats 8000000 in
set_option maxRecDepth 100000 in
theorem replace (B0 b ob cp : Nat) (w : World) (hF : Fresh b ob cp w) (hB0 : B0 ≤ b) (s : ByteArray) (hs : s.size ≤ 1000000) :
    Calls Tryz.prog 25 #[.pointer (some ⟨b, 0, none⟩), .string s] w fun e w' => e = .returned (.string (Ref.str (Ent.wr false (Ref.lst s)))) ∧ Below B0 w w' := by
  obtain ⟨c0, c1, c3, c4, cf, hlt⟩ := Fresh.cells hF
  have ho : ∀ i, i ≠ 1 → (w.setCell ⟨b, 1, none⟩ (.int .i32 1)).cell? ⟨b, i, none⟩ = w.cell? ⟨b, i, none⟩ := fun i hi => Trie.other _ (by first | (simp; done) | (simp; omega))
  have hsz : (w.setCell ⟨b, 1, none⟩ (.int .i32 1)).heap.size = w.heap.size := by simp
  have HD := Lib.hid (once_do b w c0 c1 (cf 0) (cf 1)
    (fun w' => ∃ W, Gen w.heap.size w.heap.size W ∧ Below w.heap.size (w.setCell ⟨b, 1, none⟩ (.int .i32 1)) W ∧
      w' = (W.setCell ⟨b, 3, none⟩ (.iface 100 (.pointer (some ⟨w.heap.size, 0, none⟩)))).setCell ⟨b, 4, none⟩ (.slice none 0 0))
    (by
      rintro w' ⟨W, hg, hb, rfl⟩
      refine ⟨⟨?_, ?_⟩, ?_, ?_⟩
      · rw [Trie.other _ (by simp), Trie.other _ (by simp), hb.cell (p := ⟨b, 0, none⟩) hlt, ho 0 (by omega)]
        exact c0
      · rw [Trie.other _ (by simp), Trie.other _ (by simp), hb.cell (p := ⟨b, 1, none⟩) hlt]
        exact World.cell?_setCell_same _ _ _ c1
      · rw [World.frozen?_setCell, World.frozen?_setCell, hb.frozen (p := ⟨b, 0, none⟩) hlt, World.frozen?_setCell]; exact cf 0
      · rw [World.frozen?_setCell, World.frozen?_setCell, hb.frozen (p := ⟨b, 1, none⟩) hlt, World.frozen?_setCell]; exact cf 1)
    (by
      have hbo := buildOnce b ob cp (w.setCell ⟨b, 1, none⟩ (.int .i32 1)) _ ((ho 3 (by omega)).trans c3) ((ho 4 (by omega)).trans c4)
        (fun i s hs => by rw [Trie.other _ (Trie.ne_of_block (Ne.symm hF.ne))]; exact hF.old i s hs)
        (by rw [World.frozen?_setCell]; exact cf 3) (by rw [World.frozen?_setCell]; exact cf 4)
      rw [hsz] at hbo
      exact hbo))
  have hmf : ∀ (fn : Fn) (first cap : Array Value) (w : World), (Instr.makeFunc fn first cap).run Tryz.prog w = .ok (.func fn first cap) w := fun _ _ _ _ => rfl
  have HF := Lib.hid hF
  have HC := Lib.hid (And.intro c3 (And.intro c4 cf))
  clear hF c0 c1 c3 c4 cf ho hsz
  go_enter Tryz.func25, Tryz.ntmps25
  go_wp2_with fail
  refine HD.out.mono ?_
  rintro e w' ⟨rfl, w1, ⟨W, hg, hb, rfl⟩, rfl⟩
  obtain ⟨c3, c4, cf⟩ := HC.out
  have d3 : W.cell? ⟨b, 3, none⟩ = some .nilIface := by
    rw [hb.cell (p := ⟨b, 3, none⟩) hlt, Trie.other _ (by simp)]; exact c3
  obtain ⟨Wn, hWn⟩ : ∃ Wn, shut b ((W.setCell ⟨b, 3, none⟩ (.iface 100 (.pointer (some ⟨w.heap.size, 0, none⟩)))).setCell ⟨b, 4, none⟩ (.slice none 0 0)) = Wn := ⟨_, rfl⟩
  have e3 : Wn.cell? ⟨b, 3, none⟩ = some (.iface 100 (.pointer (some ⟨w.heap.size, 0, none⟩))) := by
    rw [← hWn]
    unfold shut
    rw [Trie.other _ (by simp), Trie.other _ (by simp), World.cell?_drew, Trie.other _ (by simp)]
    exact World.cell?_setCell_same _ _ _ d3
  have hg2 : Gen w.heap.size w.heap.size Wn := by
    refine Gen.of_cells hg (fun a v ha hv => ?_)
    have hne : ∀ i, (⟨b, i, none⟩ : Addr) ≠ a := fun i e => by
      have := congrArg Addr.block e
      simp at this
      omega
    rw [← hWn]
    unfold shut
    rw [Trie.other _ (hne _), Trie.other _ (hne _), World.cell?_drew, Trie.other _ (hne _), Trie.other _ (hne _)]
    exact hv
  have hb2 : Below B0 w Wn := by
    rw [← hWn]
    unfold shut
    exact (((((((Below.refl B0 w).setCell (p := ⟨b, 1, none⟩) hB0 _).trans (hb.mono (by omega))).setCell (p := ⟨b, 3, none⟩) hB0 _).setCell (p := ⟨b, 4, none⟩) hB0 _).drew).setCell (p := ⟨b, 0, none⟩) hB0 _).setCell (p := ⟨b, 1, none⟩) hB0 _
  rw [hWn]
  obtain ⟨tb, ns, hr, hgg, htb, hn, h3⟩ := hg2
  have HR := Lib.hid (genReplace w.heap.size w.heap.size tb ns Wn ⟨hr, hgg, htb, hn, h3⟩ s hs)
  have HB := Lib.hid hb2
  have hna := nil_ahead_r ⟨w.heap.size, 0, none⟩
  have hme := method_r ⟨w.heap.size, 0, none⟩
  clear hWn hg hb hr hn h3 d3 c3 c4 cf HC HF HD hb2
  go_wp2_with fail
  refine HR.out.mono ?_
  rintro e w2 ⟨rfl, hb4⟩
  have HB4 : Below B0 w w2 := HB.out.trans (hb4.mono (by have := HB.out.size; omega))
  clear hb4
  go_wp2
  go_ret
  exact ⟨rfl, HB4⟩

set_option maxHeartbeats 8000000 in
set_option maxRecDepth 100000 in
theorem Text (s : ByteArray) (hs : s.size ≤ 1000000) (w : World) :
    Calls Tryz.prog 14 #[.string s] w fun e w' => e = .returned (.string (Ref.str (Ent.wr false (Ref.lst s)))) ∧ Below w.heap.size w w' := by
  go_enter Tryz.func14, Tryz.ntmps14
  go_wp2_with fail
  refine (newReplacer w.heap.size _ (fun i s hs => ?_)).mono ?_
  · refine (alloc_cell w (ents.map Value.string) _ i).trans ?_
    rw [List.getElem?_map, hs]; rfl
  rintro e w1 ⟨b, nb, cp, rfl, hF, hB, hb⟩
  have hB1 : Below w.heap.size w w1 := ((Below.refl _ w).alloc (Nat.le_refl _) _).trans (hB.mono (by simp))
  have HF := Lib.hid hF
  have HB := Lib.hid hB1
  have hb' : w.heap.size ≤ b := by simp at hb; omega
  clear hF hB hB1 hb
  go_wp2_with fail
  refine (replace w.heap.size b nb cp w1 HF.out hb' s hs).mono ?_
  rintro e w2 ⟨rfl, hB2⟩
  have HB2 := Lib.hid (HB.out.trans hB2)
  clear hB2
  go_wp2
  go_ret
  exact ⟨rfl, HB2.out⟩

/-! ### the value -/
def subst1 (c : UInt8) (new : Bs) (l : Bs) : Bs := l.flatMap fun b => if b = c then new else [b]

theorem subst1_none {c : UInt8} {new : Bs} : ∀ {l : Bs}, (∀ b ∈ l, b ≠ c) → subst1 c new l = l
  | [], _ => rfl
  | b :: l, h => by
    have ih := subst1_none (new := new) (fun d hd => h d (List.mem_cons_of_mem _ hd) : ∀ d ∈ l, d ≠ c)
    unfold subst1 at ih ⊢
    rw [List.flatMap_cons, if_neg (h b List.mem_cons_self), ih]; rfl

theorem take_ne (c : UInt8) (l : Bs) : ∀ b ∈ l.takeWhile (· != c), b ≠ c := fun b hb => by
  have : (b != c) = true := List.all_eq_true.1 List.all_takeWhile b hb
  simpa using this

theorem replaceK_one (c : UInt8) (new : Bs) : ∀ (n : Nat) (l : Bs), l.length ≤ n → Lib.replaceK [c] new (Lib.count l [c]) l = subst1 c new l
  | 0, l, h => by
    obtain rfl : l = [] := List.eq_nil_of_length_eq_zero (by omega)
    rw [Lib.count_miss (by rw [Cut1.index_one]; rfl)]; rfl
  | n + 1, l, h => by
    have hi := Cut1.index_one c l
    have e : l.takeWhile (· != c) ++ l.dropWhile (· != c) = l := List.takeWhile_append_dropWhile
    cases hd : l.dropWhile (· != c) with
    | nil =>
      rw [hd, if_pos rfl] at hi
      rw [Lib.count_miss hi]
      rw [hd, List.append_nil] at e
      rw [subst1_none (by rw [← e]; exact take_ne c l)]
      rfl
    | cons y r =>
      have hy : y = c := by
        have := List.head?_dropWhile_not (· != c) l
        rw [hd] at this
        simpa using this
      subst hy
      rw [hd, if_neg (by simp)] at hi
      rw [hd] at e
      have hdr : l.drop ((l.takeWhile (· != y)).length + [y].length) = r := by
        conv => lhs; rw [← e]
        have : ∀ u : Bs, (u ++ y :: r).drop (u.length + 1) = r := fun u => by simp
        have e2 : (l.takeWhile (· != y) ++ y :: r).takeWhile (· != y) = l.takeWhile (· != y) := by rw [e]
        rw [e2]
        exact this _
      have htk : l.take (l.takeWhile (· != y)).length = l.takeWhile (· != y) := by
        conv => lhs; rw [← e]
        have : ∀ u : Bs, (u ++ y :: r).take u.length = u := fun u => by simp
        have e2 : (l.takeWhile (· != y) ++ y :: r).takeWhile (· != y) = l.takeWhile (· != y) := by rw [e]
        rw [e2]
        exact this _
      rw [Lib.count_hit (by simp) hi, Nat.add_comm, Lib.replaceK_hit _ _ _ _ _ hi, hdr, htk]
      have hlen : r.length ≤ n := by
        have := congrArg List.length e
        simp at this
        omega
      rw [replaceK_one y new n r hlen]
      conv => rhs; rw [← e]
      have e3 : subst1 y new (l.takeWhile (· != y) ++ y :: r) = subst1 y new (l.takeWhile (· != y)) ++ (new ++ subst1 y new r) := by
        unfold subst1
        rw [List.flatMap_append, List.flatMap_cons, if_pos rfl]
      rw [e3, subst1_none (take_ne y l), List.append_assoc]

theorem replaceAll_one (c : UInt8) (new l : Bs) (hn : ¬ ([c] == new) = true) : Lib.replaceAll l [c] new = subst1 c new l := by
  unfold Lib.replaceAll Lib.replace Lib.replaceNum
  rw [if_neg hn, if_pos (Or.inl (by omega))]
  exact replaceK_one c new l.length l (Nat.le_refl _)

theorem subst1_append (c : UInt8) (new a b : Bs) : subst1 c new (a ++ b) = subst1 c new a ++ subst1 c new b := List.flatMap_append

theorem value_eq (l : Bs) : subst1 34 [38, 113, 117, 111, 116, 59] (Ent.wr false l) = Ent.wr true l := by
  refine wr_ind false (fun l t => subst1 34 [38, 113, 117, 111, 116, 59] t = Ent.wr true l) ?_ ?_ ?_ l
  · rw [wr_nil]; rfl
  · intro r h
    rw [subst1_append, h, wr_nbsp]; rfl
  · intro c r hc h
    rw [subst1_append, h, wr_cons true c r hc]
    congr 1
    unfold esc
    by_cases e1 : c = 38
    · rw [if_pos e1, if_pos e1]; rfl
    by_cases e2 : c = 60
    · rw [if_neg e1, if_neg e1, if_pos e2, if_pos e2]; rfl
    by_cases e3 : c = 62
    · rw [if_neg e1, if_neg e1, if_neg e2, if_neg e2, if_pos e3, if_pos e3]; rfl
    by_cases e4 : c = 34
    · subst e4; rfl
    rw [if_neg e1, if_neg e1, if_neg e2, if_neg e2, if_neg e3, if_neg e3, if_neg (by simp), if_neg (fun h => e4 h.1)]
    unfold subst1
    rw [List.flatMap_cons, if_neg e4]; rfl

set_option maxHeartbeats 8000000 in
set_option maxRecDepth 100000 in
theorem Value (s : ByteArray) (hs : s.size ≤ 1000000) (w : World) (hM : Cut1.MaxAt w) :
    Calls Tryz.prog 16 #[.string s] w fun e w' => e = .returned (.string (Ref.str (Ent.wr true (Ref.lst s)))) ∧ Below w.heap.size w w' := by
  have HM := Lib.hid (fun (W : World) (h : Below w.heap.size w W) => hM.below h)
  clear hM
  go_enter Tryz.func16, Tryz.ntmps16
  go_wp2_with fail
  refine (Text s hs w).mono ?_
  rintro e w1 ⟨rfl, hB⟩
  obtain ⟨m, hm⟩ := HM.out w1 hB
  have HB := Lib.hid hB
  have hsz := hB.size
  have hl := wr_le (Ref.lst s)
  rw [Ref.lst_length] at hl
  have hsz2 : (Ref.str (Ent.wr false (Ref.lst s))).size ≤ 6000000 := by rw [Ref.str_size]; omega
  have HR := Lib.hid (Tryz.strings_ReplaceAll (Ref.str (Ent.wr false (Ref.lst s))) ⟨#[34]⟩ ⟨#[38, 113, 117, 111, 116, 59]⟩ m w1 (by omega) hm (by decide) (by
    have := Lib.count_le (Ref.str (Ent.wr false (Ref.lst s))).data.toList [34]
    have h2 : (Ref.str (Ent.wr false (Ref.lst s))).data.toList.length ≤ 6000000 := by
      have := hsz2
      rw [Ref.str_size] at this
      simpa [Ref.str] using this
    have h3 : Lib.countB (Ref.str (Ent.wr false (Ref.lst s))) ⟨#[34]⟩ = Lib.count (Ref.str (Ent.wr false (Ref.lst s))).data.toList [34] := rfl
    rw [h3]
    show _ + _ * 6 ≤ _
    omega))
  clear hm hB
  go_wp2_with fail
  refine HR.out.mono ?_
  rintro e w2 ⟨rfl, hB2⟩
  have HB2 := Lib.hid (HB.out.trans (hB2.mono hsz))
  clear hB2
  go_wp2
  go_ret
  refine ⟨?_, HB2.out⟩
  have hv : Lib.replaceAll (Ref.str (Ent.wr false (Ref.lst s))).data.toList [34] [38, 113, 117, 111, 116, 59] = Ent.wr true (Ref.lst s) := by
    rw [replaceAll_one _ _ _ (by decide), ← value_eq]
    congr 1
  exact congrArg (fun x => Ending.returned (.string (Ref.str x))) hv
end Go.Proofs.YtagbehhggpepfaaGreatDoor.Txt
