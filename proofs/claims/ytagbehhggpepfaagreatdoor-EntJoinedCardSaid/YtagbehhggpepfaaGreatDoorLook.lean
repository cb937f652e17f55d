/- The replacer of ent.Text: NewReplacer, build, buildOnce. What the generic replacer finds at the head of a text. -/
import Derived.Test.YtagbehhggpepfaaGreatDoorMake
import Derived.Test.YtagbehhggpepfaaGreatDoorOnce
import Derived.Outline
import Derived.Test.YtagbehhggpepfaaGreatDoorShelf
import Derived.LoopN
import Derived.WalkSpells
import Derived.Deep.QuietTactic
import Derived.BigQuiet
import Derived.BigGuard
set_option linter.unusedVariables false
set_option linter.unusedSimpArgs false
namespace Go.Proofs.YtagbehhggpepfaaGreatDoor.Repl
open Go.RowKit Go.Proofs.YtagbehhggpepfaaGreatDoor.Trie Go.Proofs.YtagbehhggpepfaaGreatDoor.Make Go.Proofs.YtagbehhggpepfaaGreatDoor.Once1

theorem Gen.of_cells {B g : Nat} {W W' : World} (h : Gen B g W) (hc : ∀ a v, B ≤ a.block → W.cell? a = some v → W'.cell? a = some v) : Gen B g W' := by
  obtain ⟨tb, ns, hr, hg, htb, hn, h3⟩ := h
  refine ⟨tb, ns, ⟨hc _ _ hg hr.pr, hc _ _ hg hr.pfx, hc _ _ hg hr.tab, hc _ _ hg hr.ts, fun c h => hc _ _ hg (hr.map c h)⟩, hg, htb, ?_, hc _ _ htb h3⟩
  intro i hi
  obtain ⟨h1, h2, h4⟩ := hn i hi
  have hL : ∀ {n : Nat} {v : ByteArray} {p : Int}, tb < n → Leaf n v p W → Leaf n v p W' := fun {n v p} hn h =>
    ⟨hc _ _ (by show B ≤ n; omega) h.val, hc _ _ (by show B ≤ n; omega) h.pr, hc _ _ (by show B ≤ n; omega) h.pfx, hc _ _ (by show B ≤ n; omega) h.tab⟩
  refine ⟨hc _ _ htb h1, h2, ?_⟩
  match i, hi, h4 with
  | 0, _, h4 => exact hL h2 h4
  | 1, _, h4 => exact hL h2 h4
  | 2, _, h4 => exact hL h2 h4
  | 3, _, ⟨k, hk, m, l⟩ => exact ⟨k, hk, ⟨hc _ _ (by show B ≤ ns 3; omega) m.pr, hc _ _ (by show B ≤ ns 3; omega) m.pfx, hc _ _ (by show B ≤ ns 3; omega) m.nxt, hc _ _ (by show B ≤ ns 3; omega) m.tab⟩, hL hk l⟩

set_option maxHeartbeats 4000000 in
set_option maxRecDepth 100000 in
theorem build (b ob cp : Nat) (w : World) (h4 : w.cell? ⟨b, 4, none⟩ = some (.slice (some ⟨ob, 0, none⟩) 8 cp)) (hob : ∀ i s, ents[i]? = some s → w.cell? ⟨ob, i, none⟩ = some (.string s)) :
    Calls Tryz.prog 51 #[.pointer (some ⟨b, 0, none⟩)] w fun e w' =>
      e = .returned (.iface 100 (.pointer (some ⟨w.heap.size, 0, none⟩))) ∧ Gen w.heap.size w.heap.size w' ∧ Below w.heap.size w w' := by
  have HM := Lib.hid (make ob cp ents rfl w hob)
  have HO := Lib.hid hob
  clear hob
  go_enter Tryz.func51, Tryz.ntmps51
  go_wp2_with fail
  go_loop [5] (fun v => ∃ q : Nat, v = .int .i64 ((2 * q : Nat) : Int) ∧ q ≤ 3) (fun v => 8 - (intOf v).toNat)
  case atStart => exact ⟨0, rfl, by omega⟩
  case round =>
    obtain ⟨q, rfl, hq⟩ := hrel
    obtain rfl | rfl | rfl | rfl : q = 0 ∨ q = 1 ∨ q = 2 ∨ q = 3 := by omega
    · have hk := HO.out 0 (keyB 0) rfl
      have hv := HO.out 1 (valB 0) rfl
      unfold keyB at hk
      unfold valB at hv
      go_wp2_with fail
      exact ⟨⟨1, by go_num, by omega⟩, by simp [intOf]⟩
    · have hk := HO.out 2 (keyB 1) rfl
      have hv := HO.out 3 (valB 1) rfl
      unfold keyB at hk
      unfold valB at hv
      go_wp2_with fail
      exact ⟨⟨2, by go_num, by omega⟩, by simp [intOf]⟩
    · have hk := HO.out 4 (keyB 2) rfl
      have hv := HO.out 5 (valB 2) rfl
      unfold keyB at hk
      unfold valB at hv
      go_wp2_with fail
      exact ⟨⟨3, by go_num, by omega⟩, by simp [intOf]⟩
    · have hk := HO.out 6 (keyB 3) rfl
      unfold keyB at hk
      go_wp2_with fail
      refine HM.out.mono ?_
      rintro e w' ⟨rfl, hg, hb⟩
      have HG := Lib.hid hg
      have HB := Lib.hid hb
      clear hg hb hk
      go_wp2
      go_ret
      exact ⟨rfl, HG.out, HB.out⟩

set_option maxHeartbeats 4000000 in
set_option maxRecDepth 100000 in
theorem buildOnce (b ob cp : Nat) (w : World) (x3 : Value) (h3 : w.cell? ⟨b, 3, none⟩ = some x3) (h4 : w.cell? ⟨b, 4, none⟩ = some (.slice (some ⟨ob, 0, none⟩) 8 cp)) (hob : ∀ i s, ents[i]? = some s → w.cell? ⟨ob, i, none⟩ = some (.string s))
    (f3 : w.frozen? ⟨b, 3, none⟩ = false) (f4 : w.frozen? ⟨b, 4, none⟩ = false) :
    Calls Tryz.prog 39 #[.pointer (some ⟨b, 0, none⟩)] w fun e w' =>
      e = .returned (.tuple #[]) ∧ ∃ W, Gen w.heap.size w.heap.size W ∧ Below w.heap.size w W ∧
        w' = (W.setCell ⟨b, 3, none⟩ (.iface 100 (.pointer (some ⟨w.heap.size, 0, none⟩)))).setCell ⟨b, 4, none⟩ (.slice none 0 0) := by
  have HM := Lib.hid (build b ob cp w h4 hob)
  have HO := Lib.hid hob
  clear hob
  have hlt : b < w.heap.size := World.block_lt_of_cell? w _ h3
  go_enter Tryz.func39, Tryz.ntmps39
  go_wp2_with fail
  refine HM.out.mono ?_
  rintro e w' ⟨rfl, hg, hb⟩
  have HG := Lib.hid hg
  have HB := Lib.hid hb
  have c3 : w'.cell? ⟨b, 3, none⟩ = some x3 := (hb.cell (p := ⟨b, 3, none⟩) hlt).trans h3
  have c4 : w'.cell? ⟨b, 4, none⟩ = some (.slice (some ⟨ob, 0, none⟩) 8 cp) := (hb.cell (p := ⟨b, 4, none⟩) hlt).trans h4
  have z3 : w'.frozen? ⟨b, 3, none⟩ = false := (hb.frozen (p := ⟨b, 3, none⟩) hlt).trans f3
  have z4 : w'.frozen? ⟨b, 4, none⟩ = false := (hb.frozen (p := ⟨b, 4, none⟩) hlt).trans f4
  clear hg hb
  go_wp2
  go_end0
  exact ⟨rfl, _, HG.out, HB.out, rfl⟩

theorem infoStr : (Tryz.prog.info? 9).map (fun i => (i.zero, i.size, i.bytes)) = some (some (.string ⟨#[]⟩), 1, 16) := by kernel_rfl

/-- A Replacer that nobody has used. -/
structure Fresh (b ob cp : Nat) (W : World) : Prop where
  blk : W.heap[b]? = some (.cells #[.int .u32 0, .int .i32 0, .int .u32 0, .nilIface, .slice (some ⟨ob, 0, none⟩) 8 cp] 71 (0, 0))
  old : ∀ i s, ents[i]? = some s → W.cell? ⟨ob, i, none⟩ = some (.string s)
  ne : ob ≠ b

set_option maxHeartbeats 4000000 in
set_option maxRecDepth 100000 in
theorem newReplacer (ob : Nat) (w : World) (hob : ∀ i s, ents[i]? = some s → w.cell? ⟨ob, i, none⟩ = some (.string s)) :
    Calls Tryz.prog 24 #[.slice (some ⟨ob, 0, none⟩) 8 8] w fun e w' =>
      ∃ b nb cp, e = .returned (.pointer (some ⟨b, 0, none⟩)) ∧ Fresh b nb cp w' ∧ Below w.heap.size w w' ∧ w.heap.size ≤ b := by
  have HO := Lib.hid hob
  clear hob
  obtain ⟨i0, hi, hz0, hz1, hz2⟩ := info_parts infoStr
  go_enter Tryz.func24, Tryz.ntmps24
  go_wp2_with (at_builtin; refine wpList_append_own _ rfl _ _ 55 rfl w.heap.size 9 i0 (.string ⟨#[]⟩) 1 16 Tryz.underlying55 hi hz0 hz1 hz2 rfl (by decide) (.slice none 0 0) 0 [] rfl ⟨by simp, .inl ⟨rfl, rfl⟩⟩ ⟨ob, 0, none⟩ 8 8 (ents.map Value.string) rfl rfl ?c1 ?c2 ?c3 ?c4 ?c5 ?_)
  case c1 =>
    intro j u hj
    rw [List.getElem?_map, Option.map_eq_some_iff] at hj
    obtain ⟨s, hs, rfl⟩ := hj
    have := HO.out j s hs
    unfold Addr.add
    split
    · rename_i h0; subst h0; exact this
    · simpa using this
  case c2 => intro u hu; simp at hu; obtain ⟨s, _, rfl⟩ := hu; rfl
  case c3 => unfold maxLen; omega
  case c4 => omega
  case c5 => omega
  intro v' w1 hown' hgrow hh
  obtain ⟨g, cap, rfl, hlt⟩ : ∃ g cap, v' = .slice (some ⟨g, 0, none⟩) 8 cap ∧ g < w1.heap.size := by
    rcases hown'.2 with ⟨_, h0⟩ | ⟨g, cap, cur, hv, _, hcur, _⟩
    · exact absurd h0 (by omega)
    · refine ⟨g, cap, hv, ?_⟩
      rcases Nat.lt_or_ge g w1.heap.size with h' | h'
      · exact h'
      · simp [Array.getElem?_eq_none h'] at hcur
  have hcs := hown'.cells (g := g) rfl
  have hB1 : Below w.heap.size w w1 := (Below.refl _ w).grown hgrow (Nat.le_refl _) (fun k hk => by simp [Value.ownBlock] at hk)
  have HC := Lib.hid hcs
  have HB := Lib.hid hB1
  clear hcs hB1 hown' hgrow hh
  go_wp2
  go_ret
  have hB1 := HB.out
  refine ⟨w1.heap.size, g, cap, rfl, ⟨?_, ?_, ?_⟩, hB1.alloc hB1.size _, hB1.size⟩
  · exact heap_alloc_new _ _
  · intro i s hs
    have := HC.out i (.string s) (by rw [List.getElem?_map, hs]; rfl)
    refine Lib.cell?_alloc_some _ ?_
    unfold Addr.add at this
    split at this
    · rename_i h0; subst h0; exact this
    · simpa using this
  · exact fun e => by omega
end Go.Proofs.YtagbehhggpepfaaGreatDoor.Repl
set_option linter.unusedVariables false
set_option linter.unusedSimpArgs false
namespace Go.Proofs.YtagbehhggpepfaaGreatDoor.Look
open Go.RowKit Go.Proofs.YtagbehhggpepfaaGreatDoor.Trie Go.Proofs.YtagbehhggpepfaaGreatDoor.Make Go.Proofs.YtagbehhggpepfaaGreatDoor.Repl

set_option maxHeartbeats 4000000 in
set_option maxRecDepth 100000 in
theorem look_empty (B g : Nat) (w : World) (h : Gen B g w) :
    Calls Tryz.prog 174 #[.pointer (some ⟨g, 0, none⟩), .string ⟨#[]⟩, .bool false] w fun e w' =>
      e = .returned (.tuple #[.string ⟨#[]⟩, .int .i64 0, .bool false]) ∧ w' = w := by
  obtain ⟨tb, ns, hr, hg, htb, hn, h3⟩ := h
  have c1 := hr.pr
  have hemp : (⟨#[]⟩ : ByteArray).toList.isEmpty = true := by rw [Go.Lib.toList_data]; rfl
  clear hr hn h3
  go_enter Tryz.func174, Tryz.ntmps174
  go_wp2_with fail
  refine wp_loop_rounds 1 ?_
  rw [rounds_succ]
  go_wp2_with fail
  go_ret3
  exact ⟨rfl, rfl⟩

set_option maxHeartbeats 4000000 in
set_option maxRecDepth 100000 in
theorem look_leaf (g tb n : Nat) (c : UInt8) (m : Nat) (hm : m < 5) (v : ByteArray) (p : Int) (hp : 0 < p) (w : World) (c1 : w.cell? ⟨g, 1, none⟩ = some (.int .i64 0)) (c4 : w.cell? ⟨g, 4, none⟩ = some (.slice (some ⟨tb, 0, none⟩) 5 5))
    (c5 : w.cell? ⟨g, 5, none⟩ = some (.int .i64 5)) (cm : w.cell? ⟨g, 6 + c.toNat, none⟩ = some (.int .u8 (m : Int))) (ct : w.cell? ⟨tb, m, none⟩ = some (.pointer (some ⟨n, 0, none⟩)))
    (hl : Leaf n v p w) (s : ByteArray) (h0 : 0 < s.size) (hc : s[0]'h0 = c) (hs : s.size ≤ 100000000) :
    Calls Tryz.prog 174 #[.pointer (some ⟨g, 0, none⟩), .string s, .bool false] w fun e w' =>
      e = .returned (.tuple #[.string v, .int .i64 1, .bool true]) ∧ ∃ n, w' = w.drewN n := by
  have hemp : (⟨#[]⟩ : ByteArray).toList.isEmpty = true := by rw [Go.Lib.toList_data]; rfl
  have hne : s.toList.isEmpty = false := by
    rw [Go.Lib.toList_data]
    have : s.data.toList.length = s.size := Array.length_toList
    cases h : s.data.toList with
    | nil => rw [h] at this; simp at this; omega
    | cons => rfl
  have hsn : ∀ w, Go.Sem.run Tryz.prog (Go.binOp .neq 129 (.slice (some ⟨tb, 0, none⟩) 5 5) (.slice none 0 0)) w = .ok (.bool true) w := fun w => Go.run_neq_slice_nil_any w _ _ _ 5 5 0 0 Tryz.underlying129
  have hsn0 : ∀ w, Go.Sem.run Tryz.prog (Go.binOp .neq 129 (.slice none 0 0) (.slice none 0 0)) w = .ok (.bool false) w := fun w => Go.run_neq_slice_nil_any w _ _ none 0 0 0 0 Tryz.underlying129
  have hc256 : c.toNat < 256 := c.toNat_lt
  have l0 := hl.val
  have l1 := hl.pr
  have l2 := hl.pfx
  have l4 := hl.tab
  have m0 : 0 ≤ (m : Int) := by omega
  have m5 : (m : Int) < 5 := by omega
  have m5n : ¬ (m : Int) = 5 := by omega
  clear hl
  go_enter Tryz.func174, Tryz.ntmps174
  go_wp2_with fail
  refine wp_loop_rounds 2 ?_
  rw [rounds_succ]
  go_wp2_with fail
  go_quiet (fail)
  go_wp2_with fail
  rw [rounds_succ]
  by_cases he : (s.extract 1 s.size).toList.isEmpty = true
  all_goals
    go_wp2_with fail
    go_ret3
    exact ⟨rfl, nq, rfl⟩

theorem extract_extract (s : ByteArray) : (s.extract 1 s.size).size = s.size - 1 := by simp

theorem empty_of_size {s : ByteArray} (h : s.size = 0) : s.toList.isEmpty = true := by
  rw [Go.Lib.toList_data]
  have : s.data.toList.length = s.size := Array.length_toList
  cases h' : s.data.toList with
  | nil => rfl
  | cons => rw [h'] at this; simp at this; omega
theorem nonempty_of_size {s : ByteArray} (h : 0 < s.size) : s.toList.isEmpty = false := by
  rw [Go.Lib.toList_data]
  have : s.data.toList.length = s.size := Array.length_toList
  cases h' : s.data.toList with
  | nil => rw [h'] at this; simp at this; omega
  | cons => rfl

theorem hasPrefix_one (s : ByteArray) (b : UInt8) (w : World) (v : Bool) (hv : Lib.hasPrefix s.data.toList [b] = v) :
    Calls Tryz.prog 122 #[.string s, .string ⟨#[b]⟩] w fun e w' => e = .returned (.bool v) ∧ w' = w := by
  subst hv
  exact Tryz.strings_HasPrefix s ⟨#[b]⟩ w

set_option maxHeartbeats 4000000 in
set_option maxRecDepth 100000 in
theorem look_mid (g tb n k : Nat) (c : UInt8) (m : Nat) (hm : m < 5) (v : ByteArray) (p : Int) (hp : 0 < p) (w : World) (c1 : w.cell? ⟨g, 1, none⟩ = some (.int .i64 0)) (c4 : w.cell? ⟨g, 4, none⟩ = some (.slice (some ⟨tb, 0, none⟩) 5 5))
    (c5 : w.cell? ⟨g, 5, none⟩ = some (.int .i64 5)) (cm : w.cell? ⟨g, 6 + c.toNat, none⟩ = some (.int .u8 (m : Int))) (ct : w.cell? ⟨tb, m, none⟩ = some (.pointer (some ⟨n, 0, none⟩)))
    (hmid : Mid n k ⟨#[160]⟩ w) (hl : Leaf k v p w) (s : ByteArray) (h0 : 0 < s.size) (hc : s[0]'h0 = c) (hs : s.size ≤ 100000000) (h1 : 1 < s.size) (hp1 : Lib.hasPrefix (s.extract 1 s.size).data.toList [160] = true) :
    Calls Tryz.prog 174 #[.pointer (some ⟨g, 0, none⟩), .string s, .bool false] w fun e w' =>
      e = .returned (.tuple #[.string v, .int .i64 2, .bool true]) ∧ ∃ n, w' = w.drewN n := by
  have hemp : (⟨#[]⟩ : ByteArray).toList.isEmpty = true := by rw [Go.Lib.toList_data]; rfl
  have hem1 : (⟨#[160]⟩ : ByteArray).toList.isEmpty = false := by rw [Go.Lib.toList_data]; rfl
  have hne : s.toList.isEmpty = false := nonempty_of_size h0
  have hz1 : 0 < (s.extract 1 s.size).size := by rw [extract_extract]; omega
  have hz2 : (1 : Int) ≤ (s.extract 1 s.size).size := by omega
  have hne1 : (s.extract 1 s.size).toList.isEmpty = false := nonempty_of_size hz1
  have hsn : ∀ w, Go.Sem.run Tryz.prog (Go.binOp .neq 129 (.slice (some ⟨tb, 0, none⟩) 5 5) (.slice none 0 0)) w = .ok (.bool true) w := fun w => Go.run_neq_slice_nil_any w _ _ _ 5 5 0 0 Tryz.underlying129
  have hsn0 : ∀ w, Go.Sem.run Tryz.prog (Go.binOp .neq 129 (.slice none 0 0) (.slice none 0 0)) w = .ok (.bool false) w := fun w => Go.run_neq_slice_nil_any w _ _ none 0 0 0 0 Tryz.underlying129
  have hc256 : c.toNat < 256 := c.toNat_lt
  have n1 := hmid.pr
  have n2 := hmid.pfx
  have n3 := hmid.nxt
  have n4 := hmid.tab
  have l0 := hl.val
  have l1 := hl.pr
  have l2 := hl.pfx
  have l4 := hl.tab
  have m0 : 0 ≤ (m : Int) := by omega
  have m5 : (m : Int) < 5 := by omega
  have m5n : ¬ (m : Int) = 5 := by omega
  have HP := Lib.hid (fun W => hasPrefix_one (s.extract 1 s.size) 160 W true hp1)
  clear hl hmid hp1
  go_enter Tryz.func174, Tryz.ntmps174
  go_wp2_with fail
  refine wp_loop_rounds 3 ?_
  rw [rounds_succ]
  go_wp2_with fail
  go_quiet (fail)
  go_wp2_with fail
  rw [rounds_succ]
  go_wp2_with (go_at_call 122; refine (HP.out _).mono ?_; rintro e w' ⟨rfl, rfl⟩)
  rw [rounds_succ]
  by_cases he : ((s.extract 1 s.size).extract 1 (s.size - 1)).toList.isEmpty = true
  all_goals
    go_wp2_with fail
    go_ret3
    exact ⟨rfl, nq, rfl⟩

set_option maxHeartbeats 4000000 in
set_option maxRecDepth 100000 in
theorem look_mid_no (g tb n k : Nat) (c : UInt8) (m : Nat) (hm : m < 5) (w : World) (c1 : w.cell? ⟨g, 1, none⟩ = some (.int .i64 0)) (c4 : w.cell? ⟨g, 4, none⟩ = some (.slice (some ⟨tb, 0, none⟩) 5 5))
    (c5 : w.cell? ⟨g, 5, none⟩ = some (.int .i64 5)) (cm : w.cell? ⟨g, 6 + c.toNat, none⟩ = some (.int .u8 (m : Int))) (ct : w.cell? ⟨tb, m, none⟩ = some (.pointer (some ⟨n, 0, none⟩)))
    (hmid : Mid n k ⟨#[160]⟩ w) (s : ByteArray) (h0 : 0 < s.size) (hc : s[0]'h0 = c) (hs : s.size ≤ 100000000) (hp1 : Lib.hasPrefix (s.extract 1 s.size).data.toList [160] = false) :
    Calls Tryz.prog 174 #[.pointer (some ⟨g, 0, none⟩), .string s, .bool false] w fun e w' =>
      e = .returned (.tuple #[.string ⟨#[]⟩, .int .i64 0, .bool false]) ∧ ∃ n, w' = w.drewN n := by
  have hemp : (⟨#[]⟩ : ByteArray).toList.isEmpty = true := by rw [Go.Lib.toList_data]; rfl
  have hem1 : (⟨#[160]⟩ : ByteArray).toList.isEmpty = false := by rw [Go.Lib.toList_data]; rfl
  have hne : s.toList.isEmpty = false := nonempty_of_size h0
  have hsn : ∀ w, Go.Sem.run Tryz.prog (Go.binOp .neq 129 (.slice (some ⟨tb, 0, none⟩) 5 5) (.slice none 0 0)) w = .ok (.bool true) w := fun w => Go.run_neq_slice_nil_any w _ _ _ 5 5 0 0 Tryz.underlying129
  have hsn0 : ∀ w, Go.Sem.run Tryz.prog (Go.binOp .neq 129 (.slice none 0 0) (.slice none 0 0)) w = .ok (.bool false) w := fun w => Go.run_neq_slice_nil_any w _ _ none 0 0 0 0 Tryz.underlying129
  have hc256 : c.toNat < 256 := c.toNat_lt
  have n1 := hmid.pr
  have n2 := hmid.pfx
  have n3 := hmid.nxt
  have n4 := hmid.tab
  have m0 : 0 ≤ (m : Int) := by omega
  have m5 : (m : Int) < 5 := by omega
  have m5n : ¬ (m : Int) = 5 := by omega
  have HP := Lib.hid (fun W => hasPrefix_one (s.extract 1 s.size) 160 W false hp1)
  clear hmid hp1
  go_enter Tryz.func174, Tryz.ntmps174
  go_wp2_with fail
  refine wp_loop_rounds 2 ?_
  rw [rounds_succ]
  go_wp2_with fail
  go_quiet (fail)
  go_wp2_with fail
  rw [rounds_succ]
  by_cases he : (s.extract 1 s.size).toList.isEmpty = true
  · go_wp2_with fail
    go_ret3
    exact ⟨rfl, nq, rfl⟩
  · go_wp2_with (go_at_call 122; refine (HP.out _).mono ?_; rintro e w' ⟨rfl, rfl⟩)
    go_ret3
    exact ⟨rfl, nq, rfl⟩
end Go.Proofs.YtagbehhggpepfaaGreatDoor.Look
