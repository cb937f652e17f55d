/- Layer 4's alphabet windows-1252 as layer 12 uses it: the label is known as it is written, and each byte is one sign; texts of at most a million bytes. -/
import Derived.Test.YtagbehhggpepfaaGreatDoorBld
import Derived.Test.YtagbehhggpepfaaGreatDoorSmall
import Derived.Test.YtagbehhggpepfaaGreatDoorShelf
import Derived.Shelf.Strings.SlTrimAscii
set_option linter.unusedVariables false
set_option linter.unusedSimpArgs false
namespace Go.Proofs.YtagbehhggpepfaaGreatDoor.Chars
open Go.RowKit Go.Proofs.YtagbehhggpepfaaGreatDoor.Sm

def highs : List Int := [8364, 129, 8218, 402, 8222, 8230, 8224, 8225, 710, 8240, 352, 8249, 338, 141, 381, 143, 144, 8216, 8217, 8220, 8221, 8226, 8211, 8212, 732, 8482, 353, 8250, 339, 157, 382, 376]
theorem highs_range : ∀ i < 32, 0 ≤ highs.getD i 0 ∧ highs.getD i 0 ≤ 8482 := by decide
/-- The number of a byte's sign. -/
def num (c : UInt8) : Int := if 128 ≤ c.toNat ∧ c.toNat ≤ 159 then highs.getD (c.toNat - 128) 0 else c.toNat
def latin (l : Bs) : Bs := l.flatMap fun c => Lib.encodeRune (num c)

/-- The table of windows-1252 as its initialiser lays it. -/
def HighAt (w : World) : Prop := ∀ i, i < 32 → w.cell? ⟨2, i, none⟩ = some (.int .i32 (highs.getD i 0))
theorem HighAt.below {w W : World} (h : HighAt w) (hb : Below w.heap.size w W) : HighAt W := fun i hi => (hb.cell (p := ⟨2, i, none⟩) (World.block_lt_of_cell? w _ (h i hi))).trans (h i hi)

theorem latin_step (l : Bs) (k : Nat) (hk : k < l.length) : latin (l.take (k + 1)) = latin (l.take k) ++ Lib.encodeRune (num l[k]) := by
  unfold latin
  rw [List.take_succ_eq_append_getElem hk, List.flatMap_append]
  simp
theorem encodeRune_length (r : Int) : (Lib.encodeRune r).length ≤ 4 := by
  unfold Lib.encodeRune
  rw [List.length_map]
  exact (Lib.encodeRuneZ_length r).2
theorem latin_length (l : Bs) : (latin l).length ≤ 4 * l.length := by
  induction l with
  | nil => simp [latin]
  | cons c l ih =>
    have := encodeRune_length (num c)
    have e : latin (c :: l) = Lib.encodeRune (num c) ++ latin l := by simp [latin]
    rw [e, List.length_append, List.length_cons]
    omega

set_option maxHeartbeats 2000000 in
theorem singles (s : ByteArray) (w : World) (hs : s.size ≤ 1000000) (hH : HighAt w) :
    Calls Tryz.prog 68 #[.string s] w fun e w' => e = .returned (.string ⟨(latin s.data.toList).toArray⟩) ∧ Below w.heap.size w w' := by
  have HS := Lib.hid (show s.data.toList.length = s.size from Array.length_toList)
  have hfresh := Lib.fresh_isBuilder 31 5 w
  have hG : 2 < w.heap.size := World.block_lt_of_cell? w _ (hH 0 (by decide))
  go_enter Tryz.func68, Tryz.ntmps68
  go_wp2_with fail
  go_loopw [9] (fun i wr => ∃ k : Nat, k ≤ s.size ∧ i = .int .i64 k ∧ Hid (Bld.Has w.heap.size w.heap.size (Lib.byteCells (latin (s.data.toList.take k))) wr) ∧ Below w.heap.size w wr) (fun i _ => s.size - (intOf i).toNat)
  case atStart => exact ⟨0, Nat.zero_le _, rfl, Lib.hid (Lib.IsBuilderF.of hfresh), (Below.refl _ w).alloc (Nat.le_refl _) _⟩
  case round =>
    obtain ⟨k, hk, rfl, hb, hB⟩ := hrel
    clear hfresh
    by_cases hlt : k < s.size
    · have hkl : k < s.data.toList.length := by rw [HS.out]; exact hlt
      obtain ⟨c, hc⟩ : ∃ c, s[k]'hlt = c := ⟨_, rfl⟩
      have hcl : s.data.toList[k] = c := hc
      have hstep := latin_step s.data.toList k hkl
      rw [hcl] at hstep
      have hlen := latin_length (s.data.toList.take k)
      have hlen2 : (s.data.toList.take k).length ≤ k := List.length_take_le _ _
      have HST := Lib.hid hstep
      have hc256 := c.toNat_lt
      have hBs := hB.size
      have hcells : (Lib.byteCells (latin (s.data.toList.take k))).length ≤ 4000000 := by rw [show (Lib.byteCells (latin (s.data.toList.take k))).length = (latin (s.data.toList.take k)).length by simp [Lib.byteCells]]; omega
      clear hstep hcl hlen hlen2
      have fin : ∀ (r : Int) (w1 : World), r = num c → Bld.At w.heap.size w.heap.size (.pointer (some ⟨w.heap.size, 0, none⟩)) (Lib.byteCells (latin (s.data.toList.take k)) ++ Lib.runeCells r) w1 → Hid (Bld.Has w.heap.size w.heap.size (Lib.byteCells (latin (s.data.toList.take (k + 1)))) w1) := by
        rintro r w1 rfl h
        rw [HST.out]
        refine Lib.hid (Or.inr ?_)
        rw [show Lib.byteCells (latin (s.data.toList.take k) ++ Lib.encodeRune (num c)) = Lib.byteCells (latin (s.data.toList.take k)) ++ Lib.runeCells (num c) by rw [← Lib.byteCells_encodeRune]; simp [Lib.byteCells]]
        exact h
      have FIN := Lib.hid fin
      clear fin
      by_cases h1 : 128 ≤ c.toNat
      · by_cases h2 : c.toNat ≤ 159
        · have hcell : wr.cell? ⟨2, c.toNat - 128, none⟩ = some (.int .i32 (highs.getD (c.toNat - 128) 0)) := (hB.cell (p := ⟨2, c.toNat - 128, none⟩) hG).trans (hH _ (by omega))
          have hrg := highs_range (c.toNat - 128) (by omega)
          have hn : highs.getD (c.toNat - 128) 0 = num c := by simp [num, h1, h2]
          generalize highs.getD (c.toNat - 128) 0 = r at hcell hrg hn
          obtain ⟨hr0, hr1⟩ := hrg
          have HN := Lib.hid hn
          clear hn
          have e0 : ((c.toNat : Int) - 128).toNat = c.toNat - 128 := by omega
          go_wp2_with (go_at_call 93; refine (Bld.WriteRune w.heap.size w.heap.size _ r (by omega) (by omega) _ hb.out (by omega) hBs).mono ?_; rintro e w1 ⟨rfl, hA, hb1, hk1⟩)
          go_roundw
          case rel => exact ⟨k + 1, by omega, by go_num, FIN.out r _ HN.out hA, hB.trans hb1⟩
          case measure => simp [intOf]; omega
        · go_wp2_with (go_at_call 93; refine (Bld.WriteRune w.heap.size w.heap.size _ c.toNat (by omega) (by omega) _ hb.out (by omega) hBs).mono ?_; rintro e w1 ⟨rfl, hA, hb1, hk1⟩)
          go_roundw
          case rel => exact ⟨k + 1, by omega, by go_num, FIN.out c.toNat _ (by simp [num, h2]) hA, hB.trans hb1⟩
          case measure => simp [intOf]; omega
      · go_wp2_with (go_at_call 93; refine (Bld.WriteRune w.heap.size w.heap.size _ c.toNat (by omega) (by omega) _ hb.out (by omega) hBs).mono ?_; rintro e w1 ⟨rfl, hA, hb1, hk1⟩)
        go_roundw
        case rel => exact ⟨k + 1, by omega, by go_num, FIN.out c.toNat _ (by simp [num, h1]) hA, hB.trans hb1⟩
        case measure => simp [intOf]; omega
    · obtain rfl : k = s.size := by omega
      have hall : s.data.toList.take s.size = s.data.toList := by rw [← HS.out]; exact List.take_length
      have hb' := hb.out
      rw [hall] at hb'
      clear hb hall
      have HB' := Lib.hid hb'
      clear hb'
      have hBs := hB.size
      go_wp2_with (go_at_call 21; refine (Tryz.Builder_String_any_k w.heap.size w.heap.size _ _ HB'.out hBs).mono ?_; rintro e w1 ⟨rfl, hA, hb1, hk1⟩)
      go_ret
      exact ⟨rfl, hB.trans hb1⟩
end Go.Proofs.YtagbehhggpepfaaGreatDoor.Chars
