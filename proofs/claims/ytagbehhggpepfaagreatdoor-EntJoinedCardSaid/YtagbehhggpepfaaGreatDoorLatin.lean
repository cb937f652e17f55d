/- The alphabet windows-1252 by its own label: the program's and the document's reading of a text of at most a million bytes. -/
import Derived.Test.YtagbehhggpepfaaGreatDoorChars
import Derived.Lib.AppendStr
set_option linter.unusedVariables false
set_option linter.unusedSimpArgs false
namespace Go.Proofs.YtagbehhggpepfaaGreatDoor.Chars
open Go.RowKit Go.Proofs.YtagbehhggpepfaaGreatDoor.Sm

/-- The label "windows-1252". -/
abbrev lab : ByteArray := ⟨#[119, 105, 110, 100, 111, 119, 115, 45, 49, 50, 53, 50]⟩

theorem Trim (s cutset : ByteArray) (w : World) (hs : s.size ≤ 9223372036854775807) (hcs : cutset.size < 4294967281) (hascii : cutset.data.toList.all (fun b => decide (b.toNat < 128)) = true) :
    Calls Tryz.prog 92 #[.string s, .string cutset] w fun e w' => e = .returned (.string ⟨(Lib.trimS s.data.toList cutset.data.toList).toArray⟩) ∧ Below w.heap.size w w' :=
  Any.strings_Trim_laid Tryz.lays160 (by kernel_rfl) s cutset w hs hcs (ascii_of_all hascii)

theorem trim_lab (w : World) : Calls Tryz.prog 92 #[.string lab, .string ⟨#[32, 9, 10, 12, 13]⟩] w fun e w' => e = .returned (.string lab) ∧ Below w.heap.size w w' := by
  refine (Trim lab ⟨#[32, 9, 10, 12, 13]⟩ w (by decide) (by decide) (by decide)).mono ?_
  rintro e w' ⟨rfl, hb⟩
  exact ⟨rfl, hb⟩

theorem small_lab (w : World) : Calls Tryz.prog 91 #[.string lab] w fun e w' => e = .returned (.string lab) ∧ Below w.heap.size w w' := by
  refine (chars_small lab w (by decide)).mono ?_
  rintro e w' ⟨rfl, hb⟩
  exact ⟨rfl, hb⟩

theorem below_trans {w w1 w2 : World} (h : Below w.heap.size w w1) (k : Below w1.heap.size w1 w2) : Below w.heap.size w w2 := h.trans (k.mono h.size)

set_option maxHeartbeats 1000000 in
theorem known_lab (w : World) : Calls Tryz.prog 67 #[.string lab] w fun e w' => e = .returned (.tuple #[.string lab, .bool true]) ∧ Below w.heap.size w w' := by
  go_enter Tryz.func67, Tryz.ntmps67
  go_wp2_with fail
  refine (trim_lab _).mono ?_
  rintro e w1 ⟨rfl, hb1⟩
  go_wp2_with fail
  refine (small_lab _).mono ?_
  rintro e w2 ⟨rfl, hb2⟩
  go_wp2
  go_ret2
  exact ⟨rfl, below_trans hb1 hb2⟩

set_option maxHeartbeats 1000000 in
theorem decode_lab (s : ByteArray) (w : World) (hs : s.size ≤ 1000000) (hH : HighAt w) :
    Calls Tryz.prog 48 #[.string lab, .string s] w fun e w' => e = .returned (.tuple #[.string ⟨(latin s.data.toList).toArray⟩, .bool true]) ∧ Below w.heap.size w w' := by
  go_enter Tryz.func48, Tryz.ntmps48
  go_wp2_with fail
  refine (known_lab _).mono ?_
  rintro e w1 ⟨rfl, hb1⟩
  go_wp2_with fail
  refine (singles s _ hs (hH.below hb1)).mono ?_
  rintro e w2 ⟨rfl, hb2⟩
  go_wp2
  go_ret2
  exact ⟨rfl, below_trans hb1 hb2⟩

/-! ### the document's -/
theorem rsmall_lab (w : World) : Calls Tryz.prog 102 #[.string lab] w fun e w' => e = .returned (.string lab) ∧ Below w.heap.size w w' := by
  refine (small_calls lab w (by decide)).mono ?_
  rintro e w' ⟨rfl, hb⟩
  exact ⟨rfl, hb⟩

set_option maxHeartbeats 1000000 in
theorem clean_lab (w : World) : Calls Tryz.prog 81 #[.string lab] w fun e w' => e = .returned (.string lab) ∧ Below w.heap.size w w' := by
  go_enter Tryz.func81, Tryz.ntmps81
  go_wp2
  go_loop [0] (fun v => v = .string lab) (fun _ => 0)
  case atStart => rfl
  case round =>
    subst hrel
    go_wp2
    go_loop [0] (fun v => v = .string lab) (fun _ => 0)
    case atStart => rfl
    case round =>
      subst hrel
      go_wp2_with (first | (go_at_call 102; refine (rsmall_lab _).mono ?_; rintro e w' ⟨rfl, hb⟩) | go_in)
      go_ret
      exact ⟨rfl, hb⟩

set_option maxHeartbeats 1000000 in
theorem rknown_lab (w : World) : Calls Tryz.prog 56 #[.string lab] w fun e w' => e = .returned (.tuple #[.string lab, .bool true]) ∧ Below w.heap.size w w' := by
  go_enter Tryz.func56, Tryz.ntmps56
  go_wp2_with fail
  refine (clean_lab _).mono ?_
  rintro e w1 ⟨rfl, hb1⟩
  go_wp2
  go_ret2
  exact ⟨rfl, hb1⟩

theorem own_bytes_string {w : World} {base : Nat} {v : Value} {l : Bs} (h : w.ownsRow base 5 1 v l.length (Lib.byteCells l)) :
    (convert 29 9 v).run Tryz.prog w = .ok (.string ⟨l.toArray⟩) w := by
  rcases h.2 with ⟨rfl, h0⟩ | ⟨g, cap, cur, rfl, _⟩
  · obtain rfl : l = [] := List.eq_nil_of_length_eq_zero h0
    exact run_convert_bytes_nil w 29 5 Tryz.underlying29 Tryz.underlying5 0 0 9 Tryz.underlying9
  · refine run_convert_bytes_back (P := Tryz.prog) w 29 9 5 ⟨g, 0, none⟩ cap l Tryz.underlying29 Tryz.underlying5 Tryz.underlying9 (fun j hj => ?_)
    exact h.cells (g := g) rfl j _ (by simp [Lib.byteCells, List.getElem?_eq_getElem hj])
end Go.Proofs.YtagbehhggpepfaaGreatDoor.Chars
