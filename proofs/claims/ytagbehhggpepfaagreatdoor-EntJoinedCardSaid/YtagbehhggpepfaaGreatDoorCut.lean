/- strings.Cut at a sign of one byte: what is ahead of the first one, what is behind it, and whether there is one. -/
import Derived.Test.YtagbehhggpepfaaGreatDoorShelf
import Derived.WalkKit
import Derived.Lib.Hide
set_option linter.unusedVariables false
set_option linter.unusedSimpArgs false
namespace Go.Proofs.YtagbehhggpepfaaGreatDoor.Cut1
open Go.RowKit

theorem index_one (c : UInt8) : ∀ l : List UInt8, Lib.index l [c] = if l.dropWhile (· != c) = [] then -1 else ((l.takeWhile (· != c)).length : Int)
  | [] => by simp [Lib.index]
  | b :: l => by
    have ih := index_one c l
    unfold Lib.index
    by_cases h : b = c
    · subst h
      simp [List.isPrefixOf]
    · have hb : (c == b) = false := beq_eq_false_iff_ne.2 (Ne.symm h)
      have hn : (b != c) = true := bne_iff_ne.2 h
      have hp : List.isPrefixOf [c] (b :: l) = false := by
        show (c == b && true) = false
        rw [hb]; rfl
      rw [hp, ih, List.dropWhile_cons, List.takeWhile_cons, hn]
      simp only [if_true, Bool.false_eq_true, if_false]
      split
      · rfl
      · have : ¬ ((((l.takeWhile (· != c)).length : Int)) == -1) = true := by first | (simp; done) | (simp; omega)
        rw [if_neg this]
        simp

theorem cut_aux (c : UInt8) (u : List UInt8) (x : UInt8) (r l : List UInt8) (e : u ++ x :: r = l) :
    l.take u.length = u ∧ l.drop (u.length + [c].length) = r := by
  subst e
  constructor
  · simp
  · simp

theorem cut_one (c : UInt8) (l : List UInt8) : Lib.cut l [c] = match l.dropWhile (· != c) with | [] => (l, [], false) | _ :: r => (l.takeWhile (· != c), r, true) := by
  unfold Lib.cut
  rw [index_one]
  cases h : l.dropWhile (· != c) with
  | nil => rfl
  | cons x r =>
    have e : l.takeWhile (· != c) ++ l.dropWhile (· != c) = l := List.takeWhile_append_dropWhile
    rw [h] at e
    simp only [reduceCtorEq, if_false]
    rw [if_pos (by omega), Int.toNat_natCast]
    obtain ⟨e1, e2⟩ := cut_aux c _ x r l e
    rw [e1, e2]

/-- The library's variable MaxLen holds a number. -/
def MaxAt (w : World) : Prop := ∃ m, w.cell? ⟨1, 0, none⟩ = some (.int .i64 m)
theorem MaxAt.below {w W : World} (h : MaxAt w) (hb : Below w.heap.size w W) : MaxAt W := by
  obtain ⟨m, h1⟩ := h
  exact ⟨m, (hb.cell (p := ⟨1, 0, none⟩) (World.block_lt_of_cell? w _ h1)).trans h1⟩

def str (l : List UInt8) : ByteArray := ⟨l.toArray⟩

theorem Cut (s : ByteArray) (c : UInt8) (w : World) (hs : s.size ≤ 1000000000) (hM : MaxAt w) :
    Calls Tryz.prog 19 #[.string s, .string ⟨#[c]⟩] w fun e w' =>
      e = .returned (match s.data.toList.dropWhile (· != c) with
        | [] => .tuple #[.string s, .string (str []), .bool false]
        | _ :: r => .tuple #[.string (str (s.data.toList.takeWhile (· != c))), .string (str r), .bool true]) ∧ ∃ n, w' = w.drewN n := by
  obtain ⟨m, hm⟩ := hM
  refine (Tryz.strings_Cut s ⟨#[c]⟩ m w (by omega) hm).mono ?_
  rintro e w' ⟨rfl, hw⟩
  refine ⟨?_, hw⟩
  rw [show ((⟨#[c]⟩ : ByteArray).data.toList) = [c] from rfl, cut_one]
  split <;> rfl
end Go.Proofs.YtagbehhggpepfaaGreatDoor.Cut1
