/- muslinref12.One at any text: the sign of the reference that it begins with, and its length; or nothing. The contracts of the functions that the print does not take, under what is known of the package-level variables (GG). -/
import Derived.Test.YtagbehhggpepfaaGreatDoorOne
import Derived.Test.YtagbehhggpepfaaGreatDoorDec
import Derived.Test.YtagbehhggpepfaaGreatDoorText
import Derived.Test.YtagbehhggpepfaaGreatDoorProg
import Derived.Test.YtagbehhggpepfaaGreatDoorWrite
import Derived.WalkKit
set_option linter.unusedVariables false
set_option linter.unusedSimpArgs false
namespace Go.Proofs.YtagbehhggpepfaaGreatDoor.OneE
open Go.RowKit Go.Proofs.YtagbehhggpepfaaGreatDoor.Ent Go.Proofs.YtagbehhggpepfaaGreatDoor.Ref Go.Proofs.YtagbehhggpepfaaGreatDoor.Chars

/-- What One hands back. -/
def oneF (l : Bs) : Bs × Int :=
  match l with
  | 38 :: r => match oneR r with
    | some (t, after) => (t, (l.length : Int) - (after.length : Int))
    | none => ([], 0)
  | _ => ([], 0)

theorem oneF_amp (r : Bs) : oneF (38 :: r) = match oneR r with | some (t, after) => (t, ((38 :: r).length : Int) - (after.length : Int)) | none => ([], 0) := rfl
theorem oneF_other {c : UInt8} (r : Bs) (h : c ≠ 38) : oneF (c :: r) = ([], 0) := by
  unfold oneF
  split
  · rename_i heq
    injection heq with h1 _
    exact absurd h1 h
  · rfl

set_option maxHeartbeats 4000000 in
set_option maxRecDepth 100000 in
theorem one_empty (w : World) : Calls Tryz.prog 18 #[.string ⟨#[]⟩] w fun e w' => e = .returned (.tuple #[.string ⟨#[]⟩, .int .i64 0]) ∧ w' = w := by
  have hemp : (⟨#[]⟩ : ByteArray).toList.isEmpty = true := by rw [Go.Lib.toList_data]; rfl
  go_enter Tryz.func18, Tryz.ntmps18
  go_wp2_with fail
  go_ret2
  exact ⟨rfl, rfl⟩

set_option maxHeartbeats 4000000 in
set_option maxRecDepth 100000 in
theorem one_other (s : ByteArray) (c : UInt8) (r : Bs) (h : lst s = c :: r) (hc : c ≠ 38) (w : World) : Calls Tryz.prog 18 #[.string s] w fun e w' => e = .returned (.tuple #[.string ⟨#[]⟩, .int .i64 0]) ∧ w' = w := by
  obtain ⟨h0, hc0⟩ := Repw.head_of h
  have hne : s.toList.isEmpty = false := Look.nonempty_of_size h0
  have hcn : ((c.toNat : Int) != 38) = true := by
    have : c.toNat ≠ 38 := fun e => hc (by rw [← UInt8.ofNat_toNat (x := c), e]; rfl)
    simp; omega
  have h1 : (1 : Int) ≤ s.size := by omega
  clear h hc
  go_enter Tryz.func18, Tryz.ntmps18
  go_wp2_with fail
  go_ret2
  exact ⟨rfl, rfl⟩

theorem One (s : ByteArray) (hs : s.size ≤ 1000000) (w : World) (hH : HighAt w) :
    Calls Tryz.prog 18 #[.string s] w fun e w' => e = .returned (.tuple #[.string (str (oneF (lst s)).1), .int .i64 (oneF (lst s)).2]) ∧ Below w.heap.size w w' := by
  cases hl : lst s with
  | nil =>
    obtain rfl : s = ⟨#[]⟩ := by rw [← str_lst s, hl]; rfl
    refine (one_empty w).mono ?_
    rintro e w' ⟨rfl, rfl⟩
    exact ⟨rfl, Below.refl _ _⟩
  | cons c r =>
    by_cases hc : c = 38
    · subst hc
      refine (One.OneX s r hl hs w hH).mono ?_
      rintro e w' ⟨rfl, hb⟩
      refine ⟨?_, hb⟩
      have hsz : s.size = (38 :: r : Bs).length := by rw [← lst_length, hl]
      rw [oneF_amp]
      cases oneR r with
      | none => rfl
      | some p => obtain ⟨t, after⟩ := p; rw [hsz]
    · refine (one_other s c r hl hc w).mono ?_
      rintro e w' ⟨rfl, rfl⟩
      rw [oneF_other r hc]
      exact ⟨rfl, Below.refl _ _⟩
end Go.Proofs.YtagbehhggpepfaaGreatDoor.OneE
namespace Go.Proofs.YtagbehhggpepfaaGreatDoor.Given
open Go.RowKit Go.Proofs.YtagbehhggpepfaaGreatDoor.Ent

structure GG (w : World) : Prop where
  max : Cut1.MaxAt w
  high : Chars.HighAt w
  err : Dig.ErrAt w
  names : Sig.NamesAt w

theorem GG.step {w W : World} (h : GG w) (hb : Below w.heap.size w W) : GG W := ⟨h.max.below hb, h.high.below hb, h.err.below hb, h.names.below hb⟩

def ent_Decode.f (s : ByteArray) : Option ByteArray := if s.size ≤ 1000000 then some (Ref.str (dec (Ref.lst s))) else none
def ent_Text.f (s : ByteArray) : Option ByteArray := if s.size ≤ 1000000 then some (Ref.str (wr false (Ref.lst s))) else none
def ent_Value.f (s : ByteArray) : Option ByteArray := if s.size ≤ 1000000 then some (Ref.str (wr true (Ref.lst s))) else none
def muslinref12_One.f (s : ByteArray) : Option (ByteArray × Int) := if s.size ≤ 1000000 then some (Ref.str (OneE.oneF (Ref.lst s)).1, (OneE.oneF (Ref.lst s)).2) else none

def muslinref12_write.f (s : ByteArray) (q : Bool) : Option ByteArray := if s.size ≤ 1000000 then some (Ref.str (wr q (Ref.lst s))) else none

theorem muslinref12_write.calls (a0 : ByteArray) (a1 : Bool) (r : ByteArray) (w : World) (hGG : GG w) (h : muslinref12_write.f a0 a1 = some r) :
    Calls Tryz.prog 26 #[.string a0, .bool a1] w fun e w' => e = .returned (.string r) ∧ Below w.heap.size w w' := by
  have _g := hGG
  unfold muslinref12_write.f at h
  split at h
  · rename_i hs; cases h; exact Wri.write a0 hs a1 w
  · cases h
theorem ent_Decode.calls (a0 r : ByteArray) (w : World) (hGG : GG w) (h : ent_Decode.f a0 = some r) :
    Calls Tryz.prog 12 #[.string a0] w fun e w' => e = .returned (.string r) ∧ Below w.heap.size w w' := by
  unfold ent_Decode.f at h
  split at h
  · rename_i hs; cases h; exact Dec.Decode a0 hs w hGG.max hGG.high hGG.err hGG.names
  · cases h
theorem ent_Text.calls (a0 r : ByteArray) (w : World) (hGG : GG w) (h : ent_Text.f a0 = some r) :
    Calls Tryz.prog 14 #[.string a0] w fun e w' => e = .returned (.string r) ∧ Below w.heap.size w w' := by
  have _g := hGG
  unfold ent_Text.f at h
  split at h
  · rename_i hs; cases h; exact Txt.Text a0 hs w
  · cases h
theorem ent_Value.calls (a0 r : ByteArray) (w : World) (hGG : GG w) (h : ent_Value.f a0 = some r) :
    Calls Tryz.prog 16 #[.string a0] w fun e w' => e = .returned (.string r) ∧ Below w.heap.size w w' := by
  unfold ent_Value.f at h
  split at h
  · rename_i hs; cases h; exact Txt.Value a0 hs w hGG.max
  · cases h
theorem muslinref12_One.calls (a0 : ByteArray) (r1 : ByteArray) (r2 : Int) (w : World) (hGG : GG w) (h : muslinref12_One.f a0 = some (r1, r2)) :
    Calls Tryz.prog 18 #[.string a0] w fun e w' => e = .returned (.tuple #[.string r1, .int .i64 r2]) ∧ Below w.heap.size w w' := by
  unfold muslinref12_One.f at h
  split at h
  · rename_i hs; cases h; exact OneE.One a0 hs w hGG.high
  · cases h
end Go.Proofs.YtagbehhggpepfaaGreatDoor.Given
