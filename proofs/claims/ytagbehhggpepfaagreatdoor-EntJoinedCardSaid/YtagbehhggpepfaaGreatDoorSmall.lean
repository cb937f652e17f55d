/- The document's 'small letters': a text's letters A to Z made small, the others as they are; of at most a million bytes. -/
import Derived.Test.YtagbehhggpepfaaGreatDoorProg
import Derived.WalkKit
import Derived.Lib.Hide
import Derived.Laws.IdiomStrings
set_option linter.unusedVariables false
set_option linter.unusedSimpArgs false
namespace Go.Proofs.YtagbehhggpepfaaGreatDoor.Sm
open Go.RowKit

abbrev Bs := List UInt8
def small (c : UInt8) : UInt8 := if 65 ≤ c.toNat ∧ c.toNat ≤ 90 then c + 32 else c

/-- The cells of block b are these bytes, and may be written. -/
def BytesAt (w : World) (b : Nat) (l : Bs) : Prop :=
  ∀ j, j < l.length → w.cell? ⟨b, j, none⟩ = some (.int .u8 ((l.getD j 0).toNat : Int)) ∧ w.frozen? ⟨b, j, none⟩ = false

theorem BytesAt.set {w : World} {b : Nat} {l : Bs} (h : BytesAt w b l) (k : Nat) (hk : k < l.length) (c : UInt8) :
    BytesAt (w.setCell ⟨b, k, none⟩ (.int .u8 (c.toNat : Int))) b (l.set k c) := by
  intro j hj
  rw [List.length_set] at hj
  obtain ⟨h1, h2⟩ := h j hj
  refine ⟨?_, by rw [World.frozen?_setCell]; exact h2⟩
  by_cases e : k = j
  · subst e
    rw [World.cell?_setCell_same _ _ _ h1]
    simp [hj]
  · rw [World.cell?_setCell_other _ _ _ _ (by simp [e])]
    rw [h1]
    simp [List.getD_eq_getElem?_getD, List.getElem?_set_ne e]

theorem bytesAt_new (w : World) (s : ByteArray) (cap : Nat) (e : TypeId) (fr : Nat) (hfr : s.size ≤ fr) :
    BytesAt (w.alloc (.cells (bytesRow s cap) e (fr, fr + 1))) w.heap.size s.data.toList := by
  intro j hj
  have hj' : j < s.data.size := by simpa using hj
  constructor
  · rw [World.cell?_alloc_mark, bytesRow_at s cap j hj']
    rw [List.getD_eq_getElem?_getD, Array.getElem?_toList, Array.getElem?_eq_getElem hj']
    rfl
  · rw [World.frozen?_alloc_mark]
    have : s.data.size = s.size := rfl
    simp
    omega

/-- The text so far. -/
def part (l : Bs) (k : Nat) : Bs := (l.take k).map small ++ l.drop k
theorem part_length (l : Bs) (k : Nat) : (part l k).length = l.length := by simp [part]; omega
theorem part_zero (l : Bs) : part l 0 = l := by simp [part]
theorem part_all (l : Bs) : part l l.length = l.map small := by simp [part]
theorem row_size (s : ByteArray) (cap : Nat) : s.size ≤ (bytesRow s cap).size := by
  unfold bytesRow
  rw [Array.size_append, Array.size_map]
  exact Nat.le_add_right _ _
theorem part_at (l : Bs) (k : Nat) (hk : k < l.length) : (part l k).getD k 0 = l[k] := by
  simp [part, List.getD_eq_getElem?_getD, List.getElem?_append, hk]
  rw [Nat.min_eq_left (by omega)]
  simp [hk]
theorem part_step (l : Bs) (k : Nat) (hk : k < l.length) : (part l k).set k (small l[k]) = part l (k + 1) := by
  unfold part
  rw [List.take_add_one, List.map_append, List.getElem?_eq_getElem hk]
  simp only [Option.toList, List.map_cons, List.map_nil, List.append_assoc, List.cons_append, List.nil_append]
  rw [List.set_append_right _ _ (by rw [List.length_map, List.length_take]; exact Nat.min_le_left _ _), List.length_map, List.length_take, Nat.min_eq_left (by omega), Nat.sub_self]
  rw [List.drop_eq_getElem_cons hk, List.set_cons_zero]
theorem part_same (l : Bs) (k : Nat) (hk : k < l.length) (h : small l[k] = l[k]) : part l k = part l (k + 1) := by
  have hk' : k < (part l k).length := by rw [part_length]; exact hk
  have := part_at l k hk
  rw [List.getD_eq_getElem?_getD, List.getElem?_eq_getElem hk'] at this
  rw [← part_step l k hk, h, ← (show (part l k)[k] = l[k] from this)]
  exact (List.set_getElem_self hk').symm

set_option maxHeartbeats 1000000 in
theorem small_calls (s : ByteArray) (w : World) (hs : s.size ≤ 1000000) :
    Calls Tryz.prog 102 #[.string s] w fun e w' => e = .returned (.string ⟨(s.data.toList.map small).toArray⟩) ∧ Below w.heap.size w w' := by
  have hsz : s.data.toList.length = s.size := Array.length_toList
  have hconv := run_bytes_of_string (P := Tryz.prog) w 9 29 5 s Tryz.underlying9 Tryz.underlying29 Tryz.underlying5
  generalize hcap : grownCap w s.size 0 5 = cap at hconv
  have hb0 : BytesAt (w.drew.alloc (.cells (bytesRow s cap) 5 ((bytesRow s cap).size, (bytesRow s cap).size + 1))) w.heap.size s.data.toList :=
    bytesAt_new w.drew s cap 5 _ (row_size s cap)
  have hbel : Below w.heap.size w (w.drew.alloc (.cells (bytesRow s cap) 5 ((bytesRow s cap).size, (bytesRow s cap).size + 1))) := ((Below.refl _ w).drew).alloc (Nat.le_refl _) _
  have hsize : (w.drew.alloc (.cells (bytesRow s cap) 5 ((bytesRow s cap).size, (bytesRow s cap).size + 1))).heap.size = w.heap.size + 1 := by rw [World.size_alloc, World.size_drew]
  generalize (w.drew.alloc (.cells (bytesRow s cap) 5 ((bytesRow s cap).size, (bytesRow s cap).size + 1))) = w1 at hconv hb0 hbel hsize
  clear hcap
  have HS := Lib.hid hsz
  clear hsz
  have HZ := Lib.hid hsize
  clear hsize
  go_enter Tryz.func102, Tryz.ntmps102
  go_wp2
  go_loopw [4] (fun i wr => ∃ k : Nat, k ≤ s.size ∧ i = .int .i64 k ∧ BytesAt wr w.heap.size (part s.data.toList k) ∧ Below w.heap.size w wr) (fun i _ => s.size - (intOf i).toNat)
  case atStart => exact ⟨0, Nat.zero_le _, rfl, by rw [part_zero]; exact hb0, hbel⟩
  case round =>
    obtain ⟨k, hk, rfl, hb, hB⟩ := hrel
    clear hb0 hbel hconv
    by_cases hlt : k < s.size
    · have hkl : k < s.data.toList.length := by rw [HS.out]; exact hlt
      have hc := (hb k (by rw [part_length]; exact hkl)).1
      have hf := (hb k (by rw [part_length]; exact hkl)).2
      rw [part_at _ _ hkl] at hc
      have hset : ∀ x : UInt8, x = small s.data.toList[k] → BytesAt (wr.setCell ⟨w.heap.size, k, none⟩ (.int .u8 (x.toNat : Int))) w.heap.size (part s.data.toList (k + 1)) := by
        rintro x rfl
        rw [← part_step _ _ hkl]
        exact hb.set k (by rw [part_length]; exact hkl) _
      have hsame : small s.data.toList[k] = s.data.toList[k] → BytesAt wr w.heap.size (part s.data.toList (k + 1)) := fun h => by
        rw [← part_same _ _ hkl h]; exact hb
      clear hb
      generalize s.data.toList[k] = c at hc hset hsame
      have hc1 := c.toNat_lt
      have HSET := Lib.hid hset
      have HSAME := Lib.hid hsame
      clear hset hsame
      by_cases h1 : 65 ≤ c.toNat
      · by_cases h2 : c.toNat ≤ 90
        · have z : (c.toNat : Int) + 32 = ((c + 32).toNat : Int) := by
            rw [UInt8.toNat_add]
            show (c.toNat : Int) + 32 = ((c.toNat + 32) % 256 : Nat)
            omega
          have Z := Lib.hid z
          clear z
          go_wp2
          go_roundw
          case rel => exact ⟨k + 1, by omega, by go_num, by have := HSET.out (c + 32) (by simp [small, h1, h2]); rw [← Z.out] at this; exact this, hB.setCell (Nat.le_refl _) _⟩
          case measure => simp [intOf]; omega
        · go_wp2
          go_roundw
          case rel => exact ⟨k + 1, by omega, by go_num, HSAME.out (by simp [small, h2]), hB⟩
          case measure => simp [intOf]; omega
      · go_wp2
        go_roundw
        case rel => exact ⟨k + 1, by omega, by go_num, HSAME.out (by simp [small, h1]), hB⟩
        case measure => simp [intOf]; omega
    · obtain rfl : k = s.size := by omega
      have hp : part s.data.toList s.size = s.data.toList.map small := by rw [← HS.out, part_all]
      rw [hp] at hb
      clear hp
      have hback := run_convert_bytes_back (P := Tryz.prog) wr 29 9 5 ⟨w.heap.size, 0, none⟩ cap (s.data.toList.map small) Tryz.underlying29 Tryz.underlying5 Tryz.underlying9 (fun j hj => by
        have := (hb j hj).1
        rw [List.getD_eq_getElem?_getD, List.getElem?_eq_getElem hj] at this
        have ha : (⟨w.heap.size, 0, none⟩ : Addr).add j = ⟨w.heap.size, j, none⟩ := by unfold Addr.add; split <;> simp_all
        rw [ha]
        exact this)
      rw [List.length_map, HS.out] at hback
      clear hb
      go_wp2
      go_ret
      exact ⟨rfl, hB⟩
set_option maxHeartbeats 1000000 in
theorem chars_small (s : ByteArray) (w : World) (hs : s.size ≤ 1000000) :
    Calls Tryz.prog 91 #[.string s] w fun e w' => e = .returned (.string ⟨(s.data.toList.map small).toArray⟩) ∧ Below w.heap.size w w' := by
  have hsz : s.data.toList.length = s.size := Array.length_toList
  have hconv := run_bytes_of_string (P := Tryz.prog) w 9 29 5 s Tryz.underlying9 Tryz.underlying29 Tryz.underlying5
  generalize hcap : grownCap w s.size 0 5 = cap at hconv
  have hb0 : BytesAt (w.drew.alloc (.cells (bytesRow s cap) 5 ((bytesRow s cap).size, (bytesRow s cap).size + 1))) w.heap.size s.data.toList :=
    bytesAt_new w.drew s cap 5 _ (row_size s cap)
  have hbel : Below w.heap.size w (w.drew.alloc (.cells (bytesRow s cap) 5 ((bytesRow s cap).size, (bytesRow s cap).size + 1))) := ((Below.refl _ w).drew).alloc (Nat.le_refl _) _
  have hsize : (w.drew.alloc (.cells (bytesRow s cap) 5 ((bytesRow s cap).size, (bytesRow s cap).size + 1))).heap.size = w.heap.size + 1 := by rw [World.size_alloc, World.size_drew]
  generalize (w.drew.alloc (.cells (bytesRow s cap) 5 ((bytesRow s cap).size, (bytesRow s cap).size + 1))) = w1 at hconv hb0 hbel hsize
  clear hcap
  have HS := Lib.hid hsz
  clear hsz
  have HZ := Lib.hid hsize
  clear hsize
  go_enter Tryz.func91, Tryz.ntmps91
  go_wp2
  go_loopw [10] (fun i wr => ∃ k : Nat, k ≤ s.size ∧ i = .int .i64 k ∧ BytesAt wr w.heap.size (part s.data.toList k) ∧ Below w.heap.size w wr) (fun i _ => s.size - (intOf i).toNat)
  case atStart => exact ⟨0, Nat.zero_le _, rfl, by rw [part_zero]; exact hb0, hbel⟩
  case round =>
    obtain ⟨k, hk, rfl, hb, hB⟩ := hrel
    clear hb0 hbel hconv
    by_cases hlt : k < s.size
    · have hkl : k < s.data.toList.length := by rw [HS.out]; exact hlt
      have hc := (hb k (by rw [part_length]; exact hkl)).1
      have hf := (hb k (by rw [part_length]; exact hkl)).2
      rw [part_at _ _ hkl] at hc
      have hset : ∀ x : UInt8, x = small s.data.toList[k] → BytesAt (wr.setCell ⟨w.heap.size, k, none⟩ (.int .u8 (x.toNat : Int))) w.heap.size (part s.data.toList (k + 1)) := by
        rintro x rfl
        rw [← part_step _ _ hkl]
        exact hb.set k (by rw [part_length]; exact hkl) _
      have hsame : small s.data.toList[k] = s.data.toList[k] → BytesAt wr w.heap.size (part s.data.toList (k + 1)) := fun h => by
        rw [← part_same _ _ hkl h]; exact hb
      clear hb
      generalize s.data.toList[k] = c at hc hset hsame
      have hc1 := c.toNat_lt
      have HSET := Lib.hid hset
      have HSAME := Lib.hid hsame
      clear hset hsame
      by_cases h1 : 65 ≤ c.toNat
      · by_cases h2 : c.toNat ≤ 90
        · have z : (c.toNat : Int) - 65 + 97 = ((c + 32).toNat : Int) := by
            rw [UInt8.toNat_add]
            show (c.toNat : Int) - 65 + 97 = ((c.toNat + 32) % 256 : Nat)
            omega
          have Z := Lib.hid z
          clear z
          go_wp2
          go_roundw
          case rel => exact ⟨k + 1, by omega, by go_num, by have := HSET.out (c + 32) (by simp [small, h1, h2]); rw [← Z.out] at this; exact this, hB.setCell (Nat.le_refl _) _⟩
          case measure => simp [intOf]; omega
        · go_wp2
          go_roundw
          case rel => exact ⟨k + 1, by omega, by go_num, HSAME.out (by simp [small, h2]), hB⟩
          case measure => simp [intOf]; omega
      · go_wp2
        go_roundw
        case rel => exact ⟨k + 1, by omega, by go_num, HSAME.out (by simp [small, h1]), hB⟩
        case measure => simp [intOf]; omega
    · obtain rfl : k = s.size := by omega
      have hp : part s.data.toList s.size = s.data.toList.map small := by rw [← HS.out, part_all]
      rw [hp] at hb
      clear hp
      have hback := run_convert_bytes_back (P := Tryz.prog) wr 29 9 5 ⟨w.heap.size, 0, none⟩ cap (s.data.toList.map small) Tryz.underlying29 Tryz.underlying5 Tryz.underlying9 (fun j hj => by
        have := (hb j hj).1
        rw [List.getD_eq_getElem?_getD, List.getElem?_eq_getElem hj] at this
        have ha : (⟨w.heap.size, 0, none⟩ : Addr).add j = ⟨w.heap.size, j, none⟩ := by unfold Addr.add; split <;> simp_all
        rw [ha]
        exact this)
      rw [List.length_map, HS.out] at hback
      clear hb
      go_wp2
      go_ret
      exact ⟨rfl, hB⟩
end Go.Proofs.YtagbehhggpepfaaGreatDoor.Sm
