/- The program's Decode: references read. -/
import Derived.Test.YtagbehhggpepfaaGreatDoorSign
import Derived.Test.YtagbehhggpepfaaGreatDoorCut
import Derived.Test.YtagbehhggpepfaaGreatDoorLaw
import Derived.Shelf.Strings.MapGrows
set_option linter.unusedVariables false
set_option linter.unusedSimpArgs false
namespace Go.Proofs.YtagbehhggpepfaaGreatDoor.Dec
open Go.RowKit Go.Proofs.YtagbehhggpepfaaGreatDoor.Ent Go.Proofs.YtagbehhggpepfaaGreatDoor.Ref Go.Proofs.YtagbehhggpepfaaGreatDoor.Dig Go.Proofs.YtagbehhggpepfaaGreatDoor.Numd Go.Proofs.YtagbehhggpepfaaGreatDoor.Chars Go.Proofs.YtagbehhggpepfaaGreatDoor.Sig Go.Proofs.YtagbehhggpepfaaGreatDoor.Cut1

theorem dec_ahead {u : Bs} (r : Bs) (h : ∀ c ∈ u, c ≠ 38) : dec (u ++ r) = u ++ dec r := by
  induction u with
  | nil => rfl
  | cons c u ih => rw [List.cons_append, dec_plain _ (h c List.mem_cons_self), ih (fun d hd => h d (List.mem_cons_of_mem _ hd)), List.cons_append]

theorem take_ne (x : UInt8) : ∀ (l : Bs), ∀ c ∈ l.takeWhile (· != x), c ≠ x
  | [], c, hc => by simp at hc
  | d :: l, c, hc => by
    rw [List.takeWhile_cons] at hc
    cases hd : (d != x) with
    | false => rw [hd] at hc; simp at hc
    | true =>
      rw [hd, if_pos rfl] at hc
      rcases List.mem_cons.1 hc with rfl | hc
      · simpa using hd
      · exact take_ne x l c hc

theorem drop_nil_ne {x : UInt8} : ∀ {l : Bs}, l.dropWhile (· != x) = [] → ∀ c ∈ l, c ≠ x
  | [], _, c, hc => by simp at hc
  | d :: l, h, c, hc => by
    rw [List.dropWhile_cons] at h
    cases hd : (d != x) with
    | false => rw [hd] at h; simp at h
    | true =>
      rw [hd, if_pos rfl] at h
      rcases List.mem_cons.1 hc with rfl | hc
      · simpa using hd
      · exact drop_nil_ne h c hc

theorem drop_head {x y : UInt8} {r : Bs} : ∀ {l : Bs}, l.dropWhile (· != x) = y :: r → y = x
  | [], h => by simp at h
  | d :: l, h => by
    rw [List.dropWhile_cons] at h
    cases hd : (d != x) with
    | false =>
      rw [hd] at h
      simp only [Bool.false_eq_true, if_false, List.cons.injEq] at h
      obtain ⟨rfl, _⟩ := h
      simpa using hd
    | true =>
      rw [hd, if_pos rfl] at h
      exact drop_head h

theorem drop_cons {x y : UInt8} {l r : Bs} (h : l.dropWhile (· != x) = y :: r) : y = x ∧ l = l.takeWhile (· != x) ++ x :: r := by
  have e : l.takeWhile (· != x) ++ l.dropWhile (· != x) = l := List.takeWhile_append_dropWhile
  have hy := drop_head h
  subst hy
  rw [h] at e
  exact ⟨rfl, e.symm⟩

theorem cut_none (l : Bs) (x : UInt8) (h : l.dropWhile (· != x) = []) (w : World) (hs : l.length ≤ 1000000) (hM : MaxAt w) :
    Calls Tryz.prog 19 #[.string (Ref.str l), .string ⟨#[x]⟩] w fun e w' => e = .returned (.tuple #[.string (Ref.str l), .string (Ref.str []), .bool false]) ∧ Below w.heap.size w w' := by
  refine (Cut1.Cut (Ref.str l) x w (by rw [Ref.str_size]; omega) hM).mono ?_
  rintro e w' ⟨rfl, n, rfl⟩
  refine ⟨?_, below_drewN (Below.refl _ _) _⟩
  rw [show (Ref.str l).data.toList = l from lst_str l, h]
  rfl

theorem cut_some (l : Bs) (x y : UInt8) (r u : Bs) (h : l.dropWhile (· != x) = y :: r) (hu : l.takeWhile (· != x) = u) (w : World) (hs : l.length ≤ 1000000) (hM : MaxAt w) :
    Calls Tryz.prog 19 #[.string (Ref.str l), .string ⟨#[x]⟩] w fun e w' => e = .returned (.tuple #[.string (Ref.str u), .string (Ref.str r), .bool true]) ∧ Below w.heap.size w w' := by
  refine (Cut1.Cut (Ref.str l) x w (by rw [Ref.str_size]; omega) hM).mono ?_
  rintro e w' ⟨rfl, n, rfl⟩
  refine ⟨?_, below_drewN (Below.refl _ _) _⟩
  rw [show (Ref.str l).data.toList = l from lst_str l, h]
  subst hu
  rfl

theorem strCells_str (l : Bs) : Lib.strCells (Ref.str l) = Lib.byteCells l := by
  simp [Lib.strCells, Lib.byteCells, Ref.str, Go.Lib.toList_data]

theorem byteCells_append (a b : Bs) : Lib.byteCells (a ++ b) = Lib.byteCells a ++ Lib.byteCells b := by simp [Lib.byteCells]
theorem byteCells_length (a : Bs) : (Lib.byteCells a).length = a.length := by simp [Lib.byteCells]

theorem told_get {s : ByteArray} {e : Ending} (h : Sig.Told s e) : (∃ t, sign (lst s) = some t ∧ e = .returned (.tuple #[.string (Ref.str t), .bool true])) ∨ (sign (lst s) = none ∧ ∃ x, e = .returned (.tuple #[.string x, .bool false])) := by
  have h' : (match sign (lst s) with
    | some t => e = .returned (.tuple #[.string (Ref.str t), .bool true])
    | none => ∃ x, e = .returned (.tuple #[.string x, .bool false])) := h
  cases hs : sign (lst s) with
  | some t => rw [hs] at h'; exact .inl ⟨t, rfl, h'⟩
  | none => rw [hs] at h'; exact .inr ⟨rfl, h'⟩

def lenOf (v : Value) : Nat := match v with | .string s => s.size | _ => 0

/-- Bytes more in the builder. -/
theorem wrote (acc t : Bs) (B b : Nat) (w : World) (h : Bld.Has B b (Lib.byteCells acc) w) (ha : acc.length ≤ 1000000) (ht : t.length ≤ 1000000) (hBw : B ≤ w.heap.size) :
    Calls Tryz.prog 20 #[.pointer (some ⟨b, 0, none⟩), .string (Ref.str t)] w fun e w' => (∃ x, e = .returned (.tuple #[x, .nilIface])) ∧ Bld.Has B b (Lib.byteCells (acc ++ t)) w' ∧ Below B w w' := by
  refine (Bld.WriteString B b _ (Ref.str t) w h (by rw [byteCells_length, Ref.str_size]; omega) hBw).mono ?_
  rintro e w' ⟨rfl, hA, hb, _⟩
  refine ⟨⟨_, rfl⟩, ?_, hb⟩
  rw [byteCells_append, ← strCells_str t]
  exact .inr hA

theorem wroteAmp (acc : Bs) (B b : Nat) (w : World) (h : Bld.Has B b (Lib.byteCells acc) w) (ha : acc.length ≤ 1000000) (hBw : B ≤ w.heap.size) :
    Calls Tryz.prog 23 #[.pointer (some ⟨b, 0, none⟩), .int .u8 38] w fun e w' => e = .returned .nilIface ∧ Bld.Has B b (Lib.byteCells (acc ++ [38])) w' ∧ Below B w w' := by
  refine (Bld.WriteByte B b _ 38 w h (by rw [byteCells_length]; omega) hBw).mono ?_
  rintro e w' ⟨rfl, hA, hb, _⟩
  refine ⟨rfl, ?_, hb⟩
  rw [byteCells_append]
  exact .inr hA

set_option maxHeartbeats 4000000 in
theorem Decode (s : ByteArray) (hs : s.size ≤ 1000000) (w : World) (hM : MaxAt w) (hH : HighAt w) (hE : ErrAt w) (hN : NamesAt w) :
    Calls Tryz.prog 12 #[.string s] w fun e w' => e = .returned (.string (Ref.str (dec (lst s)))) ∧ Below w.heap.size w w' := by
  have hfresh := Lib.fresh_isBuilder 31 5 w
  have HM := Lib.hid (fun (W : World) (h : Below w.heap.size w W) => hM.below h)
  have HH := Lib.hid (fun (W : World) (h : Below w.heap.size w W) => hH.below h)
  have HE := Lib.hid (fun (W : World) (h : Below w.heap.size w W) => hE.below h)
  have HN := Lib.hid (fun (W : World) (h : Below w.heap.size w W) => hN.below h)
  clear hM hH hE hN
  have hle := dec_le (lst s)
  have hll := lst_length s
  have hs0 : s = Ref.str (lst s) := (str_lst s).symm
  go_enter Tryz.func12, Tryz.ntmps12
  go_wp2_with fail
  go_loopw [0] (fun v wr => ∃ (r acc : Bs), v = .string (Ref.str r) ∧ r.length ≤ 1000000 ∧ Hid (acc ++ dec r = dec (lst s)) ∧ Hid (Bld.Has w.heap.size w.heap.size (Lib.byteCells acc) wr) ∧ Below w.heap.size w wr) (fun v _ => lenOf v)
  case atStart => exact ⟨lst s, [], by rw [str_lst], by omega, Lib.hid rfl, Lib.hid (Lib.IsBuilderF.of hfresh), (Below.refl _ w).alloc (Nat.le_refl _) _⟩
  case round =>
    obtain ⟨r, acc, rfl, hr, hacc, hb, hB⟩ := hrel
    clear hfresh
    have hBs := hB.size
    have hal : acc.length ≤ 1000000 := by
      have := congrArg List.length hacc.out
      rw [List.length_append] at this
      omega
    cases hd : r.dropWhile (· != 38) with
    | nil =>
      have HC := Lib.hid (fun W hW => cut_none r 38 hd W hr hW)
      have hfin : acc ++ r = dec (lst s) := by rw [← hacc.out, dec_id (drop_nil_ne hd)]
      have HF := Lib.hid hfin
      clear hd hfin
      go_wp2_with fail
      refine (HC.out _ (HM.out _ (by first | exact hB))).mono ?_
      rintro e w1 ⟨rfl, hb1⟩
      have HB1 := Lib.hid (hb.out.below hb1)
      have hB1 := hB.trans (hb1.mono hBs)
      have hBs1 := hB1.size
      go_wp2_with fail
      refine (wrote acc r _ _ _ HB1.out hal hr hBs1).mono ?_
      rintro e w2 ⟨⟨x, rfl⟩, hb2, hB2⟩
      have hB2' := hB1.trans hB2
      have HB2 := Lib.hid hb2
      have hBs2 := hB2'.size
      go_wp2_with fail
      refine (Tryz.Builder_String_any_k w.heap.size w.heap.size _ _ HB2.out hBs2).mono ?_
      rintro e w3 ⟨rfl, hA, hb3, hk3⟩
      go_wp2
      go_ret
      exact ⟨by rw [← HF.out]; rfl, hB2'.trans hb3⟩
    | cons y rest =>
      obtain ⟨rfl, hsplit⟩ := drop_cons hd
      obtain ⟨u, hu⟩ : ∃ u, u = r.takeWhile (· != 38) := ⟨_, rfl⟩
      have HC := Lib.hid (fun W hW => cut_some r 38 38 rest u hd hu.symm W hr hW)
      rw [← hu] at hsplit
      have hlen := congrArg List.length hsplit
      rw [List.length_append, List.length_cons] at hlen
      have hul : u.length ≤ 1000000 := by omega
      have hrl : rest.length ≤ 1000000 := by omega
      have hmeas : rest.length < (Ref.str r).size := by rw [Ref.str_size]; omega
      have hacc2 : (acc ++ u) ++ dec (38 :: rest) = dec (lst s) := by
        rw [← hacc.out, hsplit, dec_ahead _ (by rw [hu]; exact take_ne 38 r), List.append_assoc]
      have hal2 : (acc ++ u).length ≤ 1000000 := by
        have := congrArg List.length hacc2
        rw [List.length_append] at this
        omega
      have HA := Lib.hid hacc2
      clear hd hu hsplit hlen hacc2 hacc
      go_wp2_with fail
      refine (HC.out _ (HM.out _ (by first | exact hB))).mono ?_
      rintro e w1 ⟨rfl, hb1⟩
      have HB1 := Lib.hid (hb.out.below hb1)
      have hB1 := hB.trans (hb1.mono hBs)
      have hBs1 := hB1.size
      clear hb hb1 HC
      go_wp2_with fail
      refine (wrote acc u _ _ _ HB1.out hal hul hBs1).mono ?_
      rintro e w2 ⟨⟨x, rfl⟩, hb2, hB2⟩
      have hB2' := hB1.trans hB2
      have HB2 := Lib.hid hb2
      have hBs2 := hB2'.size
      clear HB1 hb2 hB2 hB1 hBs1
      cases hd2 : rest.dropWhile (· != 59) with
      | nil =>
        have ho : one rest = none := by unfold one; rw [hd2]
        have HC2 := Lib.hid (fun W hW => cut_none rest 59 hd2 W hrl hW)
        have HS := Lib.hid (fun W a b c => sign_any (Ref.str rest) (by rw [Ref.str_size]; exact hrl) W a b c)
        have HA2 := Lib.hid (show (acc ++ u ++ [38]) ++ dec rest = dec (lst s) by rw [← HA.out, dec_none ho, List.append_assoc]; rfl)
        clear hd2 ho HA
        go_wp2_with fail
        refine (HC2.out _ (HM.out _ hB2')).mono ?_
        rintro e w3 ⟨rfl, hb3⟩
        have HB3 := Lib.hid (HB2.out.below hb3)
        have hB3 := hB2'.trans (hb3.mono hBs2)
        have hBs3 := hB3.size
        clear HB2 hb3 HC2
        go_wp2_with fail
        refine (HS.out _ (HH.out _ hB3) (HE.out _ hB3) (HN.out _ hB3)).mono ?_
        rintro e w4 ⟨ht, hb4⟩
        have HB4 := Lib.hid (HB3.out.below hb4)
        have hB4 := hB3.trans (hb4.mono hBs3)
        have hBs4 := hB4.size
        clear HB3 hb4 HS
        obtain ⟨x1, x2, rfl⟩ : ∃ x1 x2, e = .returned (.tuple #[.string x1, .bool x2]) := by
          rcases told_get ht with ⟨t, _, h⟩ | ⟨_, x, h⟩
          · exact ⟨_, _, h⟩
          · exact ⟨_, _, h⟩
        clear ht
        go_wp2_with fail
        refine (wroteAmp (acc ++ u) _ _ _ HB4.out hal2 hBs4).mono ?_
        rintro e w5 ⟨rfl, hb5, hB5⟩
        go_wp2
        go_roundw
        case rel => exact ⟨rest, _, rfl, hrl, HA2, Lib.hid hb5, hB4.trans hB5⟩
        case measure => simp only [lenOf, Ref.str_size] at hmeas ⊢; omega
      | cons z after =>
        obtain ⟨rfl, hsplit⟩ := drop_cons hd2
        obtain ⟨name, hu⟩ : ∃ u, u = rest.takeWhile (· != 59) := ⟨_, rfl⟩
        have HC2 := Lib.hid (fun W hW => cut_some rest 59 59 after name hd2 hu.symm W hrl hW)
        have ho : one rest = (sign name).map fun t => (t, after) := by unfold one; rw [hd2, hu]
        rw [← hu] at hsplit
        have hlen := congrArg List.length hsplit
        rw [List.length_append, List.length_cons] at hlen
        have hnl : name.length ≤ 1000000 := by omega
        have haf : after.length ≤ 1000000 := by omega
        have hmeas2 : after.length < rest.length := by omega
        have HS := Lib.hid (fun W a b c => sign_any (Ref.str name) (by rw [Ref.str_size]; exact hnl) W a b c)
        clear hd2 hu hsplit hlen
        go_wp2_with fail
        refine (HC2.out _ (HM.out _ hB2')).mono ?_
        rintro e w3 ⟨rfl, hb3⟩
        have HB3 := Lib.hid (HB2.out.below hb3)
        have hB3 := hB2'.trans (hb3.mono hBs2)
        have hBs3 := hB3.size
        clear HB2 hb3 HC2
        go_wp2_with fail
        refine (HS.out _ (HH.out _ hB3) (HE.out _ hB3) (HN.out _ hB3)).mono ?_
        rintro e w4 ⟨ht, hb4⟩
        have HB4 := Lib.hid (HB3.out.below hb4)
        have hB4 := hB3.trans (hb4.mono hBs3)
        have hBs4 := hB4.size
        clear HB3 hb4 HS
        rcases told_get ht with ⟨t, hsg, rfl⟩ | ⟨hsg, x1, rfl⟩
        rotate_left
        · rw [lst_str] at hsg
          rw [hsg] at ho
          clear ht
          have HA2 := Lib.hid (show (acc ++ u ++ [38]) ++ dec rest = dec (lst s) by rw [← HA.out, dec_none (by rw [ho]; rfl), List.append_assoc]; rfl)
          clear hsg ho HA
          go_wp2_with fail
          refine (wroteAmp (acc ++ u) _ _ _ HB4.out hal2 hBs4).mono ?_
          rintro e w5 ⟨rfl, hb5, hB5⟩
          go_wp2
          go_roundw
          case rel => exact ⟨rest, _, rfl, hrl, HA2, Lib.hid hb5, hB4.trans hB5⟩
          case measure => simp only [lenOf, Ref.str_size] at hmeas ⊢; omega
        · rw [lst_str] at hsg
          rw [hsg] at ho
          clear ht
          have hA2 : (acc ++ u ++ t) ++ dec after = dec (lst s) := by rw [← HA.out, dec_some (show one rest = some (t, after) by rw [ho]; rfl), List.append_assoc]
          have htl : t.length ≤ 1000000 := by
            have := congrArg List.length hA2
            rw [List.length_append, List.length_append] at this
            omega
          have HA2 := Lib.hid hA2
          clear hsg ho HA hA2
          go_wp2_with fail
          refine (wrote (acc ++ u) t _ _ _ HB4.out hal2 htl hBs4).mono ?_
          rintro e w5 ⟨⟨x5, rfl⟩, hb5, hB5⟩
          go_wp2
          go_roundw
          case rel => exact ⟨after, _, rfl, haf, HA2, Lib.hid hb5, hB4.trans hB5⟩
          case measure => simp only [lenOf, Ref.str_size] at hmeas ⊢; omega
end Go.Proofs.YtagbehhggpepfaaGreatDoor.Dec
