/- The document's One: the sign of the reference that a text begins with. -/
import Derived.Test.YtagbehhggpepfaaGreatDoorSign
import Derived.Test.YtagbehhggpepfaaGreatDoorDec
import Derived.Test.YtagbehhggpepfaaGreatDoorLaw
set_option linter.unusedVariables false
set_option linter.unusedSimpArgs false
namespace Go.Proofs.YtagbehhggpepfaaGreatDoor.One
open Go.RowKit Go.Proofs.YtagbehhggpepfaaGreatDoor.Ent Go.Proofs.YtagbehhggpepfaaGreatDoor.Ref Go.Proofs.YtagbehhggpepfaaGreatDoor.Dig Go.Proofs.YtagbehhggpepfaaGreatDoor.Numd Go.Proofs.YtagbehhggpepfaaGreatDoor.Chars Go.Proofs.YtagbehhggpepfaaGreatDoor.GR Go.Proofs.YtagbehhggpepfaaGreatDoorW.PrintWords

def letC (c : UInt8) : Bool := (97 ≤ c.toNat && c.toNat ≤ 122) || (65 ≤ c.toNat && c.toNat ≤ 90)
def digC (c : UInt8) : Bool := 48 ≤ c.toNat && c.toNat ≤ 57

theorem refC_of (c : UInt8) : refC c = (letC c || digC c || c == 35) := rfl

theorem letter (c : UInt8) (w : World) : Calls Tryz.prog 28 #[.int .u8 (c.toNat : Int)] w fun e w' => e = .returned (.bool (letC c)) ∧ Below w.heap.size w w' := by
  refine (muslinref03_Letter.calls (c.toNat : Int) (letC c) w ?_).mono ?_
  · unfold muslinref03_Letter.f letC
    by_cases h1 : 97 ≤ c.toNat <;> by_cases h2 : c.toNat ≤ 122 <;> by_cases h3 : 65 ≤ c.toNat <;> by_cases h4 : c.toNat ≤ 90 <;>
      simp [h1, h2, h3, h4, show ((c.toNat : Int) ≥ 97 ↔ 97 ≤ c.toNat) by omega, show ((c.toNat : Int) ≤ 122 ↔ c.toNat ≤ 122) by omega, show ((c.toNat : Int) ≥ 65 ↔ 65 ≤ c.toNat) by omega, show ((c.toNat : Int) ≤ 90 ↔ c.toNat ≤ 90) by omega] <;> first | done | omega
  · rintro e w' ⟨rfl, n, rfl⟩
    exact ⟨rfl, below_drewN (Below.refl _ _) _⟩

theorem digit (c : UInt8) (w : World) : Calls Tryz.prog 29 #[.int .u8 (c.toNat : Int)] w fun e w' => e = .returned (.bool (digC c)) ∧ Below w.heap.size w w' := by
  refine (muslinref03_Digit.calls (c.toNat : Int) (digC c) w ?_).mono ?_
  · unfold muslinref03_Digit.f digC
    by_cases h1 : 48 ≤ c.toNat <;> by_cases h2 : c.toNat ≤ 57 <;>
      simp [h1, h2, show ((c.toNat : Int) ≥ 48 ↔ 48 ≤ c.toNat) by omega, show ((c.toNat : Int) ≤ 57 ↔ c.toNat ≤ 57) by omega] <;> first | done | omega
  · rintro e w' ⟨rfl, n, rfl⟩
    exact ⟨rfl, below_drewN (Below.refl _ _) _⟩

theorem digits_w (B M : Nat) (hB : B ≤ 16) (hM : M ≤ 7) (s : ByteArray) (l : Bs) (hl : lst s = l) (w : World) : Calls Tryz.prog 30 #[.string s, .int .i64 (B : Int), .int .i64 (M : Int)] w fun e w' =>
    e = .returned (.int .i64 (optI (digs B M l))) ∧ Below w.heap.size w w' := by
  subst hl
  obtain ⟨k, hk⟩ := digits_f s B M hB hM
  refine (muslinref12_digits.calls k s B M _ w hk).mono ?_
  rintro e w' ⟨rfl, n, rfl⟩
  exact ⟨rfl, below_drewN (Below.refl _ _) _⟩

def orNone (o : Option Bs) : Bs := o.getD []
theorem named_w (s : ByteArray) (l : Bs) (hl : lst s = l) (w : World) : Calls Tryz.prog 32 #[.string s] w fun e w' =>
    e = .returned (.string (Ref.str (orNone (named l)))) ∧ Below w.heap.size w w' := by
  subst hl
  refine (muslinref12_named.calls 1 s _ w (named_f s)).mono ?_
  rintro e w' ⟨rfl, hb⟩
  refine ⟨?_, hb⟩
  cases named (lst s) <;> rfl


theorem take_drop_ref {u l : Bs} (h : ∀ c ∈ u, refC c = true) : (u ++ l).takeWhile refC = u ++ l.takeWhile refC ∧ (u ++ l).dropWhile refC = l.dropWhile refC := by
  induction u with
  | nil => exact ⟨rfl, rfl⟩
  | cons c u ih =>
    have hc := h c List.mem_cons_self
    obtain ⟨h1, h2⟩ := ih (fun d hd => h d (List.mem_cons_of_mem _ hd))
    rw [List.cons_append, List.takeWhile_cons, List.dropWhile_cons, hc, if_pos rfl, if_pos rfl, h1, h2]
    exact ⟨rfl, rfl⟩

theorem oneR_end {u : Bs} (h : ∀ c ∈ u, refC c = true) : oneR (u ++ []) = none := by
  unfold oneR; rw [(take_drop_ref h).2]; rfl
theorem oneR_other {u l : Bs} {c : UInt8} (h : ∀ c ∈ u, refC c = true) (hr : refC c = false) (hc : c ≠ 59) : oneR (u ++ c :: l) = none := by
  unfold oneR
  rw [(take_drop_ref h).2, List.dropWhile_cons, hr]
  simp [hc]
theorem oneR_semi {u l : Bs} (h : ∀ c ∈ u, refC c = true) : oneR (u ++ 59 :: l) = (signR u).map fun t => (t, l) := by
  have hr : refC 59 = false := by decide
  unfold oneR
  rw [(take_drop_ref h).2, List.dropWhile_cons, hr, (take_drop_ref h).1, List.takeWhile_cons, hr]
  simp

theorem named_hash (l : Bs) : named (35 :: l) = none := by
  have h : names.lookup (35 :: l) = none := by
    simp [names, List.lookup]
  unfold named; rw [h]; rfl

theorem named_ne {l t : Bs} (h : named l = some t) : t ≠ [] := by
  unfold named at h
  obtain ⟨v, hv, rfl⟩ := Option.map_eq_some_iff.1 h
  intro e
  have h1 := congrArg List.length e
  unfold Lib.encodeRune at h1
  rw [List.length_map] at h1
  have h2 := (Lib.encodeRuneZ_length v).1
  have h3 : (Lib.encodeRuneZ v).length = 0 := h1
  omega

theorem str_empty {t : Bs} (h : t ≠ []) : (Ref.str t).toList.isEmpty = false := by
  rw [toList_lst, lst_str]; cases t with
  | nil => exact absurd rfl h
  | cons => rfl


theorem lst_extract (s : ByteArray) (i j : Nat) : lst (s.extract i j) = ((lst s).take j).drop i := by
  simp [lst, ByteArray.data_extract, Array.toList_extract, List.extract_eq_take_drop, List.drop_take]

theorem take_drop_len1 {x c : UInt8} (u l : Bs) {k : Nat} (h : k = u.length + 1) : ((x :: (u ++ c :: l)).take k).drop 1 = u := by
  subst h; simp
theorem take_drop_len (i j : Nat) {l : Bs} (h : l.length ≤ j) : (l.take j).drop i = l.drop i := by rw [List.take_of_length_le h]

theorem lst_get {s : ByteArray} {l : Bs} (h : lst s = l) (i : Nat) (hi : i < s.size) (hl : i < l.length) : s[i]'hi = l[i]'hl := by
  subst h; rfl

set_option maxHeartbeats 60000000 in
theorem OneX (s : ByteArray) (r : Bs) (hs : lst s = 38 :: r) (hsz : s.size ≤ 1000000) (w : World) (hH : HighAt w) :
    Calls Tryz.prog 18 #[.string s] w fun e w' =>
      e = .returned (match oneR r with | some (t, after) => .tuple #[.string (Ref.str t), .int .i64 ((s.size : Int) - (after.length : Int))] | none => .tuple #[.string ⟨#[]⟩, .int .i64 0]) ∧ Below w.heap.size w w' := by
  have h0 : 0 < s.size := by rw [← lst_length, hs]; simp
  have hne : s.toList.isEmpty = false := by rw [toList_lst, hs]; rfl
  have hc0 : s[0]'h0 = 38 := by
    have : (lst s)[0]'(by rw [lst_length]; exact h0) = 38 := by simp [hs]
    exact this
  obtain ⟨ans, hans⟩ : ∃ ans, ans = (match oneR r with | some (t, after) => Value.tuple #[.string (Ref.str t), .int .i64 ((s.size : Int) - (after.length : Int))] | none => .tuple #[.string ⟨#[]⟩, .int .i64 0]) := ⟨_, rfl⟩
  rw [← hans]
  have HANS := Lib.hid hans
  clear hans
  go_enter Tryz.func18, Tryz.ntmps18
  go_wp2_with fail
  go_loopw [4] (fun v wr => ∃ k : Nat, v = .int .i64 k ∧ 1 ≤ k ∧ k ≤ s.size ∧ Hid (∃ u, r = u ++ (lst s).drop k ∧ u.length + 1 = k ∧ ∀ c ∈ u, refC c = true) ∧ Below w.heap.size w wr) (fun v _ => s.size - (intOf v).toNat)
  case atStart => exact ⟨1, rfl, Nat.le_refl _, by omega, Lib.hid ⟨[], by rw [hs]; rfl, rfl, by simp⟩, Below.refl _ _⟩
  case round =>
    obtain ⟨k, rfl, hk1, hk2, hu, hB⟩ := hrel
    have hBs := hB.size
    by_cases hlt : k < s.size
    · have hkl : k < (lst s).length := by rw [lst_length]; exact hlt
      obtain ⟨c, hc⟩ : ∃ c, s[k]'hlt = c := ⟨_, rfl⟩
      have hcl : (lst s)[k] = c := hc
      have hdrop := List.drop_eq_getElem_cons hkl
      rw [hcl] at hdrop
      have hc256 : c.toNat < 256 := c.toNat_lt
      have HL := Lib.hid (letter c)
      have HD := Lib.hid (digit c)
      have hnext : refC c = true → Hid (∃ u, r = u ++ (lst s).drop (k + 1) ∧ u.length + 1 = k + 1 ∧ ∀ c ∈ u, refC c = true) := by
        intro hr
        obtain ⟨u, h1, h2, h3⟩ := hu.out
        refine Lib.hid ⟨u ++ [c], by rw [h1, hdrop]; simp, by simp; omega, ?_⟩
        intro d hd
        rcases List.mem_append.1 hd with hd | hd
        · exact h3 d hd
        · obtain rfl : d = c := by simpa using hd
          exact hr
      have HNX := Lib.hid hnext
      clear hnext hcl
      cases hL : letC c with
      | true =>
        have hr : refC c = true := by rw [refC_of, hL]; rfl
        rw [hL] at HL
        clear hdrop hs hc0 hne
        go_wp2_with fail
        refine (HL.out _).mono ?_
        rintro e w1 ⟨rfl, hb1⟩
        go_wp2
        go_roundw
        case rel => exact ⟨k + 1, by go_num, by omega, by omega, HNX.out hr, hB.trans (hb1.mono hBs)⟩
        case measure => simp [intOf]; omega
      | false =>
        rw [hL] at HL
        cases hD : digC c with
        | true =>
          have hr : refC c = true := by rw [refC_of, hD]; simp
          rw [hD] at HD
          clear hdrop hs hc0 hne
          go_wp2_with fail
          refine (HL.out _).mono ?_
          rintro e w1 ⟨rfl, hb1⟩
          go_wp2_with fail
          refine (HD.out _).mono ?_
          rintro e w2 ⟨rfl, hb2⟩
          go_wp2
          go_roundw
          case rel => exact ⟨k + 1, by go_num, by omega, by omega, HNX.out hr, hB.trans ((Dig.below_trans hb1 hb2).mono hBs)⟩
          case measure => simp [intOf]; omega
        | false =>
          rw [hD] at HD
          by_cases h35 : c.toNat = 35
          · have hr : refC c = true := by rw [show c = 35 from UInt8.toNat_inj.1 h35]; rfl
            have e35 : ((c.toNat : Int) == 35) = true := beq_iff_eq.2 (by omega)
            clear hdrop hs hc0 hne h35
            go_wp2_with fail
            refine (HL.out _).mono ?_
            rintro e w1 ⟨rfl, hb1⟩
            go_wp2_with fail
            refine (HD.out _).mono ?_
            rintro e w2 ⟨rfl, hb2⟩
            go_wp2
            go_roundw
            case rel => exact ⟨k + 1, by go_num, by omega, by omega, HNX.out hr, hB.trans ((Dig.below_trans hb1 hb2).mono hBs)⟩
            case measure => simp [intOf]; omega
          · have hr : refC c = false := by
              rw [refC_of, hL, hD]
              have : c ≠ 35 := fun e => h35 (by rw [e]; rfl)
              simpa using this
            by_cases h59 : c.toNat = 59
            · skip
              obtain rfl : c = 59 := UInt8.toNat_inj.1 h59
              obtain ⟨u, h1, h2, h3⟩ := hu.out
              obtain ⟨after, haft⟩ : ∃ after, after = (lst s).drop (k + 1) := ⟨_, rfl⟩
              rw [← haft] at hdrop
              have hT : lst (s.extract 1 k) = u := by
                rw [lst_extract, hs, h1, hdrop]
                exact take_drop_len1 u _ (by omega)
              have hafl : (s.size : Int) - (after.length : Int) = (k : Int) + 1 := by
                have : after.length = s.size - (k + 1) := by rw [haft, List.length_drop, lst_length]
                omega
              have hans1 : ans = (match signR u with | some t => Value.tuple #[.string (Ref.str t), .int .i64 ((k : Int) + 1)] | none => .tuple #[.string ⟨#[]⟩, .int .i64 0]) := by
                rw [HANS.out, h1, hdrop, oneR_semi h3]
                cases signR u with
                | none => rfl
                | some t => show Value.tuple #[_, .int .i64 _] = _; rw [hafl]
              have HL := Lib.hid (fun W => (letter 59 W : Calls Tryz.prog 28 #[.int .u8 59] W fun e w' => e = .returned (.bool false) ∧ Below W.heap.size W w'))
              have HD := Lib.hid (fun W => (digit 59 W : Calls Tryz.prog 29 #[.int .u8 59] W fun e w' => e = .returned (.bool false) ∧ Below W.heap.size W w'))
              have HT := Lib.hid hT
              have hlen : u.length + 1 = k := h2
              have hxs : (s.extract 1 k).size = k - 1 := by rw [← lst_length, hT]; omega
              have HH := Lib.hid (fun (W : World) (h : Below w.heap.size w W) => hH.below h)
              clear HANS hdrop hs hc0 hne hu h1 h2 h3 hT haft hafl h35 h59 hL hD hr HNX hc256 hH
              match u, hlen, HT, hans1 with
              | [], hlen, HT, hans1 =>
                obtain ⟨tt, htt⟩ : ∃ tt : Bs, tt = [] := ⟨_, rfl⟩
                replace HT : Hid (lst (s.extract 1 k) = tt) := by rw [htt]; exact HT
                replace hans1 : ans = (match signR tt with | some t => Value.tuple #[.string (Ref.str t), .int .i64 ((k : Int) + 1)] | none => .tuple #[.string ⟨#[]⟩, .int .i64 0]) := by rw [htt]; exact hans1
                have hsr : signR tt = named tt := by rw [htt]; rfl
                have hk0 : k ≤ 1 := by simp only [List.length_nil] at hlen; omega
                clear htt hlen
                cases hnm : named tt with
                | none =>
                  have HO := Lib.hid (show ans = .tuple #[.string ⟨#[]⟩, .int .i64 0] by first | (rw [hans1, hsr, hnm]; done) | (rw [hans1, hsr, hnm]; rfl))
                  have hemp : (Ref.str (orNone (none : Option Bs))).toList.isEmpty = true := by rw [toList_lst, lst_str]; rfl
                  clear hans1 hsr
                  go_wp2_with fail
                  refine (HL.out _).mono ?_
                  rintro e w1 ⟨rfl, hb1⟩
                  go_wp2_with fail
                  refine (HD.out _).mono ?_
                  rintro e w2 ⟨rfl, hb2⟩
                  have hB2 := hB.trans ((Dig.below_trans hb1 hb2).mono hBs)
                  have hBs2 := hB2.size
                  clear hb1 hb2
                  go_wp2_with fail
                  refine (named_w _ tt HT.out _).mono ?_
                  rintro e w9 ⟨rfl, hb9⟩
                  have hB9 := hB2.trans (hb9.mono hB2.size)
                  clear hb9
                  rw [hnm]
                  go_wp2
                  go_ret2
                  exact ⟨by first | (rw [HO.out]; done) | (rw [HO.out]; rfl), hB9⟩
                | some t =>
                  have HO := Lib.hid (show ans = .tuple #[.string (Ref.str t), .int .i64 ((k : Int) + 1)] by first | (rw [hans1, hsr, hnm]; done) | (rw [hans1, hsr, hnm]; rfl))
                  have hemp : (Ref.str (orNone (some t))).toList.isEmpty = false := str_empty (named_ne hnm)
                  clear hans1 hsr
                  go_wp2_with fail
                  refine (HL.out _).mono ?_
                  rintro e w1 ⟨rfl, hb1⟩
                  go_wp2_with fail
                  refine (HD.out _).mono ?_
                  rintro e w2 ⟨rfl, hb2⟩
                  have hB2 := hB.trans ((Dig.below_trans hb1 hb2).mono hBs)
                  have hBs2 := hB2.size
                  clear hb1 hb2
                  go_wp2_with fail
                  refine (named_w _ tt HT.out _).mono ?_
                  rintro e w9 ⟨rfl, hb9⟩
                  have hB9 := hB2.trans (hb9.mono hB2.size)
                  clear hb9
                  rw [hnm]
                  go_wp2
                  go_ret2
                  exact ⟨by first | (rw [HO.out]; done) | (rw [HO.out]; rfl), hB9⟩
              | [a], hlen, HT, hans1 =>
                obtain ⟨tt, htt⟩ : ∃ tt : Bs, tt = [a] := ⟨_, rfl⟩
                replace HT : Hid (lst (s.extract 1 k) = tt) := by rw [htt]; exact HT
                replace hans1 : ans = (match signR tt with | some t => Value.tuple #[.string (Ref.str t), .int .i64 ((k : Int) + 1)] | none => .tuple #[.string ⟨#[]⟩, .int .i64 0]) := by rw [htt]; exact hans1
                have hsr : signR tt = named tt := by rw [htt]; rfl
                have hk0 : k ≤ 2 := by simp only [List.length_cons, List.length_nil] at hlen; omega
                clear htt hlen
                cases hnm : named tt with
                | none =>
                  have HO := Lib.hid (show ans = .tuple #[.string ⟨#[]⟩, .int .i64 0] by first | (rw [hans1, hsr, hnm]; done) | (rw [hans1, hsr, hnm]; rfl))
                  have hemp : (Ref.str (orNone (none : Option Bs))).toList.isEmpty = true := by rw [toList_lst, lst_str]; rfl
                  clear hans1 hsr
                  go_wp2_with fail
                  refine (HL.out _).mono ?_
                  rintro e w1 ⟨rfl, hb1⟩
                  go_wp2_with fail
                  refine (HD.out _).mono ?_
                  rintro e w2 ⟨rfl, hb2⟩
                  have hB2 := hB.trans ((Dig.below_trans hb1 hb2).mono hBs)
                  have hBs2 := hB2.size
                  clear hb1 hb2
                  go_wp2_with fail
                  refine (named_w _ tt HT.out _).mono ?_
                  rintro e w9 ⟨rfl, hb9⟩
                  have hB9 := hB2.trans (hb9.mono hB2.size)
                  clear hb9
                  rw [hnm]
                  go_wp2
                  go_ret2
                  exact ⟨by first | (rw [HO.out]; done) | (rw [HO.out]; rfl), hB9⟩
                | some t =>
                  have HO := Lib.hid (show ans = .tuple #[.string (Ref.str t), .int .i64 ((k : Int) + 1)] by first | (rw [hans1, hsr, hnm]; done) | (rw [hans1, hsr, hnm]; rfl))
                  have hemp : (Ref.str (orNone (some t))).toList.isEmpty = false := str_empty (named_ne hnm)
                  clear hans1 hsr
                  go_wp2_with fail
                  refine (HL.out _).mono ?_
                  rintro e w1 ⟨rfl, hb1⟩
                  go_wp2_with fail
                  refine (HD.out _).mono ?_
                  rintro e w2 ⟨rfl, hb2⟩
                  have hB2 := hB.trans ((Dig.below_trans hb1 hb2).mono hBs)
                  have hBs2 := hB2.size
                  clear hb1 hb2
                  go_wp2_with fail
                  refine (named_w _ tt HT.out _).mono ?_
                  rintro e w9 ⟨rfl, hb9⟩
                  have hB9 := hB2.trans (hb9.mono hB2.size)
                  clear hb9
                  rw [hnm]
                  go_wp2
                  go_ret2
                  exact ⟨by first | (rw [HO.out]; done) | (rw [HO.out]; rfl), hB9⟩
              | a :: d :: q, hlen, HT, hans1 =>
                have hp0 : 0 < (s.extract 1 k).size := by rw [hxs]; simp only [List.length_cons] at hlen; omega
                have hp1 : 1 < (s.extract 1 k).size := by rw [hxs]; simp only [List.length_cons] at hlen; omega
                have ha : (s.extract 1 k)[0]'hp0 = a := lst_get HT.out 0 hp0 (by simp)
                have hd : (s.extract 1 k)[1]'hp1 = d := lst_get HT.out 1 hp1 (by simp)
                have hk3 : 3 ≤ k := by simp only [List.length_cons] at hlen; omega
                by_cases h35 : a = 35
                · subst h35
                  by_cases hx : d = 120
                  · subst hx
                    have hsr : signR (35 :: 120 :: q) = (digs 16 6 q).map numS := rfl
                    have hT2 : lst ((s.extract 1 k).extract 2 (k - 1)) = q := by
                      rw [lst_extract, HT.out]; exact take_drop_len _ _ (by simp only [List.length_cons] at hlen ⊢; omega)
                    have HT2 := Lib.hid hT2
                    cases hdg : digs 16 6 (q) with
                    | none =>
                      have HO := Lib.hid (show ans = .tuple #[.string ⟨#[]⟩, .int .i64 0] by first | (rw [hans1, hsr, hdg]; done) | (rw [hans1, hsr, hdg]; rfl))
                      have hemp : (Ref.str (orNone (none : Option Bs))).toList.isEmpty = true := by rw [toList_lst, lst_str]; rfl
                      clear hans1 hsr hT2
                      go_wp2_with fail
                      refine (HL.out _).mono ?_
                      rintro e w1 ⟨rfl, hb1⟩
                      go_wp2_with fail
                      refine (HD.out _).mono ?_
                      rintro e w2 ⟨rfl, hb2⟩
                      have hB2 := hB.trans ((Dig.below_trans hb1 hb2).mono hBs)
                      have hBs2 := hB2.size
                      clear hb1 hb2
                      go_wp2_with fail
                      refine (digits_w 16 6 (by omega) (by omega) _ (q) HT2.out _).mono ?_
                      rintro e w3 ⟨he, hb3⟩
                      have he' : e = .returned (.int .i64 (-1)) := by rw [he]; first | (rw [hdg]; done) | (rw [hdg]; rfl)
                      subst he'
                      clear he
                      have hB3 := hB2.trans (hb3.mono hBs2)
                      clear hb3
                      have hnm := named_hash (120 :: q)
                      go_wp2_with fail
                      refine (named_w _ (35 :: 120 :: q) HT.out _).mono ?_
                      rintro e w9 ⟨rfl, hb9⟩
                      have hB9 := hB3.trans (hb9.mono hB3.size)
                      clear hb9
                      rw [hnm]
                      go_wp2
                      go_ret2
                      exact ⟨by first | (rw [HO.out]; done) | (rw [HO.out]; rfl), hB9⟩
                    | some n =>
                      have HO := Lib.hid (show ans = .tuple #[.string (Ref.str (numS n)), .int .i64 ((k : Int) + 1)] by first | (rw [hans1, hsr, hdg]; done) | (rw [hans1, hsr, hdg]; rfl))
                      have hn24 := Sig.digs_lt (by omega) hdg
                      obtain ⟨v, hv⟩ : ∃ v : Int, v = (n : Int) := ⟨_, rfl⟩
                      have HRN0 : ∀ W, Calls Tryz.prog 31 #[.int .i64 v] W fun e w' => e = .returned (.string (Ref.str (numS v.toNat))) ∧ Below W.heap.size W w' := fun W => rnumbered v (by omega) (by omega) W
                      have HRN := Lib.hid HRN0
                      clear HRN0
                      have hv0 : 0 ≤ v := by omega
                      have hvn : v.toNat = n := by omega
                      rw [hvn] at HRN
                      have HV := Lib.hid hv
                      clear hans1 hsr hT2 hn24 hv hvn
                      go_wp2_with fail
                      refine (HL.out _).mono ?_
                      rintro e w1 ⟨rfl, hb1⟩
                      go_wp2_with fail
                      refine (HD.out _).mono ?_
                      rintro e w2 ⟨rfl, hb2⟩
                      have hB2 := hB.trans ((Dig.below_trans hb1 hb2).mono hBs)
                      have hBs2 := hB2.size
                      clear hb1 hb2
                      go_wp2_with fail
                      refine (digits_w 16 6 (by omega) (by omega) _ (q) HT2.out _).mono ?_
                      rintro e w3 ⟨he, hb3⟩
                      have he' : e = .returned (.int .i64 v) := by rw [he]; first | (rw [hdg, HV.out]; done) | (rw [hdg, HV.out]; rfl)
                      subst he'
                      clear he
                      have hB3 := hB2.trans (hb3.mono hBs2)
                      have hBs3 := hB3.size
                      clear hb3
                      go_wp2_with fail
                      refine (HRN.out _).mono ?_
                      rintro e w4 ⟨rfl, hb4⟩
                      have hB4 := hB3.trans (hb4.mono hBs3)
                      clear hb4
                      go_wp2
                      go_ret2
                      exact ⟨by first | (rw [HO.out]; done) | (rw [HO.out]; rfl), hB4⟩
                  · by_cases hX : d = 88
                    · subst hX
                      have hsr : signR (35 :: 88 :: q) = (digs 16 6 q).map numS := rfl
                      have hT2 : lst ((s.extract 1 k).extract 2 (k - 1)) = q := by
                        rw [lst_extract, HT.out]; exact take_drop_len _ _ (by simp only [List.length_cons] at hlen ⊢; omega)
                      have HT2 := Lib.hid hT2
                      cases hdg : digs 16 6 (q) with
                      | none =>
                        have HO := Lib.hid (show ans = .tuple #[.string ⟨#[]⟩, .int .i64 0] by first | (rw [hans1, hsr, hdg]; done) | (rw [hans1, hsr, hdg]; rfl))
                        have hemp : (Ref.str (orNone (none : Option Bs))).toList.isEmpty = true := by rw [toList_lst, lst_str]; rfl
                        clear hans1 hsr hT2
                        go_wp2_with fail
                        refine (HL.out _).mono ?_
                        rintro e w1 ⟨rfl, hb1⟩
                        go_wp2_with fail
                        refine (HD.out _).mono ?_
                        rintro e w2 ⟨rfl, hb2⟩
                        have hB2 := hB.trans ((Dig.below_trans hb1 hb2).mono hBs)
                        have hBs2 := hB2.size
                        clear hb1 hb2
                        go_wp2_with fail
                        refine (digits_w 16 6 (by omega) (by omega) _ (q) HT2.out _).mono ?_
                        rintro e w3 ⟨he, hb3⟩
                        have he' : e = .returned (.int .i64 (-1)) := by rw [he]; first | (rw [hdg]; done) | (rw [hdg]; rfl)
                        subst he'
                        clear he
                        have hB3 := hB2.trans (hb3.mono hBs2)
                        clear hb3
                        have hnm := named_hash (88 :: q)
                        go_wp2_with fail
                        refine (named_w _ (35 :: 88 :: q) HT.out _).mono ?_
                        rintro e w9 ⟨rfl, hb9⟩
                        have hB9 := hB3.trans (hb9.mono hB3.size)
                        clear hb9
                        rw [hnm]
                        go_wp2
                        go_ret2
                        exact ⟨by first | (rw [HO.out]; done) | (rw [HO.out]; rfl), hB9⟩
                      | some n =>
                        have HO := Lib.hid (show ans = .tuple #[.string (Ref.str (numS n)), .int .i64 ((k : Int) + 1)] by first | (rw [hans1, hsr, hdg]; done) | (rw [hans1, hsr, hdg]; rfl))
                        have hn24 := Sig.digs_lt (by omega) hdg
                        obtain ⟨v, hv⟩ : ∃ v : Int, v = (n : Int) := ⟨_, rfl⟩
                        have HRN0 : ∀ W, Calls Tryz.prog 31 #[.int .i64 v] W fun e w' => e = .returned (.string (Ref.str (numS v.toNat))) ∧ Below W.heap.size W w' := fun W => rnumbered v (by omega) (by omega) W
                        have HRN := Lib.hid HRN0
                        clear HRN0
                        have hv0 : 0 ≤ v := by omega
                        have hvn : v.toNat = n := by omega
                        rw [hvn] at HRN
                        have HV := Lib.hid hv
                        clear hans1 hsr hT2 hn24 hv hvn
                        go_wp2_with fail
                        refine (HL.out _).mono ?_
                        rintro e w1 ⟨rfl, hb1⟩
                        go_wp2_with fail
                        refine (HD.out _).mono ?_
                        rintro e w2 ⟨rfl, hb2⟩
                        have hB2 := hB.trans ((Dig.below_trans hb1 hb2).mono hBs)
                        have hBs2 := hB2.size
                        clear hb1 hb2
                        go_wp2_with fail
                        refine (digits_w 16 6 (by omega) (by omega) _ (q) HT2.out _).mono ?_
                        rintro e w3 ⟨he, hb3⟩
                        have he' : e = .returned (.int .i64 v) := by rw [he]; first | (rw [hdg, HV.out]; done) | (rw [hdg, HV.out]; rfl)
                        subst he'
                        clear he
                        have hB3 := hB2.trans (hb3.mono hBs2)
                        have hBs3 := hB3.size
                        clear hb3
                        go_wp2_with fail
                        refine (HRN.out _).mono ?_
                        rintro e w4 ⟨rfl, hb4⟩
                        have hB4 := hB3.trans (hb4.mono hBs3)
                        clear hb4
                        go_wp2
                        go_ret2
                        exact ⟨by first | (rw [HO.out]; done) | (rw [HO.out]; rfl), hB4⟩
                    · have hsr : signR (35 :: d :: q) = (digs 10 7 (d :: q)).map numS := by
                        show (if (35 : UInt8) = 35 then Option.map numS (if d = 120 ∨ d = 88 then digs 16 6 q else digs 10 7 (d :: q)) else named (35 :: d :: q)) = _
                        rw [if_pos rfl, if_neg (by rintro (h | h); exact hx h; exact hX h)]
                      have hx1 : ¬ d.toNat = 120 := fun e => hx (UInt8.toNat_inj.1 e)
                      have hx2 : ¬ d.toNat = 88 := fun e => hX (UInt8.toNat_inj.1 e)
                      have p1 : ¬ ((d.toNat : Int) = 120) := by omega
                      have p2 : ¬ ((d.toNat : Int) = 88) := by omega
                      have p3 : ((d.toNat : Int) == 120) = false := beq_eq_false_iff_ne.2 p1
                      have p4 : ((d.toNat : Int) == 88) = false := beq_eq_false_iff_ne.2 p2
                      clear hx hX hx1 hx2
                      have hT2 : lst ((s.extract 1 k).extract 1 (k - 1)) = d :: q := by
                        rw [lst_extract, HT.out]; exact take_drop_len _ _ (by simp only [List.length_cons] at hlen ⊢; omega)
                      have HT2 := Lib.hid hT2
                      cases hdg : digs 10 7 (d :: q) with
                      | none =>
                        have HO := Lib.hid (show ans = .tuple #[.string ⟨#[]⟩, .int .i64 0] by first | (rw [hans1, hsr, hdg]; done) | (rw [hans1, hsr, hdg]; rfl))
                        have hemp : (Ref.str (orNone (none : Option Bs))).toList.isEmpty = true := by rw [toList_lst, lst_str]; rfl
                        clear hans1 hsr hT2
                        go_wp2_with fail
                        refine (HL.out _).mono ?_
                        rintro e w1 ⟨rfl, hb1⟩
                        go_wp2_with fail
                        refine (HD.out _).mono ?_
                        rintro e w2 ⟨rfl, hb2⟩
                        have hB2 := hB.trans ((Dig.below_trans hb1 hb2).mono hBs)
                        have hBs2 := hB2.size
                        clear hb1 hb2
                        go_wp2_with fail
                        refine (digits_w 10 7 (by omega) (by omega) _ (d :: q) HT2.out _).mono ?_
                        rintro e w3 ⟨he, hb3⟩
                        have he' : e = .returned (.int .i64 (-1)) := by rw [he]; first | (rw [hdg]; done) | (rw [hdg]; rfl)
                        subst he'
                        clear he
                        have hB3 := hB2.trans (hb3.mono hBs2)
                        clear hb3
                        have hnm := named_hash (d :: q)
                        go_wp2_with fail
                        refine (named_w _ (35 :: d :: q) HT.out _).mono ?_
                        rintro e w9 ⟨rfl, hb9⟩
                        have hB9 := hB3.trans (hb9.mono hB3.size)
                        clear hb9
                        rw [hnm]
                        go_wp2
                        go_ret2
                        exact ⟨by first | (rw [HO.out]; done) | (rw [HO.out]; rfl), hB9⟩
                      | some n =>
                        have HO := Lib.hid (show ans = .tuple #[.string (Ref.str (numS n)), .int .i64 ((k : Int) + 1)] by first | (rw [hans1, hsr, hdg]; done) | (rw [hans1, hsr, hdg]; rfl))
                        have hn24 := Sig.digs_lt (by omega) hdg
                        obtain ⟨v, hv⟩ : ∃ v : Int, v = (n : Int) := ⟨_, rfl⟩
                        have HRN0 : ∀ W, Calls Tryz.prog 31 #[.int .i64 v] W fun e w' => e = .returned (.string (Ref.str (numS v.toNat))) ∧ Below W.heap.size W w' := fun W => rnumbered v (by omega) (by omega) W
                        have HRN := Lib.hid HRN0
                        clear HRN0
                        have hv0 : 0 ≤ v := by omega
                        have hvn : v.toNat = n := by omega
                        rw [hvn] at HRN
                        have HV := Lib.hid hv
                        clear hans1 hsr hT2 hn24 hv hvn
                        go_wp2_with fail
                        refine (HL.out _).mono ?_
                        rintro e w1 ⟨rfl, hb1⟩
                        go_wp2_with fail
                        refine (HD.out _).mono ?_
                        rintro e w2 ⟨rfl, hb2⟩
                        have hB2 := hB.trans ((Dig.below_trans hb1 hb2).mono hBs)
                        have hBs2 := hB2.size
                        clear hb1 hb2
                        go_wp2_with fail
                        refine (digits_w 10 7 (by omega) (by omega) _ (d :: q) HT2.out _).mono ?_
                        rintro e w3 ⟨he, hb3⟩
                        have he' : e = .returned (.int .i64 v) := by rw [he]; first | (rw [hdg, HV.out]; done) | (rw [hdg, HV.out]; rfl)
                        subst he'
                        clear he
                        have hB3 := hB2.trans (hb3.mono hBs2)
                        have hBs3 := hB3.size
                        clear hb3
                        go_wp2_with fail
                        refine (HRN.out _).mono ?_
                        rintro e w4 ⟨rfl, hb4⟩
                        have hB4 := hB3.trans (hb4.mono hBs3)
                        clear hb4
                        go_wp2
                        go_ret2
                        exact ⟨by first | (rw [HO.out]; done) | (rw [HO.out]; rfl), hB4⟩
                · have hsr : signR (a :: d :: q) = named (a :: d :: q) := by
                    show (if a = 35 then Option.map numS (if d = 120 ∨ d = 88 then digs 16 6 q else digs 10 7 (d :: q)) else named (a :: d :: q)) = _
                    rw [if_neg h35]
                  have hx1 : ¬ a.toNat = 35 := fun e => h35 (UInt8.toNat_inj.1 e)
                  have p1 : ¬ ((a.toNat : Int) = 35) := by omega
                  have p3 : ((a.toNat : Int) == 35) = false := beq_eq_false_iff_ne.2 p1
                  clear h35 hx1
                  obtain ⟨tt, htt⟩ : ∃ tt : Bs, tt = a :: d :: q := ⟨_, rfl⟩
                  rw [← htt] at HT hans1 hsr
                  clear htt hlen
                  cases hnm : named tt with
                  | none =>
                    have HO := Lib.hid (show ans = .tuple #[.string ⟨#[]⟩, .int .i64 0] by first | (rw [hans1, hsr, hnm]; done) | (rw [hans1, hsr, hnm]; rfl))
                    have hemp : (Ref.str (orNone (none : Option Bs))).toList.isEmpty = true := by rw [toList_lst, lst_str]; rfl
                    clear hans1 hsr
                    go_wp2_with fail
                    refine (HL.out _).mono ?_
                    rintro e w1 ⟨rfl, hb1⟩
                    go_wp2_with fail
                    refine (HD.out _).mono ?_
                    rintro e w2 ⟨rfl, hb2⟩
                    have hB2 := hB.trans ((Dig.below_trans hb1 hb2).mono hBs)
                    have hBs2 := hB2.size
                    clear hb1 hb2
                    go_wp2_with fail
                    refine (named_w _ tt HT.out _).mono ?_
                    rintro e w9 ⟨rfl, hb9⟩
                    have hB9 := hB2.trans (hb9.mono hB2.size)
                    clear hb9
                    rw [hnm]
                    go_wp2
                    go_ret2
                    exact ⟨by first | (rw [HO.out]; done) | (rw [HO.out]; rfl), hB9⟩
                  | some t =>
                    have HO := Lib.hid (show ans = .tuple #[.string (Ref.str t), .int .i64 ((k : Int) + 1)] by first | (rw [hans1, hsr, hnm]; done) | (rw [hans1, hsr, hnm]; rfl))
                    have hemp : (Ref.str (orNone (some t))).toList.isEmpty = false := str_empty (named_ne hnm)
                    clear hans1 hsr
                    go_wp2_with fail
                    refine (HL.out _).mono ?_
                    rintro e w1 ⟨rfl, hb1⟩
                    go_wp2_with fail
                    refine (HD.out _).mono ?_
                    rintro e w2 ⟨rfl, hb2⟩
                    have hB2 := hB.trans ((Dig.below_trans hb1 hb2).mono hBs)
                    have hBs2 := hB2.size
                    clear hb1 hb2
                    go_wp2_with fail
                    refine (named_w _ tt HT.out _).mono ?_
                    rintro e w9 ⟨rfl, hb9⟩
                    have hB9 := hB2.trans (hb9.mono hB2.size)
                    clear hb9
                    rw [hnm]
                    go_wp2
                    go_ret2
                    exact ⟨by first | (rw [HO.out]; done) | (rw [HO.out]; rfl), hB9⟩
            · obtain ⟨u, h1, h2, h3⟩ := hu.out
              have ho : oneR r = none := by
                rw [h1, hdrop]
                exact oneR_other h3 hr (fun e => h59 (by rw [e]; rfl))
              have HO := Lib.hid (show ans = _ by rw [HANS.out, ho])
              have e35 : ((c.toNat : Int) == 35) = false := beq_eq_false_iff_ne.2 (by omega)
              have n59 : ((c.toNat : Int) != 59) = true := by rw [bne_iff_ne]; omega
              have m59 : ¬ ((c.toNat : Int) = 59) := by omega
              have e59 : ((c.toNat : Int) == 59) = false := beq_eq_false_iff_ne.2 (by omega)
              clear hdrop hs hc0 hne hu h1 h2 h3 ho h35 h59 hL hD hr HNX
              go_wp2_with fail
              refine (HL.out _).mono ?_
              rintro e w1 ⟨rfl, hb1⟩
              go_wp2_with fail
              refine (HD.out _).mono ?_
              rintro e w2 ⟨rfl, hb2⟩
              go_wp2
              go_ret2
              exact ⟨by rw [HO.out]; rfl, hB.trans ((Dig.below_trans hb1 hb2).mono hBs)⟩
    · obtain rfl : k = s.size := by omega
      have ho : oneR r = none := by
        obtain ⟨u, h1, h2, h3⟩ := hu.out
        rw [h1, show (lst s).drop s.size = [] from List.drop_eq_nil_of_le (by rw [lst_length]; exact Nat.le_refl _)]
        exact oneR_end h3
      have HO := Lib.hid (show ans = _ by rw [HANS.out, ho])
      clear hs hc0 hne hu ho
      go_wp2
      go_ret2
      exact ⟨by rw [HO.out]; rfl, hB⟩
end Go.Proofs.YtagbehhggpepfaaGreatDoor.One
