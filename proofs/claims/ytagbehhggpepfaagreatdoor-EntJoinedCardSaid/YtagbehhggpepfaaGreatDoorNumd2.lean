/- The sign of a number below 2^24: the program's and the document's are one. The sign of a number below 2^24: the program's 'numbered' and the document's. -/
import Derived.Test.YtagbehhggpepfaaGreatDoorRef
import Derived.Test.YtagbehhggpepfaaGreatDoorLatin
set_option linter.unusedVariables false
set_option linter.unusedSimpArgs false
namespace Go.Proofs.YtagbehhggpepfaaGreatDoor.Numd
open Go.RowKit Go.Proofs.YtagbehhggpepfaaGreatDoor.Ent Go.Proofs.YtagbehhggpepfaaGreatDoor.Ref Go.Proofs.YtagbehhggpepfaaGreatDoor.Chars Go.Proofs.YtagbehhggpepfaaGreatDoor.GR Go.Proofs.YtagbehhggpepfaaGreatDoorW.PrintWords

theorem high_calls (c : UInt8) (r : Int) (h0 : 128 ≤ c.toNat) (h1 : c.toNat ≤ 159) (hr : r = Chars.highs.getD (c.toNat - 128) 0) (w : World) :
    Calls Tryz.prog 57 #[.int .u8 (c.toNat : Int)] w fun e w' => e = .returned (.int .i64 r) ∧ Below w.heap.size w w' := by
  refine muslinref04_high.calls _ r w ?_
  unfold muslinref04_high.f
  rw [Option.bind_some, if_pos (by omega), if_pos (by show ((c.toNat : Int) - 128) % 256 < 32; omega)]
  congr 1
  rw [hr]
  unfold rd
  have e : (((c.toNat : Int) - 128) % 256).toNat = c.toNat - 128 := by omega
  rw [e]
  rfl

theorem Sign (n : Nat) (hn : n < 4294967296) (w : World) :
    Calls Tryz.prog 43 #[.int .i64 (n : Int)] w fun e w' => e = .returned (.string (str (Lib.encodeRune n))) ∧ Below w.heap.size w w' :=
  muslinref04_Sign.calls 1 _ _ w (sign_f n 1 hn (Nat.le_refl _))

theorem SignI (r : Int) (h0 : 0 ≤ r) (h1 : r < 4294967296) (w : World) :
    Calls Tryz.prog 43 #[.int .i64 r] w fun e w' => e = .returned (.string (str (Lib.encodeRune r))) ∧ Below w.heap.size w w' := by
  obtain ⟨n, rfl⟩ := Int.eq_ofNat_of_zero_le h0
  exact Sign n (by omega) w

theorem infoByte : (Tryz.prog.info? 5).map (fun i => (i.zero, i.size, i.bytes)) = some (some (.int .u8 0), 1, 1) := by kernel_rfl

set_option maxHeartbeats 4000000 in
set_option maxRecDepth 100000 in
theorem rdecode_lab (s : ByteArray) (w : World) (hs : s.size ≤ 1000000) :
    Calls Tryz.prog 42 #[.string lab, .string s] w fun e w' => e = .returned (.tuple #[.string ⟨(latin s.data.toList).toArray⟩, .bool true]) ∧ Below w.heap.size w w' := by
  obtain ⟨i0, hi, hz0, hz1, hz2⟩ := info_parts infoByte
  have HS := Lib.hid (show s.data.toList.length = s.size from Array.length_toList)
  go_enter Tryz.func42, Tryz.ntmps42
  go_wp2_with fail
  refine (rknown_lab _).mono ?_
  rintro e w0 ⟨rfl, hb0⟩
  have hw0 := hb0.size
  go_wp2_with fail
  go_loopw [8, 9] (fun v i wr => ∃ k : Nat, k ≤ s.size ∧ i = .int .i64 k ∧ Hid (wr.ownsRow w.heap.size 5 1 v (latin (s.data.toList.take k)).length (Lib.byteCells (latin (s.data.toList.take k)))) ∧ Below w.heap.size w wr) (fun _ i _ => s.size - (intOf i).toNat)
  case atStart => exact ⟨0, Nat.zero_le _, rfl, Lib.hid (World.ownsRow_nil _ _ _ _), hb0⟩
  case round =>
    obtain ⟨k, hk, rfl, hown, hB⟩ := hrel
    have hBs := hB.size
    by_cases hlt : k < s.size
    · have hkl : k < s.data.toList.length := by rw [HS.out]; exact hlt
      obtain ⟨c, hc⟩ : ∃ c, s[k]'hlt = c := ⟨_, rfl⟩
      have hcl : s.data.toList[k] = c := hc
      have hstep := latin_step s.data.toList k hkl
      rw [hcl] at hstep
      have hlen := latin_length (s.data.toList.take k)
      have hlen2 : (s.data.toList.take k).length ≤ k := List.length_take_le _ _
      have HST := Lib.hid hstep
      have hc256 := c.toNat_lt
      have hsl : (latin (s.data.toList.take k)).length ≤ 4000000 := by omega
      clear hstep hcl hlen hlen2
      have fin : ∀ (r : Int) (v' : Value) (w1 : World), r = num c → w1.ownsRow w.heap.size 5 1 v' ((latin (s.data.toList.take k)).length + (str (Lib.encodeRune r)).size) (Lib.byteCells (latin (s.data.toList.take k)) ++ Lib.strCells (str (Lib.encodeRune r))) → Hid (w1.ownsRow w.heap.size 5 1 v' (latin (s.data.toList.take (k + 1))).length (Lib.byteCells (latin (s.data.toList.take (k + 1))))) := by
        rintro r v' w1 rfl h
        rw [HST.out, Lib.byteCells_append, List.length_append]
        rw [str_size, Lib.strCells_eq, show (str (Lib.encodeRune (num c))).data.toList = Lib.encodeRune (num c) from lst_str _] at h
        exact Lib.hid h
      have FIN := Lib.hid fin
      clear fin
      have hle4 : ∀ r : Int, (str (Lib.encodeRune r)).size ≤ 4 := fun r => by rw [str_size]; exact encodeRune_length r
      have HLE4 := Lib.hid hle4
      clear hle4
      by_cases hhi : 128 ≤ c.toNat ∧ c.toNat ≤ 159
      · obtain ⟨h1, h2⟩ := hhi
        have hrg := Chars.highs_range (c.toNat - 128) (by omega)
        have hn : Chars.highs.getD (c.toNat - 128) 0 = num c := by simp [num, h1, h2]
        obtain ⟨r, hr⟩ : ∃ r, r = Chars.highs.getD (c.toNat - 128) 0 := ⟨_, rfl⟩
        have HHC := Lib.hid (fun (wx : World) => high_calls c r h1 h2 hr wx)
        rw [← hr] at hrg hn
        clear hr
        obtain ⟨hr0, hr1⟩ := hrg
        have HN := Lib.hid hn
        clear hn
        have e0 : (c.toNat : Int) < 160 := by omega
        go_wp2_with fail
        refine (HHC.out _).mono ?_
        rintro e w1 ⟨rfl, hb1⟩
        go_wp2_with fail
        refine (SignI r hr0 (by omega) _).mono ?_
        rintro e w2 ⟨rfl, hb2⟩
        have hown2 := hown.out.kept (grown_of_below (below_trans hb1 hb2) none) (by cases Value.ownBlock _ <;> simp)
        have h4 := HLE4.out r
        have hs1 := hb1.size
        have hs2 := hb2.size
        go_wp2_with (at_builtin; refine Lib.wpList_append_own_string _ rfl _ _ 29 9 rfl w.heap.size 5 i0 Tryz.underlying29 Tryz.underlying9 hi hz0 hz1 hz2 _ _ _ rfl hown2 (str (Lib.encodeRune r)) rfl ?c3 ?c4 ?c5 ?_)
        case c3 => unfold maxLen; omega
        case c4 => omega
        case c5 => omega
        intro v' w3 hown' hgrow _
        clear hown2
        have hB3 : Below w.heap.size w w3 := ((hB.trans (hb1.mono hBs)).trans (hb2.mono (by omega))).grown hgrow (by omega) (fun q hq => (hown.out.lt q hq).1)
        go_wp2
        go_roundw
        case rel => exact ⟨k + 1, by omega, by go_num, FIN.out r _ _ HN.out hown', hB3⟩
        case measure => simp [intOf]; omega
      · have hn : (c.toNat : Int) = num c := by simp [num, hhi]
        have HN := Lib.hid hn
        clear hn
        have hor : c.toNat < 128 ∨ 160 ≤ c.toNat := by omega
        clear hhi
        rcases hor with h1 | h1
        all_goals
          go_wp2_with fail
          refine (SignI (c.toNat : Int) (by omega) (by omega) _).mono ?_
          rintro e w2 ⟨rfl, hb2⟩
          have hown2 := hown.out.kept (grown_of_below hb2 none) (by cases Value.ownBlock _ <;> simp)
          have h4 := HLE4.out (c.toNat : Int)
          have hs2 := hb2.size
          go_wp2_with (at_builtin; refine Lib.wpList_append_own_string _ rfl _ _ 29 9 rfl w.heap.size 5 i0 Tryz.underlying29 Tryz.underlying9 hi hz0 hz1 hz2 _ _ _ rfl hown2 (str (Lib.encodeRune (c.toNat : Int))) rfl ?c3 ?c4 ?c5 ?_)
          case c3 => unfold maxLen; omega
          case c4 => omega
          case c5 => omega
          intro v' w3 hown' hgrow _
          clear hown2
          have hB3 : Below w.heap.size w w3 := (hB.trans (hb2.mono hBs)).grown hgrow (by omega) (fun q hq => (hown.out.lt q hq).1)
          go_wp2
          go_roundw
          case rel => exact ⟨k + 1, by omega, by go_num, FIN.out _ _ _ HN.out hown', hB3⟩
          case measure => simp [intOf]; omega
    · obtain rfl : k = s.size := by omega
      have hall : s.data.toList.take s.size = s.data.toList := by rw [← HS.out]; exact List.take_length
      have hown' := hown.out
      rw [hall] at hown'
      clear hown hall
      have hconv := own_bytes_string hown'
      clear hown'
      go_wp2
      go_ret2
      exact ⟨rfl, hB⟩
end Go.Proofs.YtagbehhggpepfaaGreatDoor.Numd
set_option linter.unusedVariables false
set_option linter.unusedSimpArgs false
namespace Go.Proofs.YtagbehhggpepfaaGreatDoor.Numd
open Go.RowKit Go.Proofs.YtagbehhggpepfaaGreatDoor.Ent Go.Proofs.YtagbehhggpepfaaGreatDoor.Ref Go.Proofs.YtagbehhggpepfaaGreatDoor.Chars

theorem utf8_encode (n : Nat) : Utf8.encode (n : Int) = str (Lib.encodeRune n) := by
  unfold Lib.encodeRune
  by_cases hbig : 1114111 < n ∨ (55296 ≤ n ∧ n ≤ 57343)
  · rw [Lib.encodeRuneZ_bad (by omega)]
    have hv : Utf8.valid (n : Int) = false := by simp [Utf8.valid]; omega
    unfold Utf8.encode
    rw [hv]
    simp only [Bool.false_eq_true, if_false]
    decide
  · have hv : Utf8.valid (n : Int) = true := by simp [Utf8.valid]; omega
    unfold Utf8.encode
    rw [hv]
    simp only [if_true, Int.toNat_natCast]
    by_cases h1 : n < 128
    · rw [if_pos h1, Lib.encodeRuneZ_one (by omega) (by omega)]; rfl
    · rw [if_neg h1]
      by_cases h2 : n < 2048
      · rw [if_pos h2, Lib.encodeRuneZ_two (by omega) (by omega)]
        have a : (192 + (n : Int) / 64).toNat = 192 + n / 64 := by omega
        have b : (128 + (n : Int) % 64).toNat = 128 + n % 64 := by omega
        simp only [List.map_cons, List.map_nil, a, b]; rfl
      · rw [if_neg h2]
        by_cases h3 : n < 65536
        · rw [if_pos h3, Lib.encodeRuneZ_three (by omega)]
          have a : (224 + (n : Int) / 4096).toNat = 224 + n / 4096 := by omega
          have b : (128 + (n : Int) / 64 % 64).toNat = 128 + n / 64 % 64 := by omega
          have c : (128 + (n : Int) % 64).toNat = 128 + n % 64 := by omega
          simp only [List.map_cons, List.map_nil, a, b, c]; rfl
        · rw [if_neg h3, Lib.encodeRuneZ_four (by omega) (by omega)]
          have a : (240 + (n : Int) / 262144).toNat = 240 + n / 262144 := by omega
          have b : (128 + (n : Int) / 4096 % 64).toNat = 128 + n / 4096 % 64 := by omega
          have c : (128 + (n : Int) / 64 % 64).toNat = 128 + n / 64 % 64 := by omega
          have d : (128 + (n : Int) % 64).toNat = 128 + n % 64 := by omega
          simp only [List.map_cons, List.map_nil, a, b, c, d]; rfl

theorem latin_one (n : Nat) (h0 : 128 ≤ n) (h1 : n ≤ 159) : latin [UInt8.ofNat n] = numS n := by
  have e : (UInt8.ofNat n).toNat = n := by rw [UInt8.toNat_ofNat']; omega
  unfold latin numS num
  rw [if_neg (by omega), if_pos ⟨h0, h1⟩]
  simp [e, h0, h1]
  rfl

theorem conv_one (a : Int) (h0 : 0 ≤ a) (h1 : a ≤ 255) (w : World) :
    (convert 29 9 (.slice (some ⟨w.heap.size, 0, none⟩) 1 1)).run Tryz.prog (w.alloc (.cells #[.int .u8 a] 5)) = .ok (.string ⟨#[UInt8.ofNat a.toNat]⟩) (w.alloc (.cells #[.int .u8 a] 5)) := by
  have e : (UInt8.ofNat a.toNat).toNat = a.toNat := by rw [UInt8.toNat_ofNat']; omega
  exact run_convert_bytes_back (P := Tryz.prog) _ 29 9 5 ⟨w.heap.size, 0, none⟩ 1 [UInt8.ofNat a.toNat] Tryz.underlying29 Tryz.underlying5 Tryz.underlying9 (fun j hj => by
    obtain rfl : j = 0 := by simpa using hj
    rw [show (⟨w.heap.size, 0, none⟩ : Addr).add 0 = ⟨w.heap.size, 0, none⟩ from rfl, World.cell?_alloc_new]
    simp [e]
    omega)

theorem rnumbered (a : Int) (h0 : 0 ≤ a) (hn : a < 16777216) (w : World) :
    Calls Tryz.prog 31 #[.int .i64 a] w fun e w' => e = .returned (.string (str (numS a.toNat))) ∧ Below w.heap.size w w' := by
  by_cases hz : a = 0
  · subst hz
    go_enter Tryz.func31, Tryz.ntmps31
    go_wp2
    go_ret
    exact ⟨rfl, Below.refl _ _⟩
  · have hzb : (a == 0) = false := beq_eq_false_iff_ne.2 hz
    by_cases hm : 128 ≤ a ∧ a ≤ 159
    · obtain ⟨h1, h2⟩ := hm
      have hconv := conv_one a h0 (by omega) w
      have HL := Lib.hid (latin_one a.toNat (by omega) (by omega))
      have ha : Below w.heap.size w (w.alloc (.cells #[.int .u8 a] 5)) := (Below.refl _ w).alloc (Nat.le_refl _) _
      clear hn hz
      go_enter Tryz.func31, Tryz.ntmps31
      go_wp2_with fail
      refine (rdecode_lab ⟨#[UInt8.ofNat a.toNat]⟩ _ (show 1 ≤ 1000000 by decide)).mono ?_
      rintro e w1 ⟨rfl, hb⟩
      go_wp2
      go_ret
      exact ⟨by rw [show (str (numS a.toNat)) = ⟨(latin [UInt8.ofNat a.toNat]).toArray⟩ by rw [HL.out]; rfl]; rfl, below_trans ha hb⟩
    · have hs : numS a.toNat = Lib.encodeRune a := by
        unfold numS
        rw [if_neg (by omega), if_neg (by omega)]
        congr 1
        omega
      have HL := Lib.hid hs
      clear hs hz
      have hor : a < 128 ∨ 160 ≤ a := by omega
      clear hm
      rcases hor with h1 | h1
      all_goals
        go_enter Tryz.func31, Tryz.ntmps31
        go_wp2_with fail
        refine (SignI a h0 (by omega) _).mono ?_
        rintro e w1 ⟨rfl, hb⟩
        go_wp2
        go_ret
        exact ⟨by rw [HL.out]; rfl, hb⟩

theorem numbered (a : Int) (h0 : 0 ≤ a) (hn : a < 16777216) (w : World) (hH : HighAt w) :
    Calls Tryz.prog 37 #[.int .i64 a] w fun e w' => e = .returned (.string (str (numS a.toNat))) ∧ Below w.heap.size w w' := by
  by_cases hz : a = 0
  · subst hz
    go_enter Tryz.func37, Tryz.ntmps37
    go_wp2
    go_ret
    exact ⟨rfl, Below.refl _ _⟩
  · have hzb : (a == 0) = false := beq_eq_false_iff_ne.2 hz
    by_cases hm : 128 ≤ a ∧ a ≤ 159
    · obtain ⟨h1, h2⟩ := hm
      have hconv := conv_one a h0 (by omega) w
      have HL := Lib.hid (latin_one a.toNat (by omega) (by omega))
      have ha : Below w.heap.size w (w.alloc (.cells #[.int .u8 a] 5)) := (Below.refl _ w).alloc (Nat.le_refl _) _
      have HH1 := Lib.hid (hH.below ha)
      clear hH hn hz
      go_enter Tryz.func37, Tryz.ntmps37
      go_wp2_with fail
      refine (decode_lab ⟨#[UInt8.ofNat a.toNat]⟩ _ (show 1 ≤ 1000000 by decide) HH1.out).mono ?_
      rintro e w1 ⟨rfl, hb⟩
      go_wp2
      go_ret
      exact ⟨by rw [show (str (numS a.toNat)) = ⟨(latin [UInt8.ofNat a.toNat]).toArray⟩ by rw [HL.out]; rfl]; rfl, below_trans ha hb⟩
    · have hs : str (numS a.toNat) = Utf8.encode a := by
        have e := utf8_encode a.toNat
        rw [Int.toNat_of_nonneg h0] at e
        rw [e]
        unfold numS
        rw [if_neg (by omega), if_neg (by omega)]
        congr 2
        omega
      have HL := Lib.hid hs
      clear hs hH hz
      have hor : a < 128 ∨ 160 ≤ a := by omega
      clear hm
      rcases hor with h1 | h1
      all_goals
        go_enter Tryz.func37, Tryz.ntmps37
        go_wp2
        go_ret
        exact ⟨by rw [HL.out]; rfl, Below.refl _ _⟩
end Go.Proofs.YtagbehhggpepfaaGreatDoor.Numd
