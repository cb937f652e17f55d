/- The seven laws of layer 12 over numbers and lists alone: each is true of every text. Conditions: none. -/
import Derived.Test.YtagbehhggpepfaaGreatDoorGE1
import Derived.Test.YtagbehhggpepfaaGreatDoorGE2
import Derived.Test.YtagbehhggpepfaaGreatDoorGE3
import Derived.Test.YtagbehhggpepfaaGreatDoorLaw
import Derived.Lib.LazyBuf
set_option linter.unusedVariables false
set_option linter.unusedSimpArgs false
namespace Go.Proofs.YtagbehhggpepfaaGreatDoor.Pure
open Go.RowKit Go.Proofs.YtagbehhggpepfaaGreatDoor.GE Go.Proofs.YtagbehhggpepfaaGreatDoorW.PrintWords Go.Proofs.YtagbehhggpepfaaGreatDoorW.PrintLast Go.Proofs.YtagbehhggpepfaaGreatDoor.Ent Go.Proofs.YtagbehhggpepfaaGreatDoor.Given Go.Proofs.YtagbehhggpepfaaGreatDoor.Ref

/-! ### some answers -/
def decF : Nat → Bs → Bs
  | 0, l => l
  | _ + 1, [] => []
  | n + 1, c :: r => if c = 38 then (match one r with
      | some (t, after) => t ++ decF n after
      | none => 38 :: decF n r) else c :: decF n r

theorem decF_eq : ∀ (n : Nat) (l : Bs), l.length ≤ n → decF n l = dec l
  | 0, l, h => by
    obtain rfl : l = [] := List.eq_nil_of_length_eq_zero (by omega)
    rw [dec_nil]; rfl
  | n + 1, [], _ => by rw [dec_nil]; rfl
  | n + 1, c :: r, h => by
    have hr : r.length ≤ n := by simp at h; omega
    unfold decF
    by_cases hc : c = 38
    · subst hc
      rw [if_pos rfl]
      cases ho : one r with
      | none => rw [dec_none ho]; simp only; rw [decF_eq n r hr]
      | some p =>
        obtain ⟨t, after⟩ := p
        have := one_length ho
        rw [dec_some ho]; simp only; rw [decF_eq n after (by omega)]
    · rw [if_neg hc, dec_plain r hc, decF_eq n r hr]

theorem decode_f (s : ByteArray) (h : s.size ≤ 1000000) : ent_Decode.f s = some (str (dec (lst s))) := by unfold ent_Decode.f; rw [if_pos h]
theorem text_f (s : ByteArray) (h : s.size ≤ 1000000) : ent_Text.f s = some (str (wr false (lst s))) := by unfold ent_Text.f; rw [if_pos h]
theorem value_f (s : ByteArray) (h : s.size ≤ 1000000) : ent_Value.f s = some (str (wr true (lst s))) := by unfold ent_Value.f; rw [if_pos h]
theorem one_f (s : ByteArray) (h : s.size ≤ 1000000) : muslinref12_One.f s = some (str (OneE.oneF (lst s)).1, (OneE.oneF (lst s)).2) := by unfold muslinref12_One.f; rw [if_pos h]
theorem toList_str (l : Bs) : (str l).toList = l := by rw [toList_lst, lst_str]

theorem live_true : muslinlaw12_live.f = some true := by
  have d1 : dec [38, 108, 116, 59, 38, 35, 54, 53, 59, 38, 35, 120, 52, 50, 59, 38, 120, 59, 38, 97, 109, 112, 38, 110, 98, 115, 112, 59, 38, 35, 49, 50, 56, 59, 38, 35, 48, 59] = [60, 65, 66, 38, 120, 59, 38, 97, 109, 112, 194, 160, 226, 130, 172, 239, 191, 189] := by
    rw [← decF_eq 38 _ (by decide)]; decide +kernel
  have d2 : wr false [97, 60, 98, 38, 34, 194, 160] = [97, 38, 108, 116, 59, 98, 38, 97, 109, 112, 59, 34, 38, 110, 98, 115, 112, 59] := by
    simp [wr, esc, nbsp]
  have d3 : wr true [34, 62] = [38, 113, 117, 111, 116, 59, 38, 103, 116, 59] := by
    simp [wr, esc, nbsp]
  unfold muslinlaw12_live.f
  rw [decode_f _ (by decide), Option.bind_some, toList_str]
  have e1 : lst (⟨#[38, 108, 116, 59, 38, 35, 54, 53, 59, 38, 35, 120, 52, 50, 59, 38, 120, 59, 38, 97, 109, 112, 38, 110, 98, 115, 112, 59, 38, 35, 49, 50, 56, 59, 38, 35, 48, 59]⟩ : ByteArray) = [38, 108, 116, 59, 38, 35, 54, 53, 59, 38, 35, 120, 52, 50, 59, 38, 120, 59, 38, 97, 109, 112, 38, 110, 98, 115, 112, 59, 38, 35, 49, 50, 56, 59, 38, 35, 48, 59] := rfl
  have e2 : lst (⟨#[97, 60, 98, 38, 34, 194, 160]⟩ : ByteArray) = [97, 60, 98, 38, 34, 194, 160] := rfl
  have e3 : lst (⟨#[34, 62]⟩ : ByteArray) = [34, 62] := rfl
  rw [e1, d1, if_pos rfl, text_f _ (by decide), Option.bind_some, toList_str, e2, d2, if_pos rfl, value_f _ (by decide), Option.bind_some, toList_str, e3, d3]
  rfl

theorem short_f (s : ByteArray) : muslinlaw12_short.f s = some (decide ((s.size : Int) ≤ 5000)) := rfl

theorem wr_le (q : Bool) (l : Bs) : (wr q l).length ≤ 6 * l.length :=
  wr_ind q (fun l t => t.length ≤ 6 * l.length) (by simp) (fun r h => by simp [nbsp]; omega)
    (fun c r _ h => by
      have : (esc q c).length ≤ 6 := by
        unfold esc
        split
        · simp
        · split
          · simp
          · split
            · simp
            · split <;> simp
      simp; omega) l

theorem wr_size (q : Bool) (s : ByteArray) (h : s.size ≤ 5000) : (str (wr q (lst s))).size ≤ 1000000 := by
  rw [str_size]
  have := wr_le q (lst s)
  rw [lst_length] at this
  omega

theorem long_law {p : Prop} (s : ByteArray) (h : ¬ (s.size : Int) ≤ 5000) : muslinlaw12_short.f s = some false := by rw [short_f]; simp [h]
theorem short_law (s : ByteArray) (h : (s.size : Int) ≤ 5000) : muslinlaw12_short.f s = some true := by rw [short_f]; simp [h]

/-! ### EntBack -/
theorem EntBack : muslinlaw12_EntBack.Pure := by
  intro s hs
  unfold muslinlaw12_EntBack.f
  by_cases h : (s.size : Int) ≤ 5000
  · have h' : s.size ≤ 5000 := by omega
    rw [short_law s h, Option.bind_some, if_pos rfl, text_f s (by omega), Option.bind_some, decode_f _ (wr_size false s h'), Option.bind_some, lst_str, dec_wr, toList_str, toList_lst, if_pos rfl,
      value_f s (by omega), Option.bind_some, decode_f _ (wr_size true s h'), Option.bind_some, lst_str, dec_wr, toList_str, if_pos rfl, live_true]
    rfl
  · rw [long_law (p := True) s h, Option.bind_some, if_neg (by simp), live_true]; rfl

/-! ### EntApart -/
theorem EntApart : muslinlaw12_EntApart.Pure := by
  intro a b ha hb
  refine ⟨1, ?_⟩
  unfold muslinlaw12_EntApart.f
  by_cases h : (a.size : Int) ≤ 5000
  · rw [short_law a h, Option.bind_some, if_pos rfl]
    by_cases h2 : (b.size : Int) ≤ 5000
    · rw [short_law b h2, Option.bind_some]
      rw [muslinlaw12_EntApart.j0]
      have key : ∀ q, ((str (wr q (lst a))).toList == (str (wr q (lst b))).toList) = (a.toList == b.toList) := fun q => by
        rw [toList_str, toList_str, toList_lst, toList_lst, Bool.eq_iff_iff, beq_iff_eq, beq_iff_eq]
        exact ⟨fun e => wr_inj q e, fun e => by rw [e]⟩
      rw [if_neg (by simp), text_f a (by omega), Option.bind_some, text_f b (by omega), Option.bind_some, key, if_pos (by simp), value_f a (by omega), Option.bind_some, value_f b (by omega), Option.bind_some, key, if_pos (by simp), live_true]
      rfl
    · rw [long_law (p := True) b h2, Option.bind_some]
      rw [muslinlaw12_EntApart.j0]
      rw [if_pos (by rfl), live_true]; rfl
  · rw [long_law (p := True) a h, Option.bind_some, if_neg (by simp)]
    rw [muslinlaw12_EntApart.j0]
    rw [if_pos rfl, live_true]; rfl

theorem bt_at (s : ByteArray) (i : Nat) (h : i < s.size) : ∃ c, (lst s)[i]? = some c ∧ bt s (i : Int) = (c.toNat : Int) := by
  have h' : i < (lst s).length := by rw [lst_length]; exact h
  exact ⟨(lst s)[i], List.getElem?_eq_getElem h', bt_lst s i h'⟩

theorem toNat_of {c : UInt8} {n : Nat} (hn : n < 256) (h : (c.toNat : Int) = (n : Int)) : c = UInt8.ofNat n := by
  have : c.toNat = n := by omega
  rw [← this, UInt8.ofNat_toNat]

theorem wrap_i {x : Int} (h0 : -9223372036854775808 ≤ x) (h1 : x ≤ 9223372036854775807) : wrap64 x = x := by unfold wrap64; omega

/-! ### EntJoined -/
theorem EntJoined : muslinlaw12_EntJoined.Pure := by
  intro a b ha hb
  refine ⟨1, ?_⟩
  unfold muslinlaw12_EntJoined.f
  have out : muslinlaw12_EntJoined.j0 1 a b true = some true := by
    rw [muslinlaw12_EntJoined.j0]
    rw [if_pos rfl, live_true]; rfl
  by_cases h : (a.size : Int) ≤ 5000
  · rw [short_law a h, Option.bind_some, if_pos rfl]
    by_cases h2 : (b.size : Int) ≤ 5000
    · rw [short_law b h2, Option.bind_some, if_pos rfl]
      have main : (lst a).getLast? ≠ some 194 → muslinlaw12_EntJoined.j0 1 a b false = some true := fun hl => by
        have hab : (a ++ b).size ≤ 1000000 := by rw [ByteArray.size_append]; omega
        have hls : lst (a ++ b) = lst a ++ lst b := by unfold lst; rw [ByteArray.data_append, Array.toList_append]
        have app : ∀ q, (str (wr q (lst (a ++ b)))).toList = (str (wr q (lst a)) ++ str (wr q (lst b))).toList := fun q => by
          rw [toList_str, toList_lst]
          have : lst (str (wr q (lst a)) ++ str (wr q (lst b))) = wr q (lst a) ++ wr q (lst b) := by
            have : ∀ x y : Bs, lst (str x ++ str y) = x ++ y := fun x y => by unfold lst; rw [ByteArray.data_append, Array.toList_append]; simp [str]
            exact this _ _
          rw [this, hls, wr_append q _ _ hl]
        have sz : ∀ q, (str (wr q (lst a))).size + (str (wr q (lst b))).size ≤ 9223372036854775807 := fun q => by
          have h1 := wr_size q a (by omega)
          have h2 := wr_size q b (by omega)
          omega
        rw [muslinlaw12_EntJoined.j0]
        rw [if_neg (by simp), if_pos (by omega), text_f _ hab, Option.bind_some, text_f a (by omega), Option.bind_some, text_f b (by omega), Option.bind_some, if_pos (sz _), if_pos (app _),
          value_f _ hab, Option.bind_some, value_f a (by omega), Option.bind_some, value_f b (by omega), Option.bind_some, if_pos (sz _), if_pos (app _), live_true]
        rfl
      by_cases h0 : (a.size : Int) > 0
      · rw [if_pos h0, wrap_i (by omega) (by omega), if_pos (by omega), if_pos (by omega)]
        obtain ⟨c, hc, hbt⟩ := bt_at a (a.size - 1) (by omega)
        have hlast : (lst a).getLast? = some c := by
          rw [List.getLast?_eq_getElem?, lst_length]; exact hc
        rw [show (a.size : Int) - 1 = ((a.size - 1 : Nat) : Int) by omega, hbt]
        by_cases hx : c = 194
        · subst hx
          exact out
        · rw [show ((c.toNat : Int) == 194) = false from beq_eq_false_iff_ne.2 (fun e => hx (toNat_of (n := 194) (by omega) e))]
          exact main (by rw [hlast]; simpa using hx)
      · rw [if_neg h0]
        refine main ?_
        have : lst a = [] := List.eq_nil_of_length_eq_zero (by rw [lst_length]; omega)
        rw [this]; simp
    · rw [long_law (p := True) b h2, Option.bind_some, if_neg (by simp)]
      exact out
  · rw [long_law (p := True) a h, Option.bind_some, if_neg (by simp)]
    exact out

/-! ### EntPlain -/
theorem plain_loop (s : ByteArray) (hs : s.size ≤ 5000) (d : Nat) : ∀ (k : Nat) (i : Nat), s.size - i = d → i ≤ s.size → d < k → (∀ c ∈ (lst s).take i, c ≠ 38) → muslinlaw12_EntPlain.l0 k s (i : Int) = some true := by
  induction d with
  | zero =>
    intro k i hd hi hk hall
    obtain ⟨k, rfl⟩ : ∃ m, k = m + 1 := ⟨k - 1, by omega⟩
    simp only [muslinlaw12_EntPlain.l0]
    rw [if_neg (by omega), decode_f s (by omega), Option.bind_some, toList_str, toList_lst, if_pos ?_, live_true]
    · rfl
    · exact dec_id (by rw [List.take_of_length_le (by rw [lst_length]; omega)] at hall; exact hall)
  | succ d ih =>
    intro k i hd hi hk hall
    obtain ⟨k, rfl⟩ : ∃ m, k = m + 1 := ⟨k - 1, by omega⟩
    obtain ⟨c, hc, hbt⟩ := bt_at s i (by omega)
    simp only [muslinlaw12_EntPlain.l0]
    rw [if_pos (by omega), if_pos (by omega), hbt]
    by_cases hx : c = 38
    · subst hx
      rw [if_pos (show ((38 : UInt8).toNat : Int) = 38 from rfl), decode_f s (by omega), Option.bind_some, if_pos ?_, live_true]
      · rfl
      · rw [str_size]
        have := dec_le (lst s)
        rw [lst_length] at this
        omega
    · rw [if_neg (by intro e; exact hx (toNat_of (n := 38) (by omega) e)), wrap_i (by omega) (by omega)]
      refine ih k (i + 1) (by omega) (by omega) (by omega) ?_
      intro x hxm
      rw [List.take_add_one, hc] at hxm
      rcases List.mem_append.1 hxm with hxm | hxm
      · exact hall x hxm
      · simp at hxm; rw [hxm]; exact hx

theorem EntPlain : muslinlaw12_EntPlain.Pure := by
  intro s hs
  unfold muslinlaw12_EntPlain.f
  by_cases h : (s.size : Int) ≤ 5000
  · refine ⟨s.size + 1, ?_⟩
    rw [short_law s h, Option.bind_some, if_pos rfl]
    exact plain_loop s (by omega) s.size (s.size + 1) 0 (by omega) (by omega) (by omega) (by simp)
  · refine ⟨0, ?_⟩
    rw [long_law (p := True) s h, Option.bind_some, if_neg (by simp), live_true]; rfl

/-! ### EntWrites -/
theorem write_f (s : ByteArray) (q : Bool) (h : s.size ≤ 1000000) : muslinref12_write.f s q = some (str (wr q (lst s))) := by unfold muslinref12_write.f; rw [if_pos h]

theorem EntWrites : muslinlaw12_EntWrites.Pure := by
  intro s hs
  unfold muslinlaw12_EntWrites.f muslinref12_Text.f muslinref12_Value.f
  by_cases h : (s.size : Int) ≤ 5000
  · rw [short_law s h, Option.bind_some, if_pos rfl, text_f s (by omega), write_f s false (by omega), write_f s true (by omega), value_f s (by omega)]
    simp only [Option.bind_some, if_true, live_true]
  · rw [long_law (p := True) s h, Option.bind_some, if_neg (by simp), live_true]; rfl

/-! ### EntDecodes -/
theorem one_drop {r t after : Bs} (h : one r = some (t, after)) : ∃ u x, r = u ++ x :: after := by
  unfold one at h
  split at h
  · cases h
  · rename_i x a hd
    simp only [Option.map_eq_some_iff, Prod.mk.injEq] at h
    obtain ⟨s, hs, rfl, rfl⟩ := h
    exact ⟨r.takeWhile (· != 59), x, by rw [← hd, List.takeWhile_append_dropWhile]⟩

def nums (l : Bs) : List Int := l.map fun b => (b.toNat : Int)
theorem nums_append (a b : Bs) : nums (a ++ b) = nums a ++ nums b := List.map_append
theorem bytesOf_str (l : Bs) : bytesOf (str l) = nums l := by unfold bytesOf str nums; simp
theorem nums_length (l : Bs) : (nums l).length = l.length := List.length_map _
theorem strOfNums_nums (l : Bs) : strOfNums (nums l) = str l := Go.Lib.Lz.strOfNums_map l

theorem lst_tail (s : ByteArray) (i : Nat) : lst (s.extract i s.size) = (lst s).drop i := by
  rw [Repx.lst_extract]
  exact List.take_of_length_le (by rw [List.length_drop, lst_length]; omega)

theorem decode_loop (s : ByteArray) (hs : s.size ≤ 5000) (d : Nat) : ∀ (k i : Nat) (acc : Bs), s.size - i ≤ d → i ≤ s.size → d < k → acc.length + (s.size - i) ≤ 100000 →
    muslinref12_Decode.l0 k s (nums acc) (i : Int) = some (str (acc ++ dec ((lst s).drop i))) := by
  induction d with
  | zero =>
    intro k i acc hd hi hk ha
    obtain ⟨k, rfl⟩ : ∃ m, k = m + 1 := ⟨k - 1, by omega⟩
    simp only [muslinref12_Decode.l0]
    rw [if_neg (by omega), List.drop_eq_nil_of_le (by rw [lst_length]; omega), dec_nil, List.append_nil, strOfNums_nums]
  | succ d ih =>
    intro k i acc hd hi hk ha
    obtain ⟨k, rfl⟩ : ∃ m, k = m + 1 := ⟨k - 1, by omega⟩
    simp only [muslinref12_Decode.l0]
    by_cases hlt : i < s.size
    · obtain ⟨c, r, hdrop, hc, hr⟩ := Repx.drop_at s i hlt
      obtain ⟨c', hc', hbt⟩ := bt_at s i hlt
      have hcc : c' = c := by
        have : (lst s)[i]? = some c := by rw [← List.head?_drop, hdrop]; rfl
        rw [hc'] at this; exact Option.some.inj this
      subst hcc
      rw [if_pos (by omega), if_pos (by omega), if_pos (by omega), show ((i : Int)).toNat = i from Int.toNat_natCast i, one_f _ (by simp; omega), Option.bind_some, lst_tail, hdrop]
      have hlen : (c' :: r).length = s.size - i := by rw [← hdrop, List.length_drop, lst_length]
      have stepOne : dec (c' :: r) = c' :: dec r → OneE.oneF (c' :: r) = ([], 0) → (if (OneE.oneF (c' :: r)).2 = 0 then (if (nums acc).length < 140737488355328 then (muslinref12_Decode.l0 k s (nums acc ++ [bt s i]) (wrap64 ((i : Int) + 1))) else (none)) else
          (if (nums acc).length + (str (OneE.oneF (c' :: r)).1).size < 140737488355328 then (muslinref12_Decode.l0 k s (nums acc ++ bytesOf (str (OneE.oneF (c' :: r)).1)) (wrap64 ((i : Int) + (OneE.oneF (c' :: r)).2))) else (none))) = some (str (acc ++ dec (c' :: r))) := fun h1 h2 => by
        rw [h2, if_pos rfl, nums_length, if_pos (by omega), wrap_i (by omega) (by omega), hbt, h1]
        have := ih k (i + 1) (acc ++ [c']) (by omega) (by omega) (by omega) (by simp; omega)
        rw [nums_append, ← hr, List.append_assoc] at this
        exact this
      by_cases hx : c' = 38
      · subst hx
        cases ho : one r with
        | none =>
          refine stepOne (dec_none ho) ?_
          rw [OneE.oneF_amp, ← one_eq, ho]
        | some p =>
          obtain ⟨t, after⟩ := p
          obtain ⟨u, x, hu⟩ := one_drop ho
          have hle := one_le ho
          have hlr : r.length = u.length + 1 + after.length := by rw [hu]; simp; omega
          have hn : OneE.oneF (38 :: r) = (t, ((u.length + 2 : Nat) : Int)) := by
            rw [OneE.oneF_amp, ← one_eq, ho]
            simp only [Prod.mk.injEq, true_and, List.length_cons]
            omega
          have hsz : s.size - i = u.length + 2 + after.length := by rw [← hlen]; simp; omega
          have hda : (lst s).drop (i + (u.length + 2)) = after := by
            rw [← List.drop_drop, hdrop, hu]
            have : ∀ (a : Bs) (y : UInt8) (b : Bs), (38 :: (a ++ y :: b)).drop (a.length + 2) = b := fun a y b => by simp
            exact this u x after
          rw [hn]
          simp only []
          rw [if_neg (by omega), nums_length, str_size, if_pos (by omega), bytesOf_str, ← nums_append, wrap_i (by omega) (by omega), dec_some ho]
          have := ih k (i + (u.length + 2)) (acc ++ t) (by omega) (by omega) (by omega) (by simp; omega)
          rw [hda, List.append_assoc] at this
          rw [show (i : Int) + ((u.length + 2 : Nat) : Int) = ((i + (u.length + 2) : Nat) : Int) by omega]
          exact this
      · exact stepOne (dec_plain r hx) (OneE.oneF_other r hx)
    · rw [if_neg (by omega), List.drop_eq_nil_of_le (by rw [lst_length]; omega), dec_nil, List.append_nil, strOfNums_nums]

theorem EntDecodes : muslinlaw12_EntDecodes.Pure := by
  intro s hs
  refine ⟨s.size + 1, ?_⟩
  unfold muslinlaw12_EntDecodes.f
  by_cases h : (s.size : Int) ≤ 5000
  · have hl := decode_loop s (by omega) s.size (s.size + 1) 0 [] (by omega) (by omega) (by omega) (by simp; omega)
    have hd : muslinref12_Decode.f (s.size + 1) s = some (str (dec (lst s))) := hl
    rw [short_law s h, Option.bind_some, if_pos rfl, decode_f s (by omega), Option.bind_some, hd, Option.bind_some, if_pos rfl, live_true]
    rfl
  · rw [long_law (p := True) s h, Option.bind_some, if_neg (by simp), live_true]; rfl

/-! ### EntSafe -/
theorem safe_value (t : Bs) (hno : ∀ x ∈ t, x ≠ 60 ∧ x ≠ 62 ∧ x ≠ 34) (hl : t.length ≤ 1000000) (d : Nat) : ∀ (k i : Nat), t.length - i ≤ d → i ≤ t.length → d < k → muslinlaw12_EntSafe.l1 k (str t) (i : Int) = some true := by
  induction d with
  | zero =>
    intro k i hd hi hk
    obtain ⟨k, rfl⟩ : ∃ m, k = m + 1 := ⟨k - 1, by omega⟩
    simp only [muslinlaw12_EntSafe.l1]
    rw [if_neg (by rw [str_size]; omega), live_true]; rfl
  | succ d ih =>
    intro k i hd hi hk
    obtain ⟨k, rfl⟩ : ∃ m, k = m + 1 := ⟨k - 1, by omega⟩
    simp only [muslinlaw12_EntSafe.l1]
    by_cases hlt : i < t.length
    · obtain ⟨c, hc, hbt⟩ := bt_at (str t) i (by rw [str_size]; exact hlt)
      rw [lst_str] at hc
      obtain ⟨n1, n2, n3⟩ := hno c (List.mem_of_getElem? hc)
      rw [if_pos (by rw [str_size]; omega), if_pos (by omega), hbt, if_neg (by intro e; exact n1 (toNat_of (n := 60) (by omega) e)), if_neg (by intro e; exact n2 (toNat_of (n := 62) (by omega) e)), if_neg (by intro e; exact n3 (toNat_of (n := 34) (by omega) e)), wrap_i (by omega) (by omega)]
      exact ih k (i + 1) (by omega) (by omega) (by omega)
    · rw [if_neg (by rw [str_size]; omega), live_true]; rfl

theorem safe_text (t v : Bs) (hno : ∀ x ∈ t, x ≠ 60 ∧ x ≠ 62) (ham : AmpOk t) (hl : t.length ≤ 1000000) (hv : ∀ x ∈ v, x ≠ 60 ∧ x ≠ 62 ∧ x ≠ 34) (hvl : v.length ≤ 1000000) (d : Nat) :
    ∀ (k i : Nat), t.length - i ≤ d → i ≤ t.length → 2 * d + v.length + 2 < k → muslinlaw12_EntSafe.l0 k (str t) (str v) (i : Int) = some true := by
  have out : ∀ (k i : Nat), ¬ i < t.length → v.length + 2 < k → muslinlaw12_EntSafe.l0 k (str t) (str v) (i : Int) = some true := fun k i hi hk => by
    obtain ⟨k, rfl⟩ : ∃ m, k = m + 1 := ⟨k - 1, by omega⟩
    simp only [muslinlaw12_EntSafe.l0]
    rw [if_neg (by rw [str_size]; omega)]
    exact safe_value v hv hvl v.length k 0 (by omega) (by omega) (by omega)
  induction d with
  | zero => intro k i hd hi hk; exact out k i (by omega) (by omega)
  | succ d ih =>
    intro k i hd hi hk
    by_cases hlt : i < t.length
    · obtain ⟨k, rfl⟩ : ∃ m, k = m + 1 + 1 := ⟨k - 2, by omega⟩
      obtain ⟨c, hc, hbt⟩ := bt_at (str t) i (by rw [str_size]; exact hlt)
      rw [lst_str] at hc
      obtain ⟨n1, n2⟩ := hno c (List.mem_of_getElem? hc)
      have next := ih k (i + 1) (by omega) (by omega) (by omega)
      have hw : wrap64 ((i : Int) + 1) = ((i + 1 : Nat) : Int) := by rw [wrap_i (by omega) (by omega)]; omega
      have e62 : ((c.toNat : Int) == 62) = false := beq_eq_false_iff_ne.2 (fun e => n2 (toNat_of (n := 62) (by omega) e))
      simp only [muslinlaw12_EntSafe.l0, muslinlaw12_EntSafe.j1]
      rw [if_pos (by rw [str_size]; omega), if_pos (by omega), hbt, if_neg (by intro e; exact n1 (toNat_of (n := 60) (by omega) e)), e62, if_neg (by simp), if_pos (by omega), if_pos (by rw [str_size]; omega)]
      by_cases hx : c = 38
      · subst hx
        have hdrop : t.drop i = 38 :: t.drop (i + 1) := by
          rw [List.getElem?_eq_some_iff] at hc
          obtain ⟨hi', he⟩ := hc
          rw [List.drop_eq_getElem_cons hi', he]
        have hsome := ham (t.take i) (t.drop (i + 1)) (by rw [← hdrop, List.take_append_drop])
        obtain ⟨⟨a, after⟩, ho⟩ := Option.isSome_iff_exists.1 hsome
        have hon := one_length ho
        rw [if_pos (show ((38 : UInt8).toNat : Int) = 38 from rfl), if_pos (by rw [str_size]; omega), show ((i : Int)).toNat = i from Int.toNat_natCast i, one_f _ (by simp [str_size]; omega), Option.bind_some, lst_tail, lst_str, hdrop, OneE.oneF_amp, ← one_eq, ho]
        simp only [List.length_cons]
        rw [if_neg (by omega), hw]
        exact next
      · rw [if_neg (by intro e; exact hx (toNat_of (n := 38) (by omega) e)), hw]
        exact next
    · exact out k i hlt (by omega)

theorem EntSafe : muslinlaw12_EntSafe.Pure := by
  intro s hs
  unfold muslinlaw12_EntSafe.f
  by_cases h : (s.size : Int) ≤ 5000
  · have h1 := wr_size false s (by omega)
    have h2 := wr_size true s (by omega)
    rw [str_size] at h1 h2
    refine ⟨2 * (wr false (lst s)).length + (wr true (lst s)).length + 3, ?_⟩
    rw [short_law s h, Option.bind_some, if_pos rfl, text_f s (by omega), Option.bind_some, value_f s (by omega), Option.bind_some]
    exact safe_text _ _ (fun x hx => ⟨(wr_no false _ x hx).1, (wr_no false _ x hx).2.1⟩) (ampOk_wr false _) h1 (fun x hx => ⟨(wr_no true _ x hx).1, (wr_no true _ x hx).2.1, (wr_no true _ x hx).2.2 rfl⟩) h2 (wr false (lst s)).length _ 0 (by omega) (by omega) (by omega)
  · refine ⟨0, ?_⟩
    rw [long_law (p := True) s h, Option.bind_some, if_neg (by simp), live_true]; rfl
end Go.Proofs.YtagbehhggpepfaaGreatDoor.Pure
