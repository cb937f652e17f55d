/- The plain functions that layer 12 (references) comes to, over lists of bytes, and the laws between them: no program in sight. Conditions: none. The laws between the plain functions of layer 12: reading by the first sign that ends a reference and reading by the longest run of a name's signs are one; what is written is read; and their kin. Conditions: none. -/
import Derived.Lib.IndexMore
import Derived.Lib.Replace
import Derived.Lib.RuneBytes
namespace Go.Proofs.YtagbehhggpepfaaGreatDoor.Ent
abbrev Bs := List UInt8

/-! ### numbers -/
def hexv (c : UInt8) : Option Nat :=
  if 48 ≤ c.toNat ∧ c.toNat ≤ 57 then some (c.toNat - 48)
  else if 65 ≤ c.toNat ∧ c.toNat ≤ 70 then some (c.toNat - 55)
  else if 97 ≤ c.toNat ∧ c.toNat ≤ 102 then some (c.toNat - 87) else none

/-- The number that digits add to one. -/
def numB (base : Nat) : Nat → Bs → Option Nat
  | n, [] => some n
  | n, c :: r => match hexv c with
    | some d => if d < base then numB base (n * base + d) r else none
    | none => none

def digs (base most : Nat) (l : Bs) : Option Nat := if l = [] ∨ most < l.length then none else numB base 0 l

def highs : List Int := [8364, 129, 8218, 402, 8222, 8230, 8224, 8225, 710, 8240, 352, 8249, 338, 141, 381, 143, 144, 8216, 8217, 8220, 8221, 8226, 8211, 8212, 732, 8482, 353, 8250, 339, 157, 382, 376]

/-- The sign of a number. -/
def numS (n : Nat) : Bs :=
  if n = 0 then [239, 191, 189]
  else if 128 ≤ n ∧ n ≤ 159 then Lib.encodeRune (highs.getD (n - 128) 0)
  else Lib.encodeRune n

/-! ### names -/
def names : List (Bs × Int) := [([97, 109, 112], 38), ([97, 112, 111, 115], 39), ([99, 111, 112, 121], 169), ([101, 117, 114, 111], 8364), ([103, 116], 62), ([104, 101, 108, 108, 105, 112], 8230), ([108, 100, 113, 117, 111], 8220), ([108, 115, 113, 117, 111], 8216), ([108, 116], 60), ([109, 100, 97, 115, 104], 8212), ([110, 98, 115, 112], 160), ([110, 100, 97, 115, 104], 8211), ([113, 117, 111, 116], 34), ([114, 100, 113, 117, 111], 8221), ([114, 101, 103], 174), ([114, 115, 113, 117, 111], 8217)]

def named (t : Bs) : Option Bs := (names.lookup t).map Lib.encodeRune

/-- What stands between a reference's signs: a number's digits, with their base. -/
def digitsOf (num : Bs) : Option Nat :=
  match num with
  | c :: r => if c ||| 32 = 120 then digs 16 6 r else digs 10 7 (c :: r)
  | [] => none

def sign (t : Bs) : Option Bs :=
  match t with
  | c :: num => if c = 35 then (digitsOf num).map numS else named (c :: num)
  | [] => none

/-! ### reading -/
/-- Behind the sign that begins a reference: its sign, and what is behind it. -/
def one (r : Bs) : Option (Bs × Bs) :=
  match r.dropWhile (· != 59) with
  | [] => none
  | _ :: after => (sign (r.takeWhile (· != 59))).map fun t => (t, after)

theorem dropWhile_length_le (p : UInt8 → Bool) (l : Bs) : (l.dropWhile p).length ≤ l.length := by
  induction l with
  | nil => simp
  | cons c l ih => rw [List.dropWhile_cons]; split <;> simp <;> omega

theorem one_length {r t after : Bs} (h : one r = some (t, after)) : after.length < r.length := by
  unfold one at h
  have hl := dropWhile_length_le (· != 59) r
  split at h
  · cases h
  · rename_i hd
    rw [hd] at hl
    simp only [Option.map_eq_some_iff, Prod.mk.injEq] at h
    obtain ⟨_, _, _, rfl⟩ := h
    simp at hl
    omega

def dec : Bs → Bs
  | [] => []
  | c :: r =>
    if c = 38 then
      match _h : one r with
      | some (t, after) => t ++ dec after
      | none => 38 :: dec r
    else c :: dec r
termination_by l => l.length
decreasing_by
  · have := one_length _h; simp; omega
  · simp
  · simp

theorem dec_nil : dec [] = [] := by rw [dec]
theorem dec_plain {c : UInt8} (r : Bs) (h : c ≠ 38) : dec (c :: r) = c :: dec r := by rw [dec, if_neg h]
theorem dec_some {r t after : Bs} (h : one r = some (t, after)) : dec (38 :: r) = t ++ dec after := by
  rw [dec, if_pos rfl]
  split
  · rename_i t' a' h'
    rw [h] at h'
    cases h'
    rfl
  · rename_i h'
    rw [h] at h'
    cases h'
theorem dec_none {r : Bs} (h : one r = none) : dec (38 :: r) = 38 :: dec r := by
  rw [dec, if_pos rfl]
  split
  · rename_i t' a' h'
    rw [h] at h'
    cases h'
  · rfl

/-! ### the document's reading -/
def refC (c : UInt8) : Bool := (97 ≤ c.toNat && c.toNat ≤ 122) || (65 ≤ c.toNat && c.toNat ≤ 90) || (48 ≤ c.toNat && c.toNat ≤ 57) || c == 35

def signR (t : Bs) : Option Bs :=
  match t with
  | c :: d :: r => if c = 35 then (if d = 120 ∨ d = 88 then digs 16 6 r else digs 10 7 (d :: r)).map numS else named (c :: d :: r)
  | t => named t

def oneR (r : Bs) : Option (Bs × Bs) :=
  match r.dropWhile refC with
  | c :: after => if c = 59 then (signR (r.takeWhile refC)).map fun t => (t, after) else none
  | [] => none

/-! ### writing -/
def esc (q : Bool) (c : UInt8) : Bs :=
  if c = 38 then [38, 97, 109, 112, 59] else if c = 60 then [38, 108, 116, 59] else if c = 62 then [38, 103, 116, 59]
  else if c = 34 ∧ q = true then [38, 113, 117, 111, 116, 59] else [c]

def nbsp : Bs := [38, 110, 98, 115, 112, 59]

def wr (q : Bool) : Bs → Bs
  | [] => []
  | [c] => esc q c
  | c :: d :: r => if c = 194 ∧ d = 160 then nbsp ++ wr q r else esc q c ++ wr q (d :: r)

theorem wr_nil (q : Bool) : wr q [] = [] := by rw [wr]
theorem wr_nbsp (q : Bool) (r : Bs) : wr q (194 :: 160 :: r) = nbsp ++ wr q r := by rw [wr, if_pos ⟨rfl, rfl⟩]
theorem wr_cons (q : Bool) (c : UInt8) (r : Bs) (h : ¬ (c = 194 ∧ r.head? = some 160)) : wr q (c :: r) = esc q c ++ wr q r := by
  cases r with
  | nil => rw [wr, wr, List.append_nil]
  | cons d r => rw [wr, if_neg (by simpa using h)]

/-- Induction along what is written. -/
theorem wr_ind (q : Bool) (P : Bs → Bs → Prop) (h0 : P [] []) (hn : ∀ r, P r (wr q r) → P (194 :: 160 :: r) (nbsp ++ wr q r))
    (hc : ∀ c r, ¬ (c = 194 ∧ r.head? = some 160) → P r (wr q r) → P (c :: r) (esc q c ++ wr q r)) : ∀ l, P l (wr q l)
  | [] => by rw [wr_nil]; exact h0
  | c :: r => by
    by_cases h : c = 194 ∧ r.head? = some 160
    · obtain ⟨rfl, h⟩ := h
      cases r with
      | nil => cases h
      | cons d r =>
        obtain rfl : d = 160 := by simpa using h
        rw [wr_nbsp]
        exact hn r (wr_ind q P h0 hn hc r)
    · rw [wr_cons q c r h]
      exact hc c r h (wr_ind q P h0 hn hc r)
termination_by l => l.length
end Go.Proofs.YtagbehhggpepfaaGreatDoor.Ent
namespace Go.Proofs.YtagbehhggpepfaaGreatDoor.Ent

/-! ### the two ways of reading are one -/
theorem takeWhile_congr {p q : UInt8 → Bool} {l : Bs} (h : ∀ c ∈ l.takeWhile p, q c = true) (h' : ∀ c, p c = false → q c = false) : l.takeWhile q = l.takeWhile p := by
  induction l with
  | nil => rfl
  | cons c l ih =>
    rw [List.takeWhile_cons, List.takeWhile_cons]
    cases hp : p c with
    | true =>
      have hc : q c = true := h c (by rw [List.takeWhile_cons, hp]; simp)
      rw [hc]
      simp only [if_true]
      rw [ih (fun d hd => h d (by rw [List.takeWhile_cons, hp]; simp [hd]))]
    | false => rw [h' c hp]; simp

theorem drop_of_take {p q : UInt8 → Bool} {l : Bs} (h : l.takeWhile q = l.takeWhile p) : l.dropWhile q = l.dropWhile p := by
  induction l with
  | nil => rfl
  | cons c l ih =>
    rw [List.takeWhile_cons, List.takeWhile_cons] at h
    rw [List.dropWhile_cons, List.dropWhile_cons]
    cases hp : p c <;> cases hq : q c <;> simp [hp, hq] at h ⊢
    exact ih h

theorem hexv_ref {c : UInt8} {d : Nat} (h : hexv c = some d) : refC c = true := by
  unfold hexv at h
  unfold refC
  split at h
  · rename_i hc; simp; omega
  · split at h
    · rename_i hc; simp; omega
    · split at h
      · rename_i hc; simp; omega
      · cases h

theorem numB_ref {base : Nat} : ∀ {l : Bs} {n m : Nat}, numB base n l = some m → ∀ c ∈ l, refC c = true
  | [], _, _, _ => by simp
  | c :: r, n, m, h => by
    unfold numB at h
    split at h
    · rename_i d hd
      split at h
      · intro x hx
        rcases List.mem_cons.1 hx with rfl | hx
        · exact hexv_ref hd
        · exact numB_ref h x hx
      · cases h
    · cases h

theorem digs_ref {base most : Nat} {l : Bs} {m : Nat} (h : digs base most l = some m) : ∀ c ∈ l, refC c = true := by
  unfold digs at h
  split at h
  · cases h
  · exact numB_ref h

theorem lookup_mem {t : Bs} {v : Int} : ∀ {l : List (Bs × Int)}, l.lookup t = some v → (t, v) ∈ l
  | [], h => by cases h
  | (a, b) :: l, h => by
    rw [List.lookup_cons] at h
    split at h
    · rename_i e
      cases h
      have : t = a := by simpa using e
      subst this
      exact List.mem_cons_self
    · exact List.mem_cons_of_mem _ (lookup_mem h)

theorem named_ref {t s : Bs} (h : named t = some s) : ∀ c ∈ t, refC c = true := by
  unfold named at h
  simp only [Option.map_eq_some_iff] at h
  obtain ⟨v, hv, _⟩ := h
  have hm := lookup_mem hv
  have hall : ∀ p ∈ names, ∀ c ∈ p.1, refC c = true := by decide
  exact hall _ hm

theorem sign_ref {t s : Bs} (h : sign t = some s) : ∀ c ∈ t, refC c = true := by
  unfold sign at h
  split at h
  · rename_i c num
    split at h
    · rename_i hc
      subst hc
      simp only [Option.map_eq_some_iff] at h
      obtain ⟨n, hn, _⟩ := h
      unfold digitsOf at hn
      split at hn
      · rename_i c r
        split at hn
        · rename_i hx
          intro x hxm
          rcases List.mem_cons.1 hxm with rfl | hxm
          · rfl
          · rcases List.mem_cons.1 hxm with rfl | hxm
            · have key : ∀ n : Nat, n < 256 → UInt8.ofNat n ||| 32 = 120 → refC (UInt8.ofNat n) = true := by decide +kernel
              have := key x.toNat x.toNat_lt
              rw [UInt8.ofNat_toNat] at this
              exact this hx
            · exact digs_ref hn x hxm
        · intro x hxm
          rcases List.mem_cons.1 hxm with rfl | hxm
          · rfl
          · exact digs_ref hn x hxm
      · cases hn
    · exact named_ref h
  · cases h

theorem sign_eq (t : Bs) : sign t = signR t := by
  unfold sign signR
  split
  · rename_i c num
    cases num with
    | nil =>
      by_cases hc : c = 35
      · subst hc; decide
      · simp [hc]
    | cons d r =>
      by_cases hc : c = 35
      · subst hc
        simp only [if_true, digitsOf]
        have key : ∀ n : Nat, n < 256 → ((UInt8.ofNat n ||| 32 = 120) ↔ (UInt8.ofNat n = 120 ∨ UInt8.ofNat n = 88)) := by decide +kernel
        have hx := key d.toNat d.toNat_lt
        rw [UInt8.ofNat_toNat] at hx
        simp only [hx]
      · simp [hc]
  · decide

theorem one_eq (r : Bs) : one r = oneR r := by
  have hsemi : refC 59 = false := by decide
  by_cases ht : (oneR r).isSome
  · obtain ⟨⟨t, after⟩, h⟩ := Option.isSome_iff_exists.1 ht
    rw [h]
    unfold oneR at h
    split at h
    · rename_i c a hd
      split at h
      · rename_i hc
        subst hc
        have hall : ∀ c ∈ r.takeWhile refC, (c != 59) = true := fun c hc => by
          have hp : refC c = true := List.all_eq_true.1 List.all_takeWhile c hc
          simp only [bne_iff_ne, ne_eq]
          rintro rfl
          rw [hsemi] at hp
          cases hp
        -- up to the first ';'
        have key : r.takeWhile (· != 59) = r.takeWhile refC ∧ r.dropWhile (· != 59) = 59 :: a := by
          have e : r = r.takeWhile refC ++ 59 :: a := by rw [← hd, List.takeWhile_append_dropWhile]
          generalize r.takeWhile refC = u at hall e
          subst e
          constructor
          · rw [List.takeWhile_append_of_pos hall]; simp
          · rw [List.dropWhile_append_of_pos hall]; simp
        unfold one
        rw [key.1, key.2]
        simp only [sign_eq]
        exact h
      · cases h
    · cases h
  · simp only [Option.not_isSome_iff_eq_none] at ht
    rw [ht]
    cases ho : one r with
    | none => rfl
    | some p =>
      exfalso
      obtain ⟨t, after⟩ := p
      unfold one at ho
      split at ho
      · cases ho
      · rename_i x a hd
        simp only [Option.map_eq_some_iff, Prod.mk.injEq] at ho
        obtain ⟨s, hs, rfl, rfl⟩ := ho
        have hx : x = 59 := by
          have := List.head?_dropWhile_not (· != 59) r
          rw [hd] at this
          simpa using this
        subst hx
        have hall := sign_ref hs
        have key : r.takeWhile refC = r.takeWhile (· != 59) ∧ r.dropWhile refC = 59 :: a := by
          have e : r = r.takeWhile (· != 59) ++ 59 :: a := by rw [← hd, List.takeWhile_append_dropWhile]
          generalize r.takeWhile (· != 59) = u at hall e
          subst e
          constructor
          · rw [List.takeWhile_append_of_pos hall]; simp [hsemi]
          · rw [List.dropWhile_append_of_pos hall]; simp [hsemi]
        unfold oneR at ht
        rw [key.2] at ht
        simp only [if_true, key.1, ← sign_eq, hs] at ht
        cases ht

/-! ### back -/
theorem one_lit (t s : Bs) (r : Bs) (h : ∀ c ∈ t, (c != 59) = true) (hs : sign t = some s) : one (t ++ 59 :: r) = some (s, r) := by
  unfold one
  rw [List.takeWhile_append_of_pos h, List.dropWhile_append_of_pos h]
  simp [hs]

theorem one_amp (r : Bs) : one (97 :: 109 :: 112 :: 59 :: r) = some ([38], r) := one_lit [97, 109, 112] [38] r (by decide) (by decide)
theorem one_lt (r : Bs) : one (108 :: 116 :: 59 :: r) = some ([60], r) := one_lit [108, 116] [60] r (by decide) (by decide)
theorem one_gt (r : Bs) : one (103 :: 116 :: 59 :: r) = some ([62], r) := one_lit [103, 116] [62] r (by decide) (by decide)
theorem one_quot (r : Bs) : one (113 :: 117 :: 111 :: 116 :: 59 :: r) = some ([34], r) := one_lit [113, 117, 111, 116] [34] r (by decide) (by decide)
theorem one_nbsp (r : Bs) : one (110 :: 98 :: 115 :: 112 :: 59 :: r) = some ([194, 160], r) := one_lit [110, 98, 115, 112] [194, 160] r (by decide) (by decide)

theorem dec_esc (q : Bool) (c : UInt8) (r : Bs) : dec (esc q c ++ r) = c :: dec r := by
  unfold esc
  split
  · rename_i h; subst h; exact (dec_some (one_amp r)).trans rfl
  · split
    · rename_i h; subst h; exact (dec_some (one_lt r)).trans rfl
    · split
      · rename_i h; subst h; exact (dec_some (one_gt r)).trans rfl
      · split
        · rename_i h; obtain ⟨rfl, _⟩ := h; exact (dec_some (one_quot r)).trans rfl
        · rename_i h _ _ _; exact dec_plain r h

theorem dec_nbsp (r : Bs) : dec (nbsp ++ r) = 194 :: 160 :: dec r := (dec_some (one_nbsp r)).trans rfl

theorem dec_wr (q : Bool) (l : Bs) : dec (wr q l) = l :=
  wr_ind q (fun l t => dec t = l) dec_nil (fun r h => by rw [dec_nbsp, h]) (fun c r _ h => by rw [dec_esc, h]) l

theorem wr_inj (q : Bool) {a b : Bs} (h : wr q a = wr q b) : a = b := by rw [← dec_wr q a, ← dec_wr q b, h]

/-! ### safe -/
theorem esc_no (q : Bool) (c x : UInt8) (hx : x ∈ esc q c) : x ≠ 60 ∧ x ≠ 62 ∧ (q = true → x ≠ 34) := by
  unfold esc at hx
  split at hx
  · simp at hx; rcases hx with rfl | rfl | rfl | rfl | rfl <;> simp
  · split at hx
    · simp at hx; rcases hx with rfl | rfl | rfl | rfl <;> simp
    · split at hx
      · simp at hx; rcases hx with rfl | rfl | rfl | rfl <;> simp
      · split at hx
        · simp at hx; rcases hx with rfl | rfl | rfl | rfl | rfl | rfl <;> simp
        · rename_i h1 h2 h3 h4
          obtain rfl : x = c := by simpa using hx
          exact ⟨h2, h3, fun hq e => h4 ⟨e, hq⟩⟩

theorem wr_no (q : Bool) (l : Bs) : ∀ x ∈ wr q l, x ≠ 60 ∧ x ≠ 62 ∧ (q = true → x ≠ 34) :=
  wr_ind q (fun _ t => ∀ x ∈ t, x ≠ 60 ∧ x ≠ 62 ∧ (q = true → x ≠ 34)) (by simp)
    (fun r h x hx => by
      rcases List.mem_append.1 hx with hx | hx
      · simp [nbsp] at hx; rcases hx with rfl | rfl | rfl | rfl | rfl | rfl <;> simp
      · exact h x hx)
    (fun c r _ h x hx => by
      rcases List.mem_append.1 hx with hx | hx
      · exact esc_no q c x hx
      · exact h x hx) l

/-- Each sign of a reference begins one. -/
def AmpOk (t : Bs) : Prop := ∀ u r, t = u ++ 38 :: r → (one r).isSome = true

theorem AmpOk.plain {c : UInt8} {t : Bs} (hc : c ≠ 38) (h : AmpOk t) : AmpOk (c :: t) := by
  intro u r e
  cases u with
  | nil => simp at e; exact absurd e.1 hc
  | cons d u => simp at e; exact h u r e.2

theorem AmpOk.amp {t : Bs} (h1 : (one t).isSome = true) (h : AmpOk t) : AmpOk (38 :: t) := by
  intro u r e
  cases u with
  | nil => simp at e; rw [← e]; exact h1
  | cons d u => simp at e; exact h u r e.2

theorem AmpOk.many {s t : Bs} (hs : ∀ c ∈ s, c ≠ 38) (h : AmpOk t) : AmpOk (s ++ t) := by
  induction s with
  | nil => exact h
  | cons c s ih => exact AmpOk.plain (hs c List.mem_cons_self) (ih fun d hd => hs d (List.mem_cons_of_mem _ hd))

theorem ampOk_esc (q : Bool) (c : UInt8) {t : Bs} (h : AmpOk t) : AmpOk (esc q c ++ t) := by
  unfold esc
  split
  · exact AmpOk.amp (by show (one (_)).isSome = true; exact (congrArg Option.isSome (one_amp _)).trans rfl) (AmpOk.many (s := [97, 109, 112, 59]) (by decide) h)
  · split
    · exact AmpOk.amp (by show (one (_)).isSome = true; exact (congrArg Option.isSome (one_lt _)).trans rfl) (AmpOk.many (s := [108, 116, 59]) (by decide) h)
    · split
      · exact AmpOk.amp (by show (one (_)).isSome = true; exact (congrArg Option.isSome (one_gt _)).trans rfl) (AmpOk.many (s := [103, 116, 59]) (by decide) h)
      · split
        · exact AmpOk.amp (by show (one (_)).isSome = true; exact (congrArg Option.isSome (one_quot _)).trans rfl) (AmpOk.many (s := [113, 117, 111, 116, 59]) (by decide) h)
        · rename_i h1 _ _ _
          exact AmpOk.plain h1 h

theorem ampOk_wr (q : Bool) (l : Bs) : AmpOk (wr q l) :=
  wr_ind q (fun _ t => AmpOk t) (fun u r e => by cases u <;> simp at e)
    (fun r h => AmpOk.amp (by show (one (_)).isSome = true; exact (congrArg Option.isSome (one_nbsp _)).trans rfl) (AmpOk.many (s := [110, 98, 115, 112, 59]) (by decide) h))
    (fun c _ _ h => ampOk_esc q c h) l

/-! ### plain -/
theorem dec_id : ∀ {l : Bs}, (∀ c ∈ l, c ≠ 38) → dec l = l
  | [], _ => dec_nil
  | c :: r, h => by rw [dec_plain r (h c List.mem_cons_self), dec_id fun d hd => h d (List.mem_cons_of_mem _ hd)]

theorem encodeRune_le (n : Int) : (Lib.encodeRune n).length ≤ 4 := by
  unfold Lib.encodeRune
  rw [List.length_map]
  exact (Lib.encodeRuneZ_length n).2

theorem sign_len {t s : Bs} (h : sign t = some s) : s.length ≤ 4 ∧ 2 ≤ t.length := by
  unfold sign at h
  split at h
  · rename_i c num
    split at h
    · simp only [Option.map_eq_some_iff] at h
      obtain ⟨n, hn, rfl⟩ := h
      constructor
      · unfold numS
        split
        · simp
        · split <;> exact encodeRune_le _
      · cases num with
        | nil => cases hn
        | cons => simp
    · unfold named at h
      simp only [Option.map_eq_some_iff] at h
      obtain ⟨v, hv, rfl⟩ := h
      refine ⟨encodeRune_le _, ?_⟩
      have hall : ∀ p ∈ names, 2 ≤ p.1.length := by decide
      exact hall _ (lookup_mem hv)
  · cases h

theorem one_le {r t after : Bs} (h : one r = some (t, after)) : t.length + after.length ≤ r.length + 1 := by
  unfold one at h
  split at h
  · cases h
  · rename_i x a hd
    simp only [Option.map_eq_some_iff, Prod.mk.injEq] at h
    obtain ⟨s, hs, rfl, rfl⟩ := h
    have hl := sign_len hs
    have e := congrArg List.length (List.takeWhile_append_dropWhile (p := (· != 59)) (l := r))
    rw [hd, List.length_append, List.length_cons] at e
    omega

theorem dec_le : ∀ (l : Bs), (dec l).length ≤ l.length
  | [] => by rw [dec_nil]; exact Nat.le_refl _
  | c :: r => by
    by_cases hc : c = 38
    · subst hc
      cases h : one r with
      | none => rw [dec_none h]; have := dec_le r; simp; omega
      | some p =>
        obtain ⟨t, after⟩ := p
        have h1 := one_length h
        have h2 := one_le h
        have := dec_le after
        rw [dec_some h, List.length_append, List.length_cons]
        omega
    · rw [dec_plain r hc]; have := dec_le r; simp; omega
termination_by l => l.length

/-! ### joined -/
theorem wr_append (q : Bool) (b : Bs) : ∀ (a : Bs), a.getLast? ≠ some 194 → wr q (a ++ b) = wr q a ++ wr q b
  | [], _ => by rw [wr_nil]; rfl
  | [c], h => by
    have hc : c ≠ 194 := by simpa using h
    rw [List.cons_append, List.nil_append, wr_cons q c b (fun k => hc k.1), wr_cons q c [] (fun k => hc k.1), wr_nil, List.append_nil]
  | c :: d :: r, h => by
    have hr : (d :: r).getLast? ≠ some 194 := by simpa using h
    by_cases hx : c = 194 ∧ d = 160
    · obtain ⟨rfl, rfl⟩ := hx
      have hr' : r.getLast? ≠ some 194 := by
        cases r with
        | nil => simp
        | cons e r => simpa using hr
      rw [List.cons_append, List.cons_append, wr_nbsp, wr_nbsp, wr_append q b r hr', List.append_assoc]
    · rw [List.cons_append, wr_cons q c (d :: r ++ b) (by simpa using hx), wr_cons q c (d :: r) (by simpa using hx), wr_append q b (d :: r) hr, List.append_assoc]
termination_by a => a.length
end Go.Proofs.YtagbehhggpepfaaGreatDoor.Ent
