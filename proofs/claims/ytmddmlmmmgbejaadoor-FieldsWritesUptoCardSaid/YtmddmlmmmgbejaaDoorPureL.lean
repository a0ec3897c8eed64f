/- Plain laws on lists of bytes: what a name or a value says, how it is written, the pieces of a form's text. -/
import Derived.Lib.SplitLaws
import Derived.Lib.Join
namespace Go.Proofs.YtmddmlmmmgbejaaDoor.Pure
open Go
set_option linter.unusedVariables false

/-- A sixteenth's digit. -/
def hexN (c : UInt8) : Option Nat :=
  if 48 ≤ c.toNat ∧ c.toNat ≤ 57 then some (c.toNat - 48) else if 97 ≤ c.toNat ∧ c.toNat ≤ 102 then some (c.toNat - 87) else if 65 ≤ c.toNat ∧ c.toNat ≤ 70 then some (c.toNat - 55) else none
/-- What a name or a value says. -/
def decL : List UInt8 → Option (List UInt8)
  | [] => some []
  | c :: l => if c = 43 then (decL l).map (32 :: ·) else if c = 37 then
      (match l with
       | a :: b :: r => (match hexN a, hexN b with
          | some x, some y => (decL r).map (UInt8.ofNat (x * 16 + y) :: ·)
          | _, _ => none)
       | _ => none)
    else (decL l).map (c :: ·)
theorem decL_nil : decL [] = some [] := by rw [decL.eq_def]
theorem decL_cons (c : UInt8) (l : List UInt8) : decL (c :: l) = if c = 43 then (decL l).map (32 :: ·) else if c = 37 then
      (match l with
       | a :: b :: r => (match hexN a, hexN b with
          | some x, some y => (decL r).map (UInt8.ofNat (x * 16 + y) :: ·)
          | _, _ => none)
       | _ => none)
    else (decL l).map (c :: ·) := by rw [decL.eq_def]
theorem decL_plus (l : List UInt8) : decL (43 :: l) = (decL l).map (32 :: ·) := by rw [decL_cons, if_pos rfl]
theorem decL_code (a b : UInt8) (r : List UInt8) (x y : Nat) (hx : hexN a = some x) (hy : hexN b = some y) : decL (37 :: a :: b :: r) = (decL r).map (UInt8.ofNat (x * 16 + y) :: ·) := by
  rw [decL_cons, if_neg (by decide), if_pos rfl]; simp only [hx, hy]
theorem decL_bad1 (a b : UInt8) (r : List UInt8) (hx : hexN a = none) : decL (37 :: a :: b :: r) = none := by
  rw [decL_cons, if_neg (by decide), if_pos rfl]; simp only [hx]
theorem decL_bad2 (a b : UInt8) (r : List UInt8) (hx : hexN b = none) : decL (37 :: a :: b :: r) = none := by
  rw [decL_cons, if_neg (by decide), if_pos rfl]
  simp only [hx]
  split <;> first | rfl | (rename_i h _; cases h) | (rename_i h; cases h)
theorem decL_short (l : List UInt8) (h : l.length < 2) : decL (37 :: l) = none := by
  rw [decL_cons, if_neg (by decide), if_pos rfl]
  match l, h with
  | [], _ => rfl
  | [a], _ => rfl
theorem decL_same (c : UInt8) (l : List UInt8) (h1 : c ≠ 43) (h2 : c ≠ 37) : decL (c :: l) = (decL l).map (c :: ·) := by rw [decL_cons, if_neg h1, if_neg h2]

/-- A byte that is written as it is. -/
def safeL (c : UInt8) : Bool := (97 ≤ c.toNat && c.toNat ≤ 122) || (65 ≤ c.toNat && c.toNat ≤ 90) || (48 ≤ c.toNat && c.toNat ≤ 57) || c.toNat == 42 || c.toNat == 45 || c.toNat == 46 || c.toNat == 95
def digU (n : Nat) : UInt8 := UInt8.ofNat (if n < 10 then 48 + n else 55 + n)
def codeL (c : UInt8) : List UInt8 := if safeL c then [c] else if c = 32 then [43] else [37, digU (c.toNat / 16), digU (c.toNat % 16)]
def encL (l : List UInt8) : List UInt8 := l.flatMap codeL
theorem all_bytes {p : UInt8 → Prop} (h : ∀ n : Fin 256, p (UInt8.ofNat n.val)) (c : UInt8) : p c := by
  have := h ⟨c.toNat, c.toNat_lt⟩
  rwa [UInt8.ofNat_toNat] at this
theorem codeL_kinds : ∀ c : UInt8, (codeL c = [c] ∧ c ≠ 43 ∧ c ≠ 37 ∧ c ≠ 38 ∧ c ≠ 61) ∨ (codeL c = [43] ∧ c = 32) ∨
    (codeL c = [37, digU (c.toNat / 16), digU (c.toNat % 16)] ∧ hexN (digU (c.toNat / 16)) = some (c.toNat / 16) ∧ hexN (digU (c.toNat % 16)) = some (c.toNat % 16) ∧ digU (c.toNat / 16) ≠ 38 ∧ digU (c.toNat / 16) ≠ 61 ∧ digU (c.toNat % 16) ≠ 38 ∧ digU (c.toNat % 16) ≠ 61) :=
  all_bytes (by decide +kernel)
theorem dec_code (c : UInt8) (r : List UInt8) : decL (codeL c ++ r) = (decL r).map (c :: ·) := by
  rcases codeL_kinds c with ⟨e, h1, h2, _⟩ | ⟨e, h⟩ | ⟨e, hx, hy, _⟩
  · rw [e]; exact decL_same c r h1 h2
  · rw [e, h]; exact decL_plus r
  · rw [e]
    have : UInt8.ofNat (c.toNat / 16 * 16 + c.toNat % 16) = c := by
      rw [show c.toNat / 16 * 16 + c.toNat % 16 = c.toNat by omega, UInt8.ofNat_toNat]
    exact (decL_code _ _ r _ _ hx hy).trans (by rw [this])
theorem dec_enc : ∀ l : List UInt8, decL (encL l) = some l
  | [] => decL_nil
  | c :: l => by
    show decL (codeL c ++ encL l) = _
    rw [dec_code, dec_enc l]; rfl
theorem mem_code (c x : UInt8) (h : x ∈ codeL c) : x ≠ 38 ∧ x ≠ 61 := by
  rcases codeL_kinds c with ⟨e, _, _, h1, h2⟩ | ⟨e, _⟩ | ⟨e, _, _, h1, h2, h3, h4⟩
  · rw [e] at h
    obtain rfl := List.mem_singleton.1 h
    exact ⟨h1, h2⟩
  · rw [e] at h
    obtain rfl := List.mem_singleton.1 h
    exact ⟨by decide, by decide⟩
  · rw [e] at h
    simp only [List.mem_cons, List.mem_nil_iff, or_false] at h
    rcases h with rfl | rfl | rfl
    · exact ⟨by decide, by decide⟩
    · exact ⟨h1, h2⟩
    · exact ⟨h3, h4⟩
theorem mem_enc (l : List UInt8) (x : UInt8) (h : x ∈ encL l) : x ≠ 38 ∧ x ≠ 61 := by
  obtain ⟨c, _, hc⟩ := List.mem_flatMap.1 h
  exact mem_code c x hc
theorem codeL_len (c : UInt8) : (codeL c).length ≤ 3 := by
  rcases codeL_kinds c with ⟨e, _⟩ | ⟨e, _⟩ | ⟨e, _⟩ <;> rw [e] <;> simp
theorem codeL_pos (c : UInt8) : 1 ≤ (codeL c).length := by
  rcases codeL_kinds c with ⟨e, _⟩ | ⟨e, _⟩ | ⟨e, _⟩ <;> rw [e] <;> simp
theorem encL_len : ∀ l : List UInt8, (encL l).length ≤ 3 * l.length
  | [] => Nat.le_refl _
  | c :: l => by
    have h1 := codeL_len c; have h2 := encL_len l
    show (codeL c ++ encL l).length ≤ _
    rw [List.length_append, List.length_cons]; omega
theorem decL_len : ∀ (n : Nat) (l r : List UInt8), l.length ≤ n → decL l = some r → r.length ≤ l.length
  | _, [], r, _, h => by
    rw [decL_nil] at h; cases h; exact Nat.le_refl _
  | 0, c :: l, r, hn, _ => by simp at hn
  | n + 1, c :: l, r, hn, h => by
    have hn' : l.length ≤ n := by simpa using hn
    by_cases c1 : c = 43
    · subst c1
      rw [decL_plus] at h
      obtain ⟨q, hq, rfl⟩ := Option.map_eq_some_iff.1 h
      have := decL_len n l q hn' hq
      simp; omega
    · by_cases c2 : c = 37
      · subst c2
        match l, hn', h with
        | [], _, h => rw [decL_short _ (by simp)] at h; cases h
        | [a], _, h => rw [decL_short _ (by simp)] at h; cases h
        | a :: b :: t, hn', h =>
          cases hx : hexN a with
          | none => rw [decL_bad1 _ _ _ hx] at h; cases h
          | some x =>
            cases hy : hexN b with
            | none => rw [decL_bad2 _ _ _ hy] at h; cases h
            | some y =>
              rw [decL_code _ _ _ _ _ hx hy] at h
              obtain ⟨q, hq, rfl⟩ := Option.map_eq_some_iff.1 h
              have := decL_len n t q (by simp at hn'; omega) hq
              simp; omega
      · rw [decL_same _ _ c1 c2] at h
        obtain ⟨q, hq, rfl⟩ := Option.map_eq_some_iff.1 h
        have := decL_len n l q hn' hq
        simp; omega

/-- The pieces between the marks &. -/
def pcs : List UInt8 → List (List UInt8)
  | [] => [[]]
  | c :: l => if c = 38 then [] :: pcs l else match pcs l with
    | h :: t => (c :: h) :: t
    | [] => [[c]]
theorem pcs_ne : ∀ l, pcs l ≠ []
  | [] => by simp [pcs]
  | c :: l => by
    unfold pcs
    split
    · simp
    · split <;> simp
theorem pcs_amp (l : List UInt8) : pcs (38 :: l) = [] :: pcs l := by rw [pcs, if_pos rfl]
theorem pcs_cons (c : UInt8) (l : List UInt8) (hc : c ≠ 38) : ∃ h t, pcs l = h :: t ∧ pcs (c :: l) = (c :: h) :: t := by
  cases e : pcs l with
  | nil => exact absurd e (pcs_ne l)
  | cons h t => exact ⟨h, t, rfl, by rw [pcs, if_neg hc, e]⟩
theorem pcs_join : ∀ a b : List UInt8, pcs (a ++ 38 :: b) = pcs a ++ pcs b
  | [], b => by rw [List.nil_append, pcs_amp]; rfl
  | c :: a, b => by
    have ih := pcs_join a b
    by_cases hc : c = 38
    · subst hc
      rw [List.cons_append, pcs_amp, ih, pcs_amp]; rfl
    · obtain ⟨h, t, e1, e2⟩ := pcs_cons c a hc
      rw [List.cons_append, pcs, if_neg hc, ih, e1, e2]; rfl
theorem pcs_free : ∀ l : List UInt8, (∀ x ∈ l, x ≠ 38) → pcs l = [l]
  | [], _ => rfl
  | c :: l, h => by
    rw [pcs, if_neg (h c (List.mem_cons_self ..)), pcs_free l (fun x hx => h x (List.mem_cons_of_mem _ hx))]
theorem pcs_len : ∀ l : List UInt8, ((pcs l).map (·.length)).sum + (pcs l).length = l.length + 1
  | [] => rfl
  | c :: l => by
    have ih := pcs_len l
    by_cases hc : c = 38
    · subst hc
      rw [pcs_amp]; simp; omega
    · obtain ⟨h, t, e1, e2⟩ := pcs_cons c l hc
      rw [e1] at ih; rw [e2]
      simp at ih ⊢; omega
/-- strings.Split at & is the pieces. -/
theorem split_pcs : ∀ l : List UInt8, Lib.splitK [38] 0 (Lib.count l [38]) l = pcs l
  | [] => by rw [Lib.count_one]; rfl
  | c :: l => by
    have ih := split_pcs l
    by_cases hc : c = 38
    · subst hc
      have hix : Lib.index (38 :: l) [38] = ((0 : Nat) : Int) := by rw [Lib.index]; simp [List.isPrefixOf]
      rw [Lib.count_cons_eq, Nat.add_comm, Lib.splitK, hix, pcs_amp, ← ih]
      rw [if_neg (by decide)]
      rfl
    · obtain ⟨h, t, e1, e2⟩ := pcs_cons c l hc
      rw [Lib.count_cons_ne c 38 l hc, e2]
      rw [e1] at ih
      have hp : ([38] : List UInt8).isPrefixOf (c :: l) = false := by simp [List.isPrefixOf, Ne.symm hc]
      have hix : Lib.index (c :: l) [38] = if Lib.index l [38] == -1 then -1 else Lib.index l [38] + 1 := by rw [Lib.index, hp]; simp
      generalize Lib.count l [38] = n at *
      cases n with
      | zero =>
        rw [Lib.splitK] at ih ⊢
        cases ih; rfl
      | succ k =>
        rw [Lib.splitK] at ih ⊢
        by_cases hm : Lib.index l [38] = -1
        · rw [hix, hm]
          rw [hm] at ih
          simp only [beq_self_eq_true, if_true] at ih ⊢
          cases ih; rfl
        · have hge := Lib.index_ge l [38]
          obtain ⟨j, hj⟩ : ∃ j : Nat, Lib.index l [38] = j := ⟨(Lib.index l [38]).toNat, by omega⟩
          have hne : ((j : Int) == -1) = false := by rw [beq_eq_false_iff_ne]; omega
          have hne2 : ((j : Int) + 1 == -1) = false := by rw [beq_eq_false_iff_ne]; omega
          rw [hix, hj, hne]
          rw [hj, hne] at ih
          simp only [Bool.false_eq_true, if_false, hne2] at ih ⊢
          rw [show ((j : Int) + 1).toNat = j + 1 by omega]
          rw [Int.toNat_natCast] at ih
          simp only [List.take_succ_cons, List.drop_succ_cons, Nat.add_zero, List.length_cons, List.length_nil] at ih ⊢
          cases ih; rfl
/-- strings.Cut at = . -/
def cutE : List UInt8 → List UInt8 × List UInt8
  | [] => ([], [])
  | c :: l => if c = 61 then ([], l) else (c :: (cutE l).1, (cutE l).2)
theorem cut_cutE : ∀ l : List UInt8, ((Lib.cut l [61]).1, (Lib.cut l [61]).2.1) = cutE l
  | [] => by decide
  | c :: l => by
    have ih := cut_cutE l
    unfold Lib.cut at ih ⊢
    by_cases hc : c = 61
    · subst hc
      have hix : Lib.index (61 :: l) [61] = ((0 : Nat) : Int) := by rw [Lib.index]; simp [List.isPrefixOf]
      rw [hix, cutE, if_pos rfl]; rfl
    · have hp : ([61] : List UInt8).isPrefixOf (c :: l) = false := by simp [List.isPrefixOf, Ne.symm hc]
      have hix : Lib.index (c :: l) [61] = if Lib.index l [61] == -1 then -1 else Lib.index l [61] + 1 := by rw [Lib.index, hp]; simp
      rw [cutE, if_neg hc]
      by_cases hm : Lib.index l [61] = -1
      · rw [hm] at hix ih
        rw [hix, ← ih]
        rfl
      · have hge := Lib.index_ge l [61]
        obtain ⟨j, hj⟩ : ∃ j : Nat, Lib.index l [61] = j := ⟨(Lib.index l [61]).toNat, by omega⟩
        have hne : ((j : Int) == -1) = false := by rw [beq_eq_false_iff_ne]; omega
        rw [hj, hne] at hix
        simp only [Bool.false_eq_true, if_false] at hix
        rw [hj, if_pos (by omega)] at ih
        rw [hix, if_pos (by omega), ← ih]
        rw [show ((j : Int) + 1).toNat = j + 1 by omega, Int.toNat_natCast]
        simp only [List.take_succ_cons, List.length_cons, List.length_nil]
        rw [show j + 1 + (0 + 1) = (j + (0 + 1)) + 1 by omega, List.drop_succ_cons]
theorem cutE_free : ∀ (a b : List UInt8), (∀ x ∈ a, x ≠ 61) → cutE (a ++ 61 :: b) = (a, b)
  | [], b, _ => by rw [List.nil_append, cutE, if_pos rfl]
  | c :: a, b, h => by
    rw [List.cons_append, cutE, if_neg (h c (List.mem_cons_self ..)), cutE_free a b (fun x hx => h x (List.mem_cons_of_mem _ hx))]
theorem cutE_len : ∀ l : List UInt8, (cutE l).1.length + (cutE l).2.length ≤ l.length
  | [] => Nat.le_refl _
  | c :: l => by
    have := cutE_len l
    unfold cutE
    split <;> simp <;> omega
/-- One field out of a piece. -/
def fieldL (p : List UInt8) : Option (List UInt8 × List UInt8) :=
  match decL (cutE p).1, decL (cutE p).2 with
  | some n, some v => some (n, v)
  | _, _ => none
/-- The fields of pieces; none: some piece isn't right. -/
def fieldsL : List (List UInt8) → Option (List (List UInt8 × List UInt8))
  | [] => some []
  | p :: t => if p = [] then fieldsL t else match fieldL p, fieldsL t with
    | some f, some r => some (f :: r)
    | _, _ => none
theorem fieldsL_skip (t : List (List UInt8)) : fieldsL ([] :: t) = fieldsL t := by rw [fieldsL, if_pos rfl]
theorem fieldsL_cons (p : List UInt8) (t : List (List UInt8)) (hp : p ≠ []) (f : List UInt8 × List UInt8) (hf : fieldL p = some f) : fieldsL (p :: t) = (fieldsL t).map (f :: ·) := by
  rw [fieldsL, if_neg hp, hf]
  cases fieldsL t <;> rfl
theorem fieldsL_bad (p : List UInt8) (t : List (List UInt8)) (hp : p ≠ []) (hf : fieldL p = none) : fieldsL (p :: t) = none := by
  rw [fieldsL, if_neg hp, hf]
theorem fieldsL_append : ∀ a b : List (List UInt8), fieldsL (a ++ b) = (match fieldsL a, fieldsL b with | some x, some y => some (x ++ y) | _, _ => none)
  | [], b => by cases h : fieldsL b <;> simp [fieldsL, h]
  | p :: a, b => by
    have ih := fieldsL_append a b
    by_cases hp : p = []
    · subst hp
      rw [List.cons_append, fieldsL_skip, fieldsL_skip, ih]
    · cases hf : fieldL p with
      | none => rw [List.cons_append, fieldsL_bad _ _ hp hf, fieldsL_bad _ _ hp hf]
      | some f =>
        rw [List.cons_append, fieldsL_cons _ _ hp f hf, fieldsL_cons _ _ hp f hf, ih]
        cases fieldsL a <;> cases fieldsL b <;> rfl
/-- A form's fields, its size aside. -/
def formL (l : List UInt8) : Option (List (List UInt8 × List UInt8)) := fieldsL (pcs l)
theorem formL_join (a b : List UInt8) : formL (a ++ 38 :: b) = (match formL a, formL b with | some x, some y => some (x ++ y) | _, _ => none) := by
  unfold formL; rw [pcs_join, fieldsL_append]
/-- One field as it is written. -/
def writeF (f : List UInt8 × List UInt8) : List UInt8 := encL f.1 ++ 61 :: encL f.2
def writeL (l : List (List UInt8 × List UInt8)) : List UInt8 := Lib.join (l.map writeF) [38]
theorem writeF_free (f : List UInt8 × List UInt8) : ∀ x ∈ writeF f, x ≠ 38 := by
  intro x hx
  unfold writeF at hx
  rcases List.mem_append.1 hx with h | h
  · exact (mem_enc _ x h).1
  · rcases List.mem_cons.1 h with rfl | h
    · decide
    · exact (mem_enc _ x h).1
theorem field_write (f : List UInt8 × List UInt8) : fieldL (writeF f) = some f := by
  unfold fieldL writeF
  rw [cutE_free _ _ (fun x hx => (mem_enc _ x hx).2)]
  simp only [dec_enc]
theorem writeF_ne (f : List UInt8 × List UInt8) : writeF f ≠ [] := by unfold writeF; simp
theorem writeL_cons (f g : List UInt8 × List UInt8) (t : List (List UInt8 × List UInt8)) : writeL (f :: g :: t) = writeF f ++ 38 :: writeL (g :: t) := by
  unfold writeL Lib.join
  simp [List.intercalate]
theorem writeL_one (f : List UInt8 × List UInt8) : writeL [f] = writeF f := by
  unfold writeL Lib.join
  simp [List.intercalate]
theorem form_write : ∀ l : List (List UInt8 × List UInt8), formL (writeL l) = some l
  | [] => rfl
  | [f] => by
    unfold formL
    rw [writeL_one, pcs_free _ (writeF_free f), fieldsL_cons _ _ (writeF_ne f) f (field_write f)]; rfl
  | f :: g :: t => by
    have ih := form_write (g :: t)
    rw [writeL_cons, formL_join, ih]
    have : formL (writeF f) = some [f] := by
      unfold formL
      rw [pcs_free _ (writeF_free f), fieldsL_cons _ _ (writeF_ne f) f (field_write f)]; rfl
    rw [this]; rfl
theorem cutE_len1 : ∀ l : List UInt8, (cutE l).1.length + (cutE l).2.length + 1 ≤ l.length ∨ ((cutE l).2 = [] ∧ (cutE l).1.length = l.length)
  | [] => .inr ⟨rfl, rfl⟩
  | c :: l => by
    have := cutE_len1 l
    unfold cutE
    split
    · left; simp
    · rcases this with h | ⟨h1, h2⟩
      · left; simp; omega
      · right; exact ⟨h1, by simp [h2]⟩
/-- A field that was read is written no longer than three times its piece, and one more. -/
theorem writeF_len (p : List UInt8) (f : List UInt8 × List UInt8) (h : fieldL p = some f) : (writeF f).length ≤ 3 * p.length + 1 := by
  unfold fieldL at h
  cases h1 : decL (cutE p).1 with
  | none => simp [h1] at h
  | some n =>
    cases h2 : decL (cutE p).2 with
    | none => simp [h1, h2] at h
    | some v =>
      simp only [h1, h2, Option.some.injEq] at h
      subst h
      have l1 := decL_len _ _ _ (Nat.le_refl _) h1
      have l2 := decL_len _ _ _ (Nat.le_refl _) h2
      have e1 := encL_len n
      have e2 := encL_len v
      have hc := cutE_len p
      unfold writeF
      simp only [List.length_append, List.length_cons]
      omega
theorem writeL_len : ∀ l : List (List UInt8 × List UInt8), (writeL l).length ≤ (l.map fun f => (writeF f).length + 1).sum
  | [] => Nat.zero_le _
  | [f] => by rw [writeL_one]; simp
  | f :: g :: t => by
    have ih := writeL_len (g :: t)
    rw [writeL_cons]
    simp only [List.length_append, List.length_cons, List.map_cons, List.sum_cons] at ih ⊢
    omega
theorem fieldsL_len : ∀ (ps : List (List UInt8)) (r : List (List UInt8 × List UInt8)), fieldsL ps = some r → (r.map fun f => (writeF f).length + 1).sum ≤ 3 * (ps.map (·.length)).sum + 2 * r.length
  | [], r, h => by
    simp only [fieldsL, Option.some.injEq] at h; subst h; simp
  | p :: t, r, h => by
    by_cases hp : p = []
    · subst hp
      rw [fieldsL_skip] at h
      have := fieldsL_len t r h
      simp; omega
    · cases hf : fieldL p with
      | none => rw [fieldsL_bad _ _ hp hf] at h; cases h
      | some f =>
        rw [fieldsL_cons _ _ hp f hf] at h
        obtain ⟨q, hq, rfl⟩ := Option.map_eq_some_iff.1 h
        have h1 := fieldsL_len t q hq
        have h2 := writeF_len p f hf
        simp only [List.map_cons, List.sum_cons, List.length_cons]
        omega
/-- What is written of a form that was read: no more than three times as much, and some bytes a field. -/
theorem again_len (l : List UInt8) (r : List (List UInt8 × List UInt8)) (h : formL l = some r) (hr : r.length ≤ 32) : (writeL r).length ≤ 3 * l.length + 67 := by
  have h1 := writeL_len r
  have h2 := fieldsL_len _ r h
  have h3 := pcs_len l
  have h4 : 1 ≤ (pcs l).length := List.length_pos_iff.2 (pcs_ne l)
  omega
theorem form_len (l : List UInt8) (r : List (List UInt8 × List UInt8)) (h : formL l = some r) : r.length ≤ l.length + 1 := by
  have h3 := pcs_len l
  have : ∀ (ps : List (List UInt8)) (r : List (List UInt8 × List UInt8)), fieldsL ps = some r → r.length ≤ ps.length := by
    intro ps
    induction ps with
    | nil => intro r h; simp only [fieldsL, Option.some.injEq] at h; subst h; simp
    | cons p t ih =>
      intro r h
      by_cases hp : p = []
      · subst hp
        rw [fieldsL_skip] at h
        have := ih r h
        simp; omega
      · cases hf : fieldL p with
        | none => rw [fieldsL_bad _ _ hp hf] at h; cases h
        | some f =>
          rw [fieldsL_cons _ _ hp f hf] at h
          obtain ⟨q, hq, rfl⟩ := Option.map_eq_some_iff.1 h
          have := ih q hq
          simp; omega
  have := this _ r h
  omega
end Go.Proofs.YtmddmlmmmgbejaaDoor.Pure
