/- Plain laws on characters: what is decoded is the encoding that stands there, and the other way about; Wide as a map of characters. -/
import Derived.Test.YtpclncikhlameaaDoorPureB
namespace Go.Proofs.YtpclncikhlameaaDoor.Pure
open Go.RowKit Go.Proofs.YtpclncikhlameaaDoor.PUtf Go.Proofs.YtpclncikhlameaaDoorW.PrintWords Go.Proofs.YtpclncikhlameaaDoorW.PrintLast Go.Proofs.YtpclncikhlameaaDoor.Hand
set_option linter.unusedVariables false

def validC (c : Nat) : Prop := c < 55296 ∨ (57344 ≤ c ∧ c ≤ 1114111)
/-- A character's UTF-8 form. -/
def enc8 (c : Nat) : List Int :=
  if c < 128 then [(c : Int)]
  else if c < 2048 then [((192 + c / 64 : Nat) : Int), ((128 + c % 64 : Nat) : Int)]
  else if c < 65536 then [((224 + c / 4096 : Nat) : Int), ((128 + c / 64 % 64 : Nat) : Int), ((128 + c % 64 : Nat) : Int)]
  else [((240 + c / 262144 : Nat) : Int), ((128 + c / 4096 % 64 : Nat) : Int), ((128 + c / 64 % 64 : Nat) : Int), ((128 + c % 64 : Nat) : Int)]
theorem enc8_len (c : Nat) : 1 ≤ (enc8 c).length ∧ (enc8 c).length ≤ 4 := by
  unfold enc8
  repeat' split
  all_goals simp
theorem enc8_is (c : Nat) (h : c ≤ 1114111) : IsBytes (enc8 c) := by
  unfold enc8
  intro x hx
  repeat' split at hx
  all_goals
    simp only [List.mem_cons, List.mem_nil_iff, or_false] at hx
    omega
theorem drop_cons (s : ByteArray) (i : Nat) (h : i < s.size) : (bytesOf s).drop i = ((s.get! i).toNat : Int) :: (bytesOf s).drop (i + 1) := by
  have hl : i < (bytesOf s).length := by rw [bytesOf_length]; exact h
  rw [List.drop_eq_getElem_cons hl]
  have := bytesOf_get s i h
  rw [List.getElem?_eq_getElem hl] at this
  rw [Option.some.inj this]
theorem drop_out (s : ByteArray) (i : Nat) (h : s.size ≤ i) : (bytesOf s).drop i = [] := List.drop_eq_nil_of_le (by rw [bytesOf_length]; exact h)
theorem of_drop {s : ByteArray} {i : Nat} {a : Int} {r : List Int} (h : (bytesOf s).drop i = a :: r) : i < s.size ∧ ((s.get! i).toNat : Int) = a ∧ (bytesOf s).drop (i + 1) = r := by
  by_cases hi : i < s.size
  · rw [drop_cons s i hi] at h
    injection h with h1 h2
    exact ⟨hi, h1, h2⟩
  · rw [drop_out s i (Nat.le_of_not_lt hi)] at h
    cases h
theorem dec_of {s : ByteArray} {i c : Nat} {rest : List Int} (hv : validC c) (h : (bytesOf s).drop i = enc8 c ++ rest) :
    dec s i = (c, (enc8 c).length) ∧ rest = (bytesOf s).drop (i + (enc8 c).length) ∧ i < s.size := by
  unfold validC at hv
  unfold enc8 at h ⊢
  unfold dec Lib.decodeN
  by_cases c1 : c < 128
  · simp only [if_pos c1, List.cons_append, List.nil_append, List.length_cons, List.length_nil] at h ⊢
    obtain ⟨h1, h2, h3⟩ := of_drop h
    rw [if_pos (by omega)]
    exact ⟨by rw [show (s.get! i).toNat = c from by omega], h3.symm, h1⟩
  by_cases c2 : c < 2048
  · simp only [if_neg c1, if_pos c2, List.cons_append, List.nil_append, List.length_cons, List.length_nil] at h ⊢
    obtain ⟨h1, h2, h3⟩ := of_drop h
    obtain ⟨g1, g2, g3⟩ := of_drop h3
    rw [if_neg (by omega), if_pos (by omega), if_pos (by omega)]
    exact ⟨by apply Prod.ext <;> simp only <;> omega, g3.symm, h1⟩
  by_cases c3 : c < 65536
  · simp only [if_neg c1, if_neg c2, if_pos c3, List.cons_append, List.nil_append, List.length_cons, List.length_nil] at h ⊢
    obtain ⟨h1, h2, h3⟩ := of_drop h
    obtain ⟨g1, g2, g3⟩ := of_drop h3
    obtain ⟨f1, f2, f3⟩ := of_drop g3
    have f2 : ((s.get! (i + 2)).toNat : Int) = _ := f2
    rw [if_neg (by omega), if_neg (by omega), if_pos (by omega), if_pos (by omega)]
    exact ⟨by apply Prod.ext <;> simp only <;> omega, f3.symm, h1⟩
  · simp only [if_neg c1, if_neg c2, if_neg c3, List.cons_append, List.nil_append, List.length_cons, List.length_nil] at h ⊢
    obtain ⟨h1, h2, h3⟩ := of_drop h
    obtain ⟨g1, g2, g3⟩ := of_drop h3
    obtain ⟨f1, f2, f3⟩ := of_drop g3
    have f2 : ((s.get! (i + 2)).toNat : Int) = _ := f2
    obtain ⟨e1, e2, e3⟩ := of_drop f3
    have e2 : ((s.get! (i + 3)).toNat : Int) = _ := e2
    rw [if_neg (by omega), if_neg (by omega), if_neg (by omega), if_pos (by omega), if_pos (by omega)]
    exact ⟨by apply Prod.ext <;> simp only <;> omega, e3.symm, h1⟩
theorem dec_ok (s : ByteArray) (i : Nat) (h : i < s.size) (hb : ¬ bad s i) :
    validC (dec s i).1 ∧ (bytesOf s).drop i = enc8 (dec s i).1 ++ (bytesOf s).drop (i + (dec s i).2) ∧ (dec s i).2 = (enc8 (dec s i).1).length ∧ i + (dec s i).2 ≤ s.size := by
  have h0 := byte_lt s i; have h1 := byte_lt s (i + 1); have h2 := byte_lt s (i + 2); have h3 := byte_lt s (i + 3)
  have key : ∀ v n, dec s i = (v, n) → validC v ∧ (bytesOf s).drop i = enc8 v ++ (bytesOf s).drop (i + n) ∧ n = (enc8 v).length ∧ i + n ≤ s.size := by
    intro v n hd
    have hnb : ¬ (v = 65533 ∧ n = 1) := by unfold bad at hb; rw [hd] at hb; exact hb
    unfold dec Lib.decodeN at hd
    split at hd
    · rename_i c1
      injection hd with e1 e2
      subst e1 e2
      refine ⟨by unfold validC; omega, ?_, by unfold enc8; rw [if_pos c1]; rfl, by omega⟩
      rw [drop_cons s i h]; unfold enc8; rw [if_pos c1]; rfl
    split at hd
    · rename_i c1 c2
      split at hd
      · rename_i c3
        injection hd with e1 e2
        have hi1 : i + 1 < s.size := by omega
        have he : enc8 v = [((s.get! i).toNat : Int), ((s.get! (i + 1)).toNat : Int)] := by
          unfold enc8
          rw [if_neg (by omega), if_pos (by omega), show 192 + v / 64 = (s.get! i).toNat from by omega, show 128 + v % 64 = (s.get! (i + 1)).toNat from by omega]
        subst e2
        refine ⟨by unfold validC; omega, ?_, by rw [he]; rfl, by omega⟩
        rw [drop_cons s i h, drop_cons s (i + 1) hi1, he]; rfl
      · injection hd with e1 e2; exact absurd ⟨e1.symm, e2.symm⟩ hnb
    split at hd
    · rename_i c1 c2 c3
      split at hd
      · rename_i c4
        injection hd with e1 e2
        have hi1 : i + 1 < s.size := by omega
        have hi2 : i + 1 + 1 < s.size := by omega
        have he : enc8 v = [((s.get! i).toNat : Int), ((s.get! (i + 1)).toNat : Int), ((s.get! (i + 2)).toNat : Int)] := by
          unfold enc8
          rw [if_neg (by omega), if_neg (by omega), if_pos (by omega), show 224 + v / 4096 = (s.get! i).toNat from by omega, show 128 + v / 64 % 64 = (s.get! (i + 1)).toNat from by omega, show 128 + v % 64 = (s.get! (i + 2)).toNat from by omega]
        subst e2
        refine ⟨by unfold validC; omega, ?_, by rw [he]; rfl, by omega⟩
        rw [drop_cons s i h, drop_cons s (i + 1) hi1, drop_cons s (i + 1 + 1) hi2, he]; rfl
      · injection hd with e1 e2; exact absurd ⟨e1.symm, e2.symm⟩ hnb
    split at hd
    · rename_i c1 c2 c3 c4
      split at hd
      · rename_i c5
        injection hd with e1 e2
        have hi1 : i + 1 < s.size := by omega
        have hi2 : i + 1 + 1 < s.size := by omega
        have hi3 : i + 1 + 1 + 1 < s.size := by omega
        have he : enc8 v = [((s.get! i).toNat : Int), ((s.get! (i + 1)).toNat : Int), ((s.get! (i + 2)).toNat : Int), ((s.get! (i + 3)).toNat : Int)] := by
          unfold enc8
          rw [if_neg (by omega), if_neg (by omega), if_neg (by omega), show 240 + v / 262144 = (s.get! i).toNat from by omega, show 128 + v / 4096 % 64 = (s.get! (i + 1)).toNat from by omega, show 128 + v / 64 % 64 = (s.get! (i + 2)).toNat from by omega, show 128 + v % 64 = (s.get! (i + 3)).toNat from by omega]
        subst e2
        refine ⟨by unfold validC; omega, ?_, by rw [he]; rfl, by omega⟩
        rw [drop_cons s i h, drop_cons s (i + 1) hi1, drop_cons s (i + 1 + 1) hi2, drop_cons s (i + 1 + 1 + 1) hi3, he]; rfl
      · injection hd with e1 e2; exact absurd ⟨e1.symm, e2.symm⟩ hnb
    · injection hd with e1 e2; exact absurd ⟨e1.symm, e2.symm⟩ hnb
  exact key _ _ rfl
theorem not_bad_of {s : ByteArray} {i c : Nat} (h : dec s i = (c, (enc8 c).length)) : ¬ bad s i := by
  intro hb
  unfold bad at hb
  rw [h] at hb
  obtain ⟨rfl, h2⟩ := hb
  simp [enc8] at h2
theorem wd_ok (s : ByteArray) : ∀ (cs : List Nat) (f i : Nat) (acc : List Int), (∀ c ∈ cs, validC c) → (bytesOf s).drop i = cs.flatMap enc8 → cs.length < f → wd s f i acc = (strOfNums (acc ++ cs.flatMap units), 0, 0)
  | [], f, i, acc, _, h, hf => by
    obtain ⟨f, rfl⟩ : ∃ m, f = m + 1 := ⟨f - 1, by omega⟩
    have hi : ¬ i < s.size := fun hi => by rw [drop_cons s i hi] at h; cases h
    simp only [wd]
    rw [if_neg hi]; simp
  | c :: cs, f, i, acc, hv, h, hf => by
    obtain ⟨f, rfl⟩ : ∃ m, f = m + 1 := ⟨f - 1, by omega⟩
    rw [List.flatMap_cons] at h
    obtain ⟨hd, hr, hi⟩ := dec_of (hv c (List.mem_cons_self ..)) h
    simp only [wd]
    rw [if_pos hi, if_neg (not_bad_of hd), hd, wd_ok s cs f _ _ (fun x hx => hv x (List.mem_cons_of_mem _ hx)) hr.symm (by simp at hf; omega), List.flatMap_cons, List.append_assoc]
theorem wd_cases (s : ByteArray) : ∀ (f i : Nat) (acc : List Int), s.size - i < f → i ≤ s.size →
    (∃ cs : List Nat, (∀ c ∈ cs, validC c) ∧ (bytesOf s).drop i = cs.flatMap enc8 ∧ wd s f i acc = (strOfNums (acc ++ cs.flatMap units), 0, 0)) ∨
    (∃ j, j < s.size ∧ bad s j ∧ wd s f i acc = (⟨#[]⟩, (j : Int), 10))
  | 0, i, acc, hf, _ => absurd hf (by omega)
  | f + 1, i, acc, hf, hi => by
    simp only [wd]
    by_cases c1 : i < s.size
    · rw [if_pos c1]
      by_cases c2 : bad s i
      · rw [if_pos c2]
        exact .inr ⟨i, c1, c2, rfl⟩
      · rw [if_neg c2]
        obtain ⟨hv, hd, hn, hl⟩ := dec_ok s i c1 c2
        have hr := dec_range s i
        rcases wd_cases s f (i + (dec s i).2) (acc ++ units (dec s i).1) (by omega) hl with ⟨cs, h1, h2, h3⟩ | ⟨j, h1, h2, h3⟩
        · refine .inl ⟨(dec s i).1 :: cs, fun c hc => ?_, ?_, ?_⟩
          · rcases List.mem_cons.1 hc with rfl | hc
            · exact hv
            · exact h1 c hc
          · rw [hd, h2, List.flatMap_cons]
          · rw [h3, List.flatMap_cons, List.append_assoc]
        · exact .inr ⟨j, h1, h2, h3⟩
    · rw [if_neg c1]
      exact .inl ⟨[], fun c hc => by (cases hc), by rw [drop_out s i (by omega)]; rfl, by simp⟩
end Go.Proofs.YtpclncikhlameaaDoor.Pure
