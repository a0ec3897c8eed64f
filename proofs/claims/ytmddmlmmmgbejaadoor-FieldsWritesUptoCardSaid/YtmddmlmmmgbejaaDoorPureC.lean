/- A form that is written: the program's text gives what the lists of bytes give. -/
import Derived.Test.YtmddmlmmmgbejaaDoorPureFieldsReads
namespace Go.Proofs.YtmddmlmmmgbejaaDoor.Pure
open Go.RowKit Go.Proofs.YtmddmlmmmgbejaaDoor.PFld Go.Proofs.YtmddmlmmmgbejaaDoorW.PrintWords Go.Proofs.YtmddmlmmmgbejaaDoorW.PrintLast Go.Proofs.YtmddmlmmmgbejaaDoorW.PrintMore Go.Proofs.YtmddmlmmmgbejaaDoor.Hand
set_option linter.unusedVariables false

def toF (f : S34) : Fl := (f.f0.data.toList, f.f1.data.toList)
theorem toS_toF (f : S34) : toS (toF f) = f := rfl
theorem toF_toS (f : Fl) : toF (toS f) = f := rfl
theorem map_toS_toF (l : List S34) : (l.map toF).map toS = l := by
  rw [List.map_map]
  exact List.map_id'' (fun f => toS_toF f) l
theorem map_toF_toS (l : List Fl) : (l.map toS).map toF = l := by
  rw [List.map_map]
  exact List.map_id'' (fun f => toF_toS f) l
/-- The bytes of one field, as it is written. -/
def part (f : Fl) : ByteArray := ⟨(writeF f).toArray⟩
def wdone (l : List Fl) : ByteArray × Int := if 4096 < (writeL l).length then (⟨#[]⟩, 2) else (⟨(writeL l).toArray⟩, 0)
def Small (f : Fl) : Prop := f.1.length ≤ 1048576 ∧ f.2.length ≤ 1048576
theorem writeF_small (f : Fl) (h : Small f) : (writeF f).length ≤ 6291457 := by
  have h1 := encL_len f.1; have h2 := encL_len f.2
  obtain ⟨a, b⟩ := h
  unfold writeF
  simp only [List.length_append, List.length_cons]
  omega
theorem writeL_small (l : List Fl) (h : ∀ f ∈ l, Small f) : (writeL l).length ≤ 6291458 * l.length := by
  refine Nat.le_trans (writeL_len l) ?_
  induction l with
  | nil => simp
  | cons f t ih =>
    have h1 := writeF_small f (h f (List.mem_cons_self ..))
    have h2 := ih (fun g hg => h g (List.mem_cons_of_mem _ hg))
    simp only [List.map_cons, List.sum_cons, List.length_cons]
    omega
theorem coded_ev (s : ByteArray) (hs : s.size ≤ 1048576) : Ev (fun k => fields_coded.f k s) ⟨(encL s.data.toList).toArray⟩ := ⟨s.size + 1, fun k hk => coded_told s (by omega) k (by omega)⟩
theorem join_in (acc : List Fl) (h : ∀ f ∈ acc, Small f) (hl : acc.length ≤ 32) : strings_Join.f (acc.map part) (⟨#[38]⟩ : ByteArray) = some ⟨(writeL acc).toArray⟩ := by
  have e : (acc.map part).map (·.data.toList) = acc.map writeF := by
    rw [List.map_map]; rfl
  have hs := writeL_small acc h
  unfold strings_Join.f
  rw [e, show (⟨#[38]⟩ : ByteArray).data.toList = [38] from rfl, if_pos ⟨by show (writeL acc).length ≤ _; omega, by rw [List.length_map]; omega⟩]
  rfl
theorem part_mk (f : S34) : ((⟨(encL f.f0.data.toList).toArray⟩ : ByteArray) ++ (⟨#[61]⟩ : ByteArray)) ++ (⟨(encL f.f1.data.toList).toArray⟩ : ByteArray) = part (toF f) := by
  unfold part writeF toF
  apply ByteArray.ext
  simp
theorem write_loop (all : List S34) (hall : all.length ≤ 32) (hsm : ∀ f ∈ all, Small (toF f)) : ∀ (rest : List S34) (acc : List Fl) (i : Nat), all.drop i = rest → acc.length ≤ i → (∀ f ∈ acc, Small f) → acc.length + rest.length ≤ 32 →
    Ev (fun k => fields_Write.l0 k (acc.map part) all (all.length : Int) (i : Int)) (wdone (acc ++ rest.map toF))
  | [], acc, i, hd, ha, hs, hn => by
    have hl := List.drop_eq_nil_iff.1 hd
    rw [List.map_nil, List.append_nil]
    refine Ev.step (f := fun _ => some (wdone acc)) (fun k => ?_) (Ev.now _)
    rw [fields_Write.l0, if_neg (by omega), join_in acc hs (by simpa using hn), bsome]
    unfold wdone
    by_cases c : 4096 < (writeL acc).length
    · rw [if_pos c, if_pos (by rw [size_mk]; omega)]
    · rw [if_neg c, if_neg (by rw [size_mk]; omega)]
  | p :: t, acc, i, hd, ha, hs, hn => by
    obtain ⟨h1, h2, h3⟩ := rd34_drop hd
    have e1 : wrap64 ((i : Int) + 1) = ((i + 1 : Nat) : Int) := wrap_nat (by omega) (by omega)
    have hp : Small (toF p) := hsm p (List.mem_of_mem_drop (hd ▸ List.mem_cons_self ..))
    have hz0 : p.f0.size ≤ 1048576 := by have := hp.1; unfold toF at this; rw [size_list] at this; exact this
    have hz1 : p.f1.size ≤ 1048576 := by have := hp.2; unfold toF at this; rw [size_list] at this; exact this
    have c1 := coded_ev p.f0 hz0
    have c2 := coded_ev p.f1 hz1
    have l1 := encL_len p.f0.data.toList
    have l2 := encL_len p.f1.data.toList
    rw [size_list] at l1 l2
    have ih := write_loop all hall hsm t (acc ++ [toF p]) (i + 1) h3 (by rw [List.length_append]; simp; omega) (fun f hf => by
      rcases List.mem_append.1 hf with h | h
      · exact hs f h
      · rw [List.mem_singleton.1 h]; exact hp) (by rw [List.length_append]; simp at hn ⊢; omega)
    rw [show acc ++ (p :: t).map toF = (acc ++ [toF p]) ++ t.map toF by simp]
    refine Ev.step (fun k => ?_) (Ev.bind c1 (f := fun k t121 => (if t121.size + 1 ≤ 9223372036854775807 then ((fields_coded.f k p.f1).bind fun t122 => (if t121.size + 1 + t122.size ≤ 9223372036854775807 then (if (acc.map part).length < 8796093022208 then (fields_Write.l0 k (acc.map part ++ [(t121 ++ (⟨#[61]⟩ : ByteArray)) ++ t122]) all (all.length : Int) (wrap64 ((i : Int) + 1))) else (none)) else (none))) else (none)))
      (Ev.congr (fun k => if_pos (by rw [size_mk]; omega)) (Ev.bind c2 (f := fun k t122 => (if (⟨(encL p.f0.data.toList).toArray⟩ : ByteArray).size + 1 + t122.size ≤ 9223372036854775807 then (if (acc.map part).length < 8796093022208 then (fields_Write.l0 k (acc.map part ++ [((⟨(encL p.f0.data.toList).toArray⟩ : ByteArray) ++ (⟨#[61]⟩ : ByteArray)) ++ t122]) all (all.length : Int) (wrap64 ((i : Int) + 1))) else (none)) else (none))) (Ev.congr (fun k => ?_) ih))))
    · rw [fields_Write.l0, if_pos (by omega), if_pos (by omega), if_pos (by omega), h2]
    · rw [if_pos (by rw [size_mk, size_mk]; omega), if_pos (by rw [List.length_map]; omega), e1, part_mk, List.map_append]; rfl
theorem write_told (l : List S34) (hsm : l.length ≤ 32 → ∀ f ∈ l, Small (toF f)) : Ev (fun k => fields_Write.f k l) (if 32 < l.length then (⟨#[]⟩, 4) else wdone (l.map toF)) := by
  by_cases h : 32 < l.length
  · rw [if_pos h]
    refine Ev.congr (fun k => ?_) (Ev.now _)
    unfold fields_Write.f
    rw [if_pos (by omega)]
  · rw [if_neg h]
    have h0 := write_loop l (by omega) (hsm (by omega)) l [] 0 rfl (Nat.zero_le _) (fun _ h => by cases h) (by simp; omega)
    rw [List.nil_append] at h0
    refine Ev.congr (fun k => ?_) h0
    unfold fields_Write.f
    rw [if_neg (by omega)]; rfl
/-- A field that was read is no longer than the form. -/
theorem form_small (l : List UInt8) (r : List Fl) (h : formL l = some r) : ∀ f ∈ r, f.1.length ≤ l.length ∧ f.2.length ≤ l.length := by
  have : ∀ (ps : List (List UInt8)) (r : List Fl), (∀ p ∈ ps, p.length ≤ l.length) → fieldsL ps = some r → ∀ f ∈ r, f.1.length ≤ l.length ∧ f.2.length ≤ l.length := by
    intro ps
    induction ps with
    | nil => intro r _ h; simp only [fieldsL, Option.some.injEq] at h; subst h; intro f hf; cases hf
    | cons p t ih =>
      intro r hp h
      by_cases hpe : p = []
      · subst hpe
        rw [fieldsL_skip] at h
        exact ih r (fun x hx => hp x (List.mem_cons_of_mem _ hx)) h
      · cases hf : fieldL p with
        | none => rw [fieldsL_bad _ _ hpe hf] at h; cases h
        | some g =>
          rw [fieldsL_cons _ _ hpe g hf] at h
          obtain ⟨q, hq, rfl⟩ := Option.map_eq_some_iff.1 h
          intro f hfm
          rcases List.mem_cons.1 hfm with rfl | hfm
          · have h0 := hp p (List.mem_cons_self ..)
            have hc := cutE_len p
            unfold fieldL at hf
            cases h1 : decL (cutE p).1 with
            | none => simp [h1] at hf
            | some n =>
              cases h2 : decL (cutE p).2 with
              | none => simp [h1, h2] at hf
              | some v =>
                simp only [h1, h2, Option.some.injEq] at hf
                subst hf
                have l1 := decL_len _ _ _ (Nat.le_refl _) h1
                have l2 := decL_len _ _ _ (Nat.le_refl _) h2
                simp only
                omega
          · exact ih q (fun x hx => hp x (List.mem_cons_of_mem _ hx)) hq f hfm
  exact this _ r (fun p hp => pcs_small l p hp) h
end Go.Proofs.YtmddmlmmmgbejaaDoor.Pure
