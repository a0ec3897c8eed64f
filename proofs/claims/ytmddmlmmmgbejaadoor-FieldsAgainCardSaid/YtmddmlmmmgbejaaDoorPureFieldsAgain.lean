/- FieldsAgain, the plain law: a form that was read and written is read as the same fields. -/
import Derived.Test.YtmddmlmmmgbejaaDoorPureC
import Derived.Test.YtmddmlmmmgbejaaDoorPFldAgain
namespace Go.Proofs.YtmddmlmmmgbejaaDoor.Pure
open Go.RowKit Go.Proofs.YtmddmlmmmgbejaaDoor.PFld Go.Proofs.YtmddmlmmmgbejaaDoorW.PrintWords Go.Proofs.YtmddmlmmmgbejaaDoorW.PrintLast Go.Proofs.YtmddmlmmmgbejaaDoorW.PrintMore Go.Proofs.YtmddmlmmmgbejaaDoor.Hand
set_option linter.unusedVariables false
theorem again_bad (s : ByteArray) (L : List S34) (e : Int) (he : e ≠ 0) (hl : L = []) (h : Ev (fun k => fields_Parse.f k s) (L, e)) : ∃ k, pennantlaw21_FieldsAgain.f k s = some true := by
  obtain ⟨K0, g0⟩ := awake_ev
  obtain ⟨K1, g1⟩ := h
  simp only at g0 g1
  refine ⟨K0 + K1, ?_⟩
  unfold pennantlaw21_FieldsAgain.f
  rw [g0 _ (by omega), bsome, if_pos rfl, g1 _ (by omega), bsome, if_neg he, hl]
  rfl
theorem FieldsAgain : pennantlaw21_FieldsAgain.Pure := by
  intro s hs
  have h1 := parse_told s hs
  by_cases c : 4096 < s.size
  · rw [if_pos c] at h1
    exact again_bad s [] 2 (by decide) rfl h1
  rw [if_neg c] at h1
  cases hf : formL s.data.toList with
  | none =>
    rw [hf] at h1
    exact again_bad s [] 210 (by decide) rfl h1
  | some r =>
    rw [hf] at h1
    unfold done at h1
    simp only at h1
    by_cases c2 : 32 < r.length
    · rw [if_pos c2] at h1
      exact again_bad s [] 4 (by decide) rfl h1
    rw [if_neg c2] at h1
    have hsm := form_small _ _ hf
    rw [size_list] at hsm
    have h2 := write_told (r.map toS) (fun _ f hfm => by
      obtain ⟨g, hg, rfl⟩ := List.mem_map.1 hfm
      rw [toF_toS]
      have := hsm g hg
      exact ⟨by omega, by omega⟩)
    rw [if_neg (by rw [List.length_map]; exact c2), map_toF_toS] at h2
    have hlen := again_len _ _ hf (by omega)
    rw [size_list] at hlen
    obtain ⟨K0, g0⟩ := awake_ev
    obtain ⟨K1, g1⟩ := h1
    unfold wdone at h2
    by_cases c3 : 4096 < (writeL r).length
    · rw [if_pos c3] at h2
      obtain ⟨K2, g2⟩ := h2
      simp only at g0 g1 g2
      refine ⟨K0 + K1 + K2, ?_⟩
      unfold pennantlaw21_FieldsAgain.f
      rw [g0 _ (by omega), bsome, if_pos rfl, g1 _ (by omega), bsome, if_pos rfl, g2 _ (by omega), bsome, if_neg (by simp), if_pos rfl]
      simp; omega
    · rw [if_neg c3] at h2
      have h3 := parse_told ⟨(writeL r).toArray⟩ (by rw [size_mk]; omega)
      rw [if_neg (by rw [size_mk]; exact c3), list_mk, form_write] at h3
      unfold done at h3
      simp only at h3
      rw [if_neg c2] at h3
      have h4 := same_self (r.map toS) (by rw [List.length_map]; omega)
      obtain ⟨K2, g2⟩ := h2
      obtain ⟨K3, g3⟩ := h3
      obtain ⟨K4, g4⟩ := h4
      simp only at g0 g1 g2 g3 g4
      refine ⟨K0 + K1 + K2 + K3 + K4, ?_⟩
      unfold pennantlaw21_FieldsAgain.f
      rw [g0 _ (by omega), bsome, if_pos rfl, g1 _ (by omega), bsome, if_pos rfl, g2 _ (by omega), bsome, if_pos rfl, g3 _ (by omega), bsome, if_pos rfl, g4 _ (by omega), bsome]
end Go.Proofs.YtmddmlmmmgbejaaDoor.Pure
