/- FieldsBack, the plain law: what is written is read as it was. -/
import Derived.Test.YtmddmlmmmgbejaaDoorPureC
import Derived.Test.YtmddmlmmmgbejaaDoorPFldBack
namespace Go.Proofs.YtmddmlmmmgbejaaDoor.Pure
open Go.RowKit Go.Proofs.YtmddmlmmmgbejaaDoor.PFld Go.Proofs.YtmddmlmmmgbejaaDoorW.PrintWords Go.Proofs.YtmddmlmmmgbejaaDoorW.PrintLast Go.Proofs.YtmddmlmmmgbejaaDoorW.PrintMore Go.Proofs.YtmddmlmmmgbejaaDoor.Hand
set_option linter.unusedVariables false
theorem FieldsBack (l : List S34) (hl : l.length ≤ 1048576) (hsm : ∀ f ∈ l, f.f0.size ≤ 1048576 ∧ f.f1.size ≤ 1048576) : ∃ k, pennantlaw21_FieldsBack.f k l = some true := by
  have h2 := write_told l (fun _ f hf => by
    have := hsm f hf
    unfold toF Small
    rw [size_list, size_list]
    exact this)
  obtain ⟨K0, g0⟩ := awake_ev
  by_cases c : 32 < l.length
  · rw [if_pos c] at h2
    obtain ⟨K2, g2⟩ := h2
    simp only at g0 g2
    refine ⟨K0 + K2, ?_⟩
    unfold pennantlaw21_FieldsBack.f
    rw [g0 _ (by omega), bsome, if_pos rfl, g2 _ (by omega), bsome, if_neg (by simp), if_pos (by rw [toL_data])]
    have e : decide ((l.length : Int) > 32) = true := decide_eq_true (by omega)
    rw [e]; rfl
  · rw [if_neg c] at h2
    unfold wdone at h2
    by_cases c3 : 4096 < (writeL (l.map toF)).length
    · rw [if_pos c3] at h2
      obtain ⟨K2, g2⟩ := h2
      simp only at g0 g2
      refine ⟨K0 + K2, ?_⟩
      unfold pennantlaw21_FieldsBack.f
      rw [g0 _ (by omega), bsome, if_pos rfl, g2 _ (by omega), bsome, if_neg (by simp), if_pos (by rw [toL_data])]
      have e : decide ((l.length : Int) > 32) = false := decide_eq_false (by omega)
      rw [e]; rfl
    · rw [if_neg c3] at h2
      have h3 := parse_told ⟨(writeL (l.map toF)).toArray⟩ (by rw [size_mk]; omega)
      rw [if_neg (by rw [size_mk]; exact c3), list_mk, form_write] at h3
      unfold done at h3
      simp only [List.length_map] at h3
      rw [if_neg c, map_toS_toF] at h3
      have h4 := same_self l (by omega)
      obtain ⟨K2, g2⟩ := h2
      obtain ⟨K3, g3⟩ := h3
      obtain ⟨K4, g4⟩ := h4
      simp only at g0 g2 g3 g4
      refine ⟨K0 + K2 + K3 + K4, ?_⟩
      unfold pennantlaw21_FieldsBack.f
      rw [g0 _ (by omega), bsome, if_pos rfl, g2 _ (by omega), bsome, if_pos rfl, g3 _ (by omega), bsome, if_pos rfl, g4 _ (by omega), bsome]
end Go.Proofs.YtmddmlmmmgbejaaDoor.Pure
