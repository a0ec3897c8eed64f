/- FieldsJoins, the plain law: two forms with & between them are both. -/
import Derived.Test.YtmddmlmmmgbejaaDoorPureFieldsReads
import Derived.Test.YtmddmlmmmgbejaaDoorPFldJoins
namespace Go.Proofs.YtmddmlmmmgbejaaDoor.Pure
open Go.RowKit Go.Proofs.YtmddmlmmmgbejaaDoor.PFld Go.Proofs.YtmddmlmmmgbejaaDoorW.PrintWords Go.Proofs.YtmddmlmmmgbejaaDoorW.PrintLast Go.Proofs.YtmddmlmmmgbejaaDoorW.PrintMore Go.Proofs.YtmddmlmmmgbejaaDoor.Hand
set_option linter.unusedVariables false
theorem joins_end (L M N : List S34) (e f g : Int) (b : Bool) (h : Ev (fun k => pennantlaw21_FieldsJoins.j0 k L e M f N g b) true)
    (x y : ByteArray) (hx : x.size + y.size ≤ 4000) (hb : b = (if e = 210 then true else f == 210)) (h1 : Ev (fun k => fields_Parse.f k x) (L, e)) (h2 : Ev (fun k => fields_Parse.f k y) (M, f))
    (h3 : Ev (fun k => fields_Parse.f k ((x ++ (⟨#[38]⟩ : ByteArray)) ++ y)) (N, g)) : ∃ k, pennantlaw21_FieldsJoins.f k x y = some true := by
  obtain ⟨K0, g0⟩ := awake_ev
  obtain ⟨K1, g1⟩ := h1
  obtain ⟨K2, g2⟩ := h2
  obtain ⟨K3, g3⟩ := h3
  obtain ⟨K4, g4⟩ := h
  simp only at g0 g1 g2 g3 g4
  have e1 : wrap64 ((x.size : Int) + (y.size : Int)) = ((x.size + y.size : Nat) : Int) := wrap_nat (by omega) (by omega)
  refine ⟨K0 + K1 + K2 + K3 + K4, ?_⟩
  unfold pennantlaw21_FieldsJoins.f
  rw [g0 _ (by omega), bsome, if_pos rfl, e1, if_neg (by omega), g1 _ (by omega), bsome, g2 _ (by omega), bsome, if_pos (by omega), if_pos (by omega), g3 _ (by omega), bsome]
  have h4 := g4 (K0 + K1 + K2 + K3 + K4) (by omega)
  subst hb
  by_cases c : e = 210
  · rw [if_pos c] at h4 ⊢; exact h4
  · rw [if_neg c] at h4 ⊢; exact h4
theorem joins_bad (L M N : List S34) (e f : Int) : Ev (fun k => pennantlaw21_FieldsJoins.j0 k L e M f N 210 true) true := by
  refine Ev.step (fun k => ?_) (Ev.now _)
  rw [pennantlaw21_FieldsJoins.j0, if_pos rfl]; rfl
theorem joins_both (L M N : List S34) (e f g : Int) (h : (e ≠ 0 ∨ f ≠ 0 ∨ 32 < L.length + M.length) ∧ L.length ≤ 32 ∧ M.length ≤ 32 ∧ g = 4) : Ev (fun k => pennantlaw21_FieldsJoins.j0 k L e M f N g false) true := by
  obtain ⟨h, hl, hm, rfl⟩ := h
  refine Ev.step (fun k => ?_) (Ev.now _)
  have e1 : wrap64 ((L.length : Int) + (M.length : Int)) = ((L.length + M.length : Nat) : Int) := wrap_nat (by omega) (by omega)
  rw [pennantlaw21_FieldsJoins.j0, if_neg (by simp), e1]
  by_cases c1 : e = 0
  · rw [if_pos c1]
    by_cases c2 : f = 0
    · rw [if_pos c2, if_pos (by omega)]; rfl
    · rw [if_neg c2]; rfl
  · rw [if_neg c1]; rfl
theorem joins_fine (L M : List S34) (h : L.length + M.length ≤ 32) : Ev (fun k => pennantlaw21_FieldsJoins.j0 k L 0 M 0 (L ++ M) 0 false) true := by
  have hs := same_self (L ++ M) (by rw [List.length_append]; omega)
  have e1 : wrap64 ((L.length : Int) + (M.length : Int)) = ((L.length + M.length : Nat) : Int) := wrap_nat (by omega) (by omega)
  obtain ⟨K, g⟩ := hs
  simp only at g
  refine Ev.step (f := fun k => (pennantref21_Same.f k (L ++ M) (L ++ M)).bind fun t => some t) (fun k => ?_) ⟨K, fun k hk => by simp only; rw [g k hk, bsome]⟩
  rw [pennantlaw21_FieldsJoins.j0, if_neg (by simp), if_pos rfl, if_pos rfl, e1, if_neg (by omega), if_pos rfl, bsome, if_pos (by simp; omega), bsome, List.nil_append, if_pos (by omega)]
theorem data_join (x y : ByteArray) : ((x ++ (⟨#[38]⟩ : ByteArray)) ++ y).data.toList = x.data.toList ++ 38 :: y.data.toList := by simp
theorem size_join (x y : ByteArray) : ((x ++ (⟨#[38]⟩ : ByteArray)) ++ y).size = x.size + 1 + y.size := by
  rw [ByteArray.size_append, ByteArray.size_append]; rfl
theorem done_some (r : List Fl) (h : r.length ≤ 32) : done (some r) = (r.map toS, 0) := by
  unfold done; simp only; rw [if_neg (by omega)]
theorem done_full (r : List Fl) (h : 32 < r.length) : done (some r) = ([], 4) := by
  unfold done; simp only; rw [if_pos h]
theorem FieldsJoins : pennantlaw21_FieldsJoins.Pure := by
  intro x y hx hy
  by_cases c : 4000 < x.size + y.size
  · obtain ⟨K0, g0⟩ := awake_ev
    simp only at g0
    have e1 : wrap64 ((x.size : Int) + (y.size : Int)) = ((x.size + y.size : Nat) : Int) := by unfold wrap64; omega
    refine ⟨K0, ?_⟩
    unfold pennantlaw21_FieldsJoins.f
    rw [g0 _ (Nat.le_refl _), bsome, if_pos rfl, e1, if_pos (by omega)]
  · have h1 := parse_told x hx
    have h2 := parse_told y hy
    have h3 := parse_told ((x ++ (⟨#[38]⟩ : ByteArray)) ++ y) (by rw [size_join]; omega)
    rw [if_neg (by omega)] at h1 h2
    rw [if_neg (by rw [size_join]; omega), data_join, formL_join] at h3
    cases hfx : formL x.data.toList with
    | none =>
      rw [hfx] at h1 h3
      cases hd : done (formL y.data.toList) with
      | mk M f =>
        rw [hd] at h2
        exact joins_end [] M [] 210 f 210 true (joins_bad _ _ _ _ _) x y (by omega) (by rw [if_pos rfl]) h1 h2 h3
    | some a =>
      rw [hfx] at h1 h3
      cases hfy : formL y.data.toList with
      | none =>
        rw [hfy] at h2 h3
        cases hd : done (some a) with
        | mk L e =>
          rw [hd] at h1
          exact joins_end L [] [] e 210 210 true (joins_bad _ _ _ _ _) x y (by omega) (by split <;> rfl) h1 h2 h3
      | some b =>
        rw [hfy] at h2 h3
        simp only at h3
        by_cases ca : 32 < a.length
        · rw [done_full a ca] at h1
          rw [done_full _ (by rw [List.length_append]; omega)] at h3
          by_cases cb : 32 < b.length
          · rw [done_full b cb] at h2
            exact joins_end [] [] [] 4 4 4 false (joins_both _ _ _ _ _ _ ⟨.inl (by decide), by simp, by simp, rfl⟩) x y (by omega) (by decide) h1 h2 h3
          · rw [done_some b (by omega)] at h2
            exact joins_end [] _ [] 4 0 4 false (joins_both _ _ _ _ _ _ ⟨.inl (by decide), by simp, by rw [List.length_map]; omega, rfl⟩) x y (by omega) (by decide) h1 h2 h3
        · rw [done_some a (by omega)] at h1
          by_cases cb : 32 < b.length
          · rw [done_full b cb] at h2
            rw [done_full _ (by rw [List.length_append]; omega)] at h3
            exact joins_end _ [] [] 0 4 4 false (joins_both _ _ _ _ _ _ ⟨.inr (.inl (by decide)), by rw [List.length_map]; omega, by simp, rfl⟩) x y (by omega) (by decide) h1 h2 h3
          · rw [done_some b (by omega)] at h2
            by_cases cc : 32 < (a ++ b).length
            · rw [done_full _ cc] at h3
              rw [List.length_append] at cc
              exact joins_end _ _ [] 0 0 4 false (joins_both _ _ _ _ _ _ ⟨.inr (.inr (by rw [List.length_map, List.length_map]; omega)), by rw [List.length_map]; omega, by rw [List.length_map]; omega, rfl⟩) x y (by omega) (by decide) h1 h2 h3
            · rw [done_some _ (by omega), List.map_append] at h3
              rw [List.length_append] at cc
              exact joins_end _ _ _ 0 0 0 false (joins_fine _ _ (by rw [List.length_map, List.length_map]; omega)) x y (by omega) (by decide) h1 h2 h3
end Go.Proofs.YtmddmlmmmgbejaaDoor.Pure
