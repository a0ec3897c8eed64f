/- FieldsReads, the plain law: both texts read a form alike, and find each name's value alike. -/
import Derived.Test.YtmddmlmmmgbejaaDoorPureB
import Derived.Test.YtmddmlmmmgbejaaDoorPFldx5
namespace Go.Proofs.YtmddmlmmmgbejaaDoor.Pure
open Go.RowKit Go.Proofs.YtmddmlmmmgbejaaDoor.PFld Go.Proofs.YtmddmlmmmgbejaaDoorW.PrintWords Go.Proofs.YtmddmlmmmgbejaaDoorW.PrintLast Go.Proofs.YtmddmlmmmgbejaaDoorW.PrintMore Go.Proofs.YtmddmlmmmgbejaaDoor.Hand
set_option linter.unusedVariables false

set_option maxRecDepth 100000 in
theorem awake400 : pennantlaw21_awake.f 400 = some true := by decide +kernel
theorem awake_ev : Ev (fun k => pennantlaw21_awake.f k) true := Ev.of (fun k => pennantlaw21_awake.mono k) awake400
theorem rd34_drop {all : List S34} {i : Nat} {p : S34} {t : List S34} (h : all.drop i = p :: t) : i < all.length ∧ rd_T34 all (i : Int) = p ∧ all.drop (i + 1) = t := rdOf_drop (d := z34) h
/-- What a name's value is. -/
def findS : List S34 → ByteArray → ByteArray × Bool
  | [], _ => (⟨#[]⟩, false)
  | f :: t, n => if f.f0.toList = n.toList then (f.f1, true) else findS t n
theorem find_ev (all : List S34) (n : ByteArray) (hall : all.length ≤ 5000) : ∀ (rest : List S34) (i : Nat), all.drop i = rest → Ev (fun k => fields_Find.l0 k n all (all.length : Int) (i : Int)) (findS rest n)
  | [], i, hd => by
    have hl := List.drop_eq_nil_iff.1 hd
    refine Ev.step (fun k => ?_) (Ev.now _)
    rw [fields_Find.l0, if_neg (by omega)]; rfl
  | p :: t, i, hd => by
    obtain ⟨h1, h2, h3⟩ := rd34_drop hd
    have e1 : wrap64 ((i : Int) + 1) = ((i + 1 : Nat) : Int) := wrap_nat (by omega) (by omega)
    unfold findS
    by_cases c : p.f0.toList = n.toList
    · rw [if_pos c]
      refine Ev.step (fun k => ?_) (Ev.now _)
      rw [fields_Find.l0, if_pos (by omega), if_pos (by omega), if_pos (by omega), h2, if_pos c]
    · rw [if_neg c]
      refine Ev.step (fun k => ?_) (find_ev all n hall t (i + 1) h3)
      rw [fields_Find.l0, if_pos (by omega), if_pos (by omega), if_pos (by omega), h2, if_neg c, e1]
theorem ref_find_ev (all : List S34) (n : ByteArray) (hall : all.length ≤ 5000) : ∀ (rest : List S34) (i : Nat), all.drop i = rest → Ev (fun k => pennantref21_Find.l0 k all n (i : Int)) (findS rest n)
  | [], i, hd => by
    have hl := List.drop_eq_nil_iff.1 hd
    refine Ev.step (fun k => ?_) (Ev.now _)
    rw [pennantref21_Find.l0, if_neg (by omega)]; rfl
  | p :: t, i, hd => by
    obtain ⟨h1, h2, h3⟩ := rd34_drop hd
    have e1 : wrap64 ((i : Int) + 1) = ((i + 1 : Nat) : Int) := wrap_nat (by omega) (by omega)
    unfold findS
    by_cases c : p.f0.toList = n.toList
    · rw [if_pos c]
      refine Ev.step (fun k => ?_) (Ev.now _)
      rw [pennantref21_Find.l0, if_pos (by omega), if_pos (by omega), h2, if_pos c]
    · rw [if_neg c]
      refine Ev.step (fun k => ?_) (ref_find_ev all n hall t (i + 1) h3)
      rw [pennantref21_Find.l0, if_pos (by omega), if_pos (by omega), h2, if_neg c, e1]
theorem same_ev (all : List S34) (hall : all.length ≤ 4398046511104) : ∀ (rest : List S34) (i : Nat), all.drop i = rest → Ev (fun k => pennantref21_Same.l0 k all all (i : Int)) true
  | [], i, hd => by
    have hl := List.drop_eq_nil_iff.1 hd
    refine Ev.step (fun k => ?_) (Ev.now _)
    rw [pennantref21_Same.l0, if_neg (by omega)]
  | p :: t, i, hd => by
    obtain ⟨h1, h2, h3⟩ := rd34_drop hd
    have e1 : wrap64 ((i : Int) + 1) = ((i + 1 : Nat) : Int) := wrap_nat (by omega) (by omega)
    refine Ev.step (fun k => ?_) (same_ev all hall t (i + 1) h3)
    rw [pennantref21_Same.l0, if_pos (by omega), if_pos (by omega), if_pos (by omega), if_neg (by simp), e1]
theorem same_self (all : List S34) (hall : all.length ≤ 4398046511104) : Ev (fun k => pennantref21_Same.f k all all) true := by
  refine Ev.congr (fun k => ?_) (same_ev all hall _ 0 rfl)
  unfold pennantref21_Same.f
  rw [if_pos rfl]; rfl
theorem done_len (o : Option (List Fl)) : (done o).1.length ≤ 32 := by
  unfold done
  split
  · simp
  · split
    · simp
    · simp only [List.length_map]; omega
theorem FieldsReads : pennantlaw21_FieldsReads.Pure := by
  intro s n hs hn
  have h1 := parse_told s hs
  have h2 := ref_told s hs
  have hl : (if 4096 < s.size then (([] : List S34), (2 : Int)) else done (formL s.data.toList)).1.length ≤ 32 := by
    split
    · simp
    · exact done_len _
  generalize (if 4096 < s.size then (([] : List S34), (2 : Int)) else done (formL s.data.toList)) = R at *
  obtain ⟨L, e⟩ := R
  simp only at hl
  have h3 : Ev (fun k => fields_Find.f k L n) (findS L n) := by
    refine Ev.congr (fun k => ?_) (find_ev L n (by omega) L 0 rfl)
    unfold fields_Find.f; rfl
  have h4 : Ev (fun k => pennantref21_Find.f k L n) (findS L n) := by
    refine Ev.congr (fun k => ?_) (ref_find_ev L n (by omega) L 0 rfl)
    unfold pennantref21_Find.f; rfl
  have h5 := same_self L (by omega)
  obtain ⟨K0, g0⟩ := awake_ev
  obtain ⟨K1, g1⟩ := h1
  obtain ⟨K2, g2⟩ := h2
  obtain ⟨K3, g3⟩ := h3
  obtain ⟨K4, g4⟩ := h4
  obtain ⟨K5, g5⟩ := h5
  simp only at g0 g1 g2 g3 g4 g5
  refine ⟨K0 + K1 + K2 + K3 + K4 + K5, ?_⟩
  unfold pennantlaw21_FieldsReads.f
  rw [g0 _ (by omega), bsome, if_pos rfl, g1 _ (by omega), bsome, g2 _ (by omega), bsome, g3 _ (by omega), bsome, g4 _ (by omega), bsome, g5 _ (by omega), bsome, if_pos rfl, if_pos rfl, if_pos rfl]
  simp
end Go.Proofs.YtmddmlmmmgbejaaDoor.Pure
