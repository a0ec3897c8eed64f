/- UtfCuts and UtfJoins, the plain laws: a text that is cut in two is both parts; two texts joined are both, and are cut apart again. -/
import Derived.Test.YtpclncikhlameaaDoorPureUtfBack
import Derived.Test.YtpclncikhlameaaDoorPUtfx10
import Derived.OpenShut
namespace Go.Proofs.YtpclncikhlameaaDoor.Pure
open Go.RowKit Go.Proofs.YtpclncikhlameaaDoor.PUtf Go.Proofs.YtpclncikhlameaaDoorW.PrintWords Go.Proofs.YtpclncikhlameaaDoorW.PrintLast Go.Proofs.YtpclncikhlameaaDoor.Hand
set_option linter.unusedVariables false

/-- A place, as Cut takes it: between nought and the length. -/
def clampN (x : Int) (n : Nat) : Nat := min x.toNat n
theorem clamp_is (x : Int) (n : Nat) : mn (mx x 0) (n : Int) = (clampN x n : Int) := by unfold mn mx clampN; split <;> split <;> omega
theorem wrap_big (n : Nat) (h : n ≤ 140737488351232) : wrap64 (n : Int) = n := wrap_id (by omega) (by omega)
theorem dbl (n : Nat) (h : 2 * n ≤ 140737488351232) : wrap64 (2 * (n : Int)) = ((2 * n : Nat) : Int) := wrap_big (2 * n) h
theorem extract_none (w : ByteArray) (a b : Nat) (h : b ≤ a) : w.extract a b = ⟨#[]⟩ := by
  apply ByteArray.ext
  apply Array.ext'
  simp
  omega
theorem cut_is (w : ByteArray) (x y : Int) (hs : w.size ≤ 140737488351232) : utf_Cut.f w x y = some (w.extract (2 * clampN x (w.size / 2)) (2 * clampN y (w.size / 2))) := by
  have h1 : clampN x (w.size / 2) ≤ w.size / 2 := Nat.min_le_right _ _
  have h2 : clampN y (w.size / 2) ≤ w.size / 2 := Nat.min_le_right _ _
  unfold utf_Cut.f
  rw [len_is w hs]
  simp only [bsome]
  rw [clamp_is, clamp_is]
  by_cases c : clampN y (w.size / 2) ≤ clampN x (w.size / 2)
  · rw [if_pos (by omega), extract_none _ _ _ (by omega)]
  · rw [if_neg (by omega), dbl _ (by omega), dbl _ (by omega), if_pos (by omega), if_pos (by omega), if_pos (by omega)]
    rfl
theorem extract_join (w : ByteArray) (a b c : Nat) (h : a ≤ b) (k : b ≤ c) (hc : c ≤ w.size) : w.extract a b ++ w.extract b c = w.extract a c := by
  apply ByteArray.ext
  have := hc
  simp only [ByteArray.data_append, ByteArray.data_extract]
  rw [Array.extract_append_extract]
  congr 1
  all_goals omega
theorem extract_all (w : ByteArray) (n : Nat) (h : w.size ≤ n) : w.extract 0 n = w := by
  apply ByteArray.ext
  simp only [ByteArray.data_extract]
  rw [Array.extract_eq_self_of_le]
  exact h
theorem UtfCuts : pennantlaw01_UtfCuts.Pure := by
  intro w k hs hk
  refine ⟨20, ?_⟩
  unfold pennantlaw01_UtfCuts.f
  rw [awake_true _ (by omega)]
  simp only [bsome, if_true]
  by_cases c : w.size % 2 = 0
  · obtain ⟨h0, h1⟩ : 0 ≤ k ∧ k ≤ 65535 := bounds_u16 hk
    obtain ⟨kn, rfl⟩ := Int.eq_ofNat_of_zero_le h0
    rw [if_pos (by omega), len_is w hs]
    simp only [bsome]
    have e1 : wrap64 (((w.size / 2 : Nat) : Int) + 1) = ((w.size / 2 + 1 : Nat) : Int) := wrap_big (w.size / 2 + 1) (by omega)
    have e2 : wrap64 (kn : Int) = kn := wrap_big kn (by omega)
    rw [e1, e2]
    clear e1 e2
    have e3 : Int.tmod (kn : Int) ((w.size / 2 + 1 : Nat) : Int) = ((kn % (w.size / 2 + 1) : Nat) : Int) := by rw [Int.tmod_eq_emod_of_nonneg (by omega)]; rfl
    rw [e3, if_neg (by omega)]
    clear e3
    have hlt : kn % (w.size / 2 + 1) < w.size / 2 + 1 := Nat.mod_lt _ (by omega)
    generalize kn % (w.size / 2 + 1) = i at *
    rw [cut_is w _ _ hs]
    simp only [bsome]
    rw [cut_is w _ _ hs]
    simp only [bsome]
    have a0 : clampN 0 (w.size / 2) = 0 := by unfold clampN; simp
    have a1 : clampN ((i : Nat) : Int) (w.size / 2) = i := by unfold clampN; rw [Int.toNat_natCast]; omega
    have a2 : clampN ((w.size / 2 : Nat) : Int) (w.size / 2) = w.size / 2 := by unfold clampN; rw [Int.toNat_natCast]; omega
    rw [a0, a1, a2, dbl _ (by omega), if_pos (by omega)]
    have s1 : (w.extract (2 * 0) (2 * i)).size = 2 * i := by rw [ByteArray.size_extract]; omega
    have s2 : (w.extract (2 * i) (2 * (w.size / 2))).size = 2 * (w.size / 2) - 2 * i := by rw [ByteArray.size_extract]; omega
    rw [if_pos (by rw [s1, s2]; omega), extract_join w _ _ _ (by omega) (by omega) (by omega), extract_all w _ (by omega), if_pos rfl, len_is _ (by omega), s1, show 2 * i / 2 = i from by omega]
    simp only [bsome, if_true]
    rw [len_is _ (by omega), s2]
    simp only [bsome]
    have e4 : wrap64 (((w.size / 2 : Nat) : Int) - (i : Int)) = (((2 * (w.size / 2) - 2 * i) / 2 : Nat) : Int) := by rw [show ((w.size / 2 : Nat) : Int) - (i : Int) = (((2 * (w.size / 2) - 2 * i) / 2 : Nat) : Int) from by omega, wrap_big _ (by omega)]
    rw [e4]
    simp
  · rw [if_neg (by omega)]
/-- Wide at any text of few bytes: the text's units, or none. -/
theorem wide_any (a : ByteArray) (hs : a.size ≤ 100000) (k : Nat) (hk : a.size + 2 ≤ k) :
    (∃ cs : List Nat, (∀ c ∈ cs, validC c) ∧ a = strOfNums (cs.flatMap enc8) ∧ cs.length ≤ a.size ∧ utf_Wide.f k a = some (ofU (cs.flatMap unitsN), 0, 0)) ∨ (∃ j : Int, utf_Wide.f k a = some (⟨#[]⟩, j, 10)) := by
  rw [wide_is a (by omega) k hk]
  rcases wd_cases a (a.size + 1) 0 [] (by omega) (by omega) with ⟨cs, hv, hd, he⟩ | ⟨j, h1, h2, he⟩
  · refine .inl ⟨cs, hv, ?_, ?_, ?_⟩
    · rw [← hd, List.drop_zero, strOfNums_bytesOf]
    · have g1 := enc_flat_len cs
      have g2 := congrArg List.length hd
      rw [List.drop_zero, bytesOf_length] at g2
      omega
    · rw [he, List.nil_append, flat_N]; rfl
  · exact .inr ⟨j, by rw [he]⟩
theorem ofU_append (us vs : List Nat) : ofU (us ++ vs) = ofU us ++ ofU vs := by unfold ofU; rw [List.flatMap_append, strOfNums_append]
theorem UtfJoins : pennantlaw01_UtfJoins.Pure := by
  intro a b ha hb
  refine ⟨40000 + 1 + 1, ?_⟩
  have hj : a.size ≤ 4000 → b.size ≤ 4000 → pennantlaw01_UtfJoins.j0 (40000 + 1 + 1) a b false = some true := by
    intro ha4 hb4
    simp only [pennantlaw01_UtfJoins.j0, Bool.false_eq_true, if_false]
    rcases wide_any a (by omega) (40000 + 1) (by omega) with ⟨cs, hv, rfl, hl, he⟩ | ⟨j, he⟩
    · rcases wide_any b (by omega) (40000 + 1) (by omega) with ⟨ds, hv2, rfl, hl2, he2⟩ | ⟨j2, he2⟩
      · rw [he, bsome, he2, bsome]
        simp only [if_true]
        have e1 : ((0 : Int) != 0) = false := by decide
        rw [e1]
        simp only [pennantlaw01_UtfJoins.j1, Bool.false_eq_true, if_false]
        have hn := (flatN_len cs).2
        have hn2 := (flatN_len ds).2
        have z1 := ofU_size (cs.flatMap unitsN)
        have z2 := ofU_size (ds.flatMap unitsN)
        have hw := wide_of (cs ++ ds) (fun c hc => (List.mem_append.1 hc).elim (hv c) (hv2 c)) (by rw [List.length_append]; omega) 40000 (by rw [List.length_append]; omega)
        rw [List.flatMap_append, List.flatMap_append, strOfNums_append, ofU_append] at hw
        generalize hX : ofU (cs.flatMap unitsN) = X at *
        generalize hY : ofU (ds.flatMap unitsN) = Y at *
        have zs : (X ++ Y).size = X.size + Y.size := ByteArray.size_append ..
        rw [if_pos (by omega), hw, bsome, len_is X (by omega), bsome]
        simp only [if_true]
        rw [if_pos (by omega)]
        rw [len_is (X ++ Y) (by omega), bsome, len_is Y (by omega), bsome, zs]
        have e2 : wrap64 (((X.size / 2 : Nat) : Int) + ((Y.size / 2 : Nat) : Int)) = (((X.size + Y.size) / 2 : Nat) : Int) := by
          rw [show ((X.size / 2 : Nat) : Int) + ((Y.size / 2 : Nat) : Int) = (((X.size + Y.size) / 2 : Nat) : Int) from by omega, wrap_big _ (by omega)]
        rw [e2, if_pos rfl, cut_is _ _ _ (by omega), bsome, zs]
        have a0 : ∀ n, clampN 0 n = 0 := by intro n; unfold clampN; simp
        have a1 : clampN ((X.size / 2 : Nat) : Int) ((X.size + Y.size) / 2) = X.size / 2 := by unfold clampN; rw [Int.toNat_natCast]; omega
        have a2 : clampN (((X.size + Y.size : Nat)) : Int) ((X.size + Y.size) / 2) = (X.size + Y.size) / 2 := by unfold clampN; rw [Int.toNat_natCast]; omega
        have g1 : (X ++ Y).extract 0 (X.size) = X := by
          apply ByteArray.ext
          simp only [ByteArray.data_extract, ByteArray.data_append]
          have h : (X.data ++ Y.data).extract 0 X.data.size = X.data.extract 0 X.data.size := Array.extract_append_left
          rw [show X.size = X.data.size from rfl, h, Array.extract_eq_self_of_le (Nat.le_refl _)]
        have g2 : (X ++ Y).extract X.size (X.size + Y.size) = Y := by
          apply ByteArray.ext
          simp only [ByteArray.data_extract, ByteArray.data_append]
          have h : (X.data ++ Y.data).extract X.data.size (X.data.size + Y.data.size) = Y.data.extract 0 Y.data.size := Array.extract_append_right
          rw [show X.size = X.data.size from rfl, show Y.size = Y.data.size from rfl, h, Array.extract_eq_self_of_le (Nat.le_refl _)]
        rw [a0, a1, Nat.mul_zero, show 2 * (X.size / 2) = X.size from by omega, g1, if_pos rfl, cut_is _ _ _ (by omega), bsome, zs, a1, a2, show 2 * (X.size / 2) = X.size from by omega, show 2 * ((X.size + Y.size) / 2) = X.size + Y.size from by omega, g2]
        simp
      · rw [he, bsome, he2, bsome]
        simp only [if_true]
        have e1 : ((10 : Int) != 0) = true := by decide
        rw [e1]
        simp only [pennantlaw01_UtfJoins.j1, if_true]
        rw [if_pos empty_list]
        split
        · simp
        · simp
    · have hb2 : ∃ x, utf_Wide.f (40000 + 1) b = some x := by
        rcases wide_any b (by omega) (40000 + 1) (by omega) with ⟨ds, _, _, _, h⟩ | ⟨j2, h⟩
        · exact ⟨_, h⟩
        · exact ⟨_, h⟩
      obtain ⟨x, hx⟩ := hb2
      rw [he, bsome, hx, bsome]
      simp only
      rw [if_neg (by omega)]
      simp only [pennantlaw01_UtfJoins.j1, if_true]
      rw [if_pos empty_list, if_neg (by omega)]
  unfold pennantlaw01_UtfJoins.f
  rw [awake_true _ (by omega)]
  simp only [bsome, if_true]
  by_cases c1 : (a.size : Int) > 4000
  · rw [if_pos c1]
    simp only [pennantlaw01_UtfJoins.j0, if_true]
  · rw [if_neg c1]
    by_cases c2 : (b.size : Int) > 4000
    · have e : decide ((b.size : Int) > 4000) = true := by simp; omega
      rw [e]
      simp only [pennantlaw01_UtfJoins.j0, if_true]
    · have e : decide ((b.size : Int) > 4000) = false := by simp; omega
      rw [e]
      exact hj (by omega) (by omega)
end Go.Proofs.YtpclncikhlameaaDoor.Pure
