/- UtfTurns, the plain law: both texts of Wide and of Narrow answer one, at every two texts of at most 4000 bytes. -/
import Derived.Test.YtpclncikhlameaaDoorPureD
namespace Go.Proofs.YtpclncikhlameaaDoor.Pure
open Go.RowKit Go.Proofs.YtpclncikhlameaaDoor.PUtf Go.Proofs.YtpclncikhlameaaDoorW.PrintWords Go.Proofs.YtpclncikhlameaaDoorW.PrintLast Go.Proofs.YtpclncikhlameaaDoor.Hand
set_option linter.unusedVariables false

/-- As Option.bind_some, but no law by sight: the kernel is not asked to reckon. -/
theorem bsome {α β : Type} (a : α) (f : α → Option β) : (some a).bind f = f a := by
  have h := Option.bind_some a f
  exact h
theorem rpair_nat (u v : Nat) (h : hiS u) (k : loS v) : wrap64 (wrap64 (wrap64 (65536 + wrap64 (wrap64 ((u : Int) - 55296) * 1024)) + (v : Int)) - 56320) = ((pairC u v : Nat) : Int) := by
  unfold hiS at h; unfold loS at k
  rw [show (u : Int) - 55296 = ((u - 55296 : Nat) : Int) from by omega, wrap_nat _ (by omega), show ((u - 55296 : Nat) : Int) * 1024 = (((u - 55296) * 1024 : Nat) : Int) from by omega, wrap_nat _ (by omega),
    show (65536 : Int) + (((u - 55296) * 1024 : Nat) : Int) = ((65536 + (u - 55296) * 1024 : Nat) : Int) from by omega, wrap_nat _ (by omega), show ((65536 + (u - 55296) * 1024 : Nat) : Int) + (v : Int) = ((65536 + (u - 55296) * 1024 + v : Nat) : Int) from by omega, wrap_nat _ (by omega),
    show ((65536 + (u - 55296) * 1024 + v : Nat) : Int) - 56320 = ((65536 + (u - 55296) * 1024 + (v - 56320) : Nat) : Int) from by omega, wrap_nat _ (by omega)]
  unfold pairC; rfl
theorem fits (acc : List Int) (c : Nat) (h : acc.length ≤ 100000000) : (strOfNums acc).size + (strOfNums (enc8 c)).size ≤ 9223372036854775807 := by
  have hc := enc8_len c
  rw [strOfNums_len, strOfNums_len]
  omega
theorem rnarrow_go (w : ByteArray) (hs : w.size ≤ 1000000) : ∀ (f k i : Nat) (acc : List Int), w.size / 2 - i < f → 3 * f + 1 ≤ k → acc.length ≤ 4 * i → i ≤ w.size / 2 + 2 → pennantref01_Narrow.l0 k w (strOfNums acc) i = some (strOfNums (acc ++ (nw w (w.size / 2) f i).flatMap enc8), 0) := by
  intro f
  induction f with
  | zero => intro k i acc hf; exact absurd hf (by omega)
  | succ f ih =>
    intro k i acc hf hk hl hi
    obtain ⟨k, rfl⟩ : ∃ m, k = m + 1 + 1 + 1 := ⟨k - 3, by omega⟩
    have hU := U_lt w i
    have e1 := Aside0.mk (show wrap64 ((i : Int) + 1) = ((i + 1 : Nat) : Int) from wrap_add i 1 (by omega))
    have e2 := Aside0.mk (show wrap64 (((i + 1 : Nat) : Int) + 1) = ((i + 2 : Nat) : Int) from wrap_add (i + 1) 1 (by omega))
    have e0 := Aside0.mk (show wrap64 ((w.size : Int) / 2) = ((w.size / 2 : Nat) : Int) from wrap_nat (w.size / 2) (by omega))
    simp only [pennantref01_Narrow.l0, e0.out, e1.out]
    by_cases c1 : i < w.size / 2
    · rw [if_pos (by omega), rat_in w i (by omega) c1]
      simp only [bsome]
      have J : ∀ (b : Bool) (t : Int), (b = true → i + 1 < w.size / 2 ∧ hiS (U w i) ∧ loS (U w (i + 1)) ∧ t = (U w (i + 1) : Int)) → (b = false → ¬ (i + 1 < w.size / 2 ∧ hiS (U w i) ∧ loS (U w (i + 1)))) →
          pennantref01_Narrow.j1 (k + 1 + 1) w (strOfNums acc) i (U w i : Int) t b = some (strOfNums (acc ++ (nw w (w.size / 2) (f + 1) i).flatMap enc8), 0) := by
        intro b t hb1 hb2
        simp only [pennantref01_Narrow.j1, e1.out, e2.out]
        cases b with
        | true =>
          obtain ⟨g1, g2, g3, rfl⟩ := hb1 rfl
          rw [if_pos rfl, nw_pair g1 g2 g3, rpair_nat _ _ g2 g3]
          have hm : pennantref01_bytes.f ((pairC (U w i) (U w (i + 1)) : Nat) : Int) = some (strOfNums (enc8 (pairC (U w i) (U w (i + 1))))) := rbytes_is _ (pair_valid _ _ g2 g3)
          have s2 : ∀ m, m + 1 = k + 1 + 1 → m = k + 1 := fun m h => by omega
          have hc := enc8_len (pairC (U w i) (U w (i + 1)))
          rw [hm]
          simp only [bsome]
          rw [if_pos (fits acc _ (by omega)), ← strOfNums_append, ih (k + 1) (i + 2) _ (by omega) (by omega) (by rw [List.length_append]; omega) (by omega), List.flatMap_cons, List.append_assoc]
        | false =>
          rw [if_neg (by simp), nw_lone c1 (hb2 rfl)]
          have J2 : ∀ b : Bool, b = decide (55296 ≤ U w i ∧ U w i < 57344) → pennantref01_Narrow.j2 (k + 1) w (strOfNums acc) i (U w i : Int) b = some (strOfNums (acc ++ (lone (U w i) :: nw w (w.size / 2) f (i + 1)).flatMap enc8), 0) := by
            rintro b rfl
            simp only [pennantref01_Narrow.j2, decide_eq_true_eq, e1.out]
            by_cases c2 : 55296 ≤ U w i ∧ U w i < 57344
            · have hm := rbytes_is 65533 valid_fffd
              rw [fffd] at hm
              have hc := enc8_len 65533
              rw [if_pos c2, lone_in c2, hm]
              simp only [bsome]
              rw [if_pos (fits acc _ (by omega)), ← strOfNums_append, ih k (i + 1) _ (by omega) (by omega) (by rw [List.length_append]; omega) (by omega), List.flatMap_cons, List.append_assoc]
            · have hc := enc8_len (U w i)
              rw [if_neg c2, lone_out c2, rbytes_is (U w i) (by unfold validC; omega)]
              simp only [bsome]
              rw [if_pos (fits acc _ (by omega)), ← strOfNums_append, ih k (i + 1) _ (by omega) (by omega) (by rw [List.length_append]; omega) (by omega), List.flatMap_cons, List.append_assoc]
          by_cases c : (U w i : Int) ≥ 55296
          · rw [if_pos c]
            exact J2 _ (by rw [decide_eq_decide]; omega)
          · rw [if_neg c]
            exact J2 _ (by symm; rw [decide_eq_false_iff_not]; omega)
      by_cases c3 : i + 1 < w.size / 2
      · have hV := U_lt w (i + 1)
        rw [rat_in w (i + 1) (by omega) c3]
        simp only [bsome]
        by_cases d1 : (U w i : Int) ≥ 55296
        · rw [if_pos d1]
          by_cases d2 : (U w i : Int) ≤ 56319
          · rw [if_pos d2]
            by_cases d3 : (U w (i + 1) : Int) ≥ 56320
            · rw [if_pos d3]
              exact J _ _ (fun h => ⟨c3, by unfold hiS; omega, by have := of_decide_eq_true h; unfold loS; omega, rfl⟩) (fun h hh => by have := of_decide_eq_false h; have := hh.2.2; unfold loS at this; omega)
            · rw [if_neg d3]
              exact J _ _ (fun h => by cases h) (fun _ hh => by have := hh.2.2; unfold loS at this; omega)
          · rw [if_neg d2]
            exact J _ _ (fun h => by cases h) (fun _ hh => by have := hh.2.1; unfold hiS at this; omega)
        · rw [if_neg d1]
          exact J _ _ (fun h => by cases h) (fun _ hh => by have := hh.2.1; unfold hiS at this; omega)
      · rw [rat_out w _ (by omega) (.inr (by omega))]
        simp only [bsome]
        have J0 := J false (-1) (fun h => by cases h) (fun _ hh => c3 hh.1)
        by_cases d1 : (U w i : Int) ≥ 55296
        · rw [if_pos d1]
          by_cases d2 : (U w i : Int) ≤ 56319
          · rw [if_pos d2, if_neg (by omega)]; exact J0
          · rw [if_neg d2]; exact J0
        · rw [if_neg d1]; exact J0
    · rw [if_neg (by omega), nw_end c1]; simp
theorem rnarrow_is (w : ByteArray) (hs : w.size ≤ 1000000) (k : Nat) (hk : 3 * w.size + 8 ≤ k) :
    pennantref01_Narrow.f k w = some (if w.size % 2 = 0 then (strOfNums ((nw w (w.size / 2) (w.size / 2 + 1) 0).flatMap enc8), 0) else (⟨#[]⟩, 11)) := by
  unfold pennantref01_Narrow.f
  by_cases c : w.size % 2 = 0
  · rw [if_neg (by omega), if_pos c]
    exact rnarrow_go w hs (w.size / 2 + 1) k 0 [] (by omega) (by omega) (by simp) (by omega)
  · rw [if_pos (by omega), if_neg c]
theorem UtfTurns : pennantlaw01_UtfTurns.Pure := by
  intro a w ha hw
  refine ⟨20000 + 1, ?_⟩
  have hj : ∀ b : Bool, pennantlaw01_UtfTurns.j0 (20000 + 1) a w b = some true ∨ (b = false ∧ ¬ (a.size ≤ 4000 ∧ w.size ≤ 4000)) := by
    intro b
    cases b with
    | true => left; simp only [pennantlaw01_UtfTurns.j0, if_true]
    | false =>
      by_cases hs : a.size ≤ 4000 ∧ w.size ≤ 4000
      · left
        simp only [pennantlaw01_UtfTurns.j0, Bool.false_eq_true, if_false]
        rw [wide_is a (by omega) 20000 (by omega), rwide_is a (by omega) 20000 (by omega), narrow_is w (by omega) 20000 (by omega), rnarrow_is w (by omega) 20000 (by omega)]
        simp
      · right; exact ⟨rfl, hs⟩
  unfold pennantlaw01_UtfTurns.f
  rw [awake_true _ (by omega)]
  simp only [bsome, if_true]
  by_cases c1 : (a.size : Int) > 4000
  · rw [if_pos c1]
    exact (hj true).resolve_right (fun h => by cases h.1)
  · rw [if_neg c1]
    rcases hj (decide ((w.size : Int) > 4000)) with h | ⟨h1, h2⟩
    · exact h
    · have := of_decide_eq_false h1
      exact absurd ⟨by omega, by omega⟩ h2
end Go.Proofs.YtpclncikhlameaaDoor.Pure
