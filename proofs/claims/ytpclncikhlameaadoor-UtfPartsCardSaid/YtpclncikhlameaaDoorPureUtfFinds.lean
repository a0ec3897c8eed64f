/- UtfFinds, the plain law: where a part is told to stand it is cut out, and ahead of there it nowhere is. -/
import Derived.Test.YtpclncikhlameaaDoorPureUtfCuts
import Derived.Test.YtpclncikhlameaaDoorPUtfx8
import Derived.OpenShut
namespace Go.Proofs.YtpclncikhlameaaDoor.Pure
open Go.RowKit Go.Proofs.YtpclncikhlameaaDoor.PUtf Go.Proofs.YtpclncikhlameaaDoorW.PrintWords Go.Proofs.YtpclncikhlameaaDoorW.PrintLast Go.Proofs.YtpclncikhlameaaDoor.Hand
set_option linter.unusedVariables false

theorem toList_inj {a b : ByteArray} (h : a.toList = b.toList) : a = b := by
  rw [Lib.toList_data, Lib.toList_data] at h
  apply ByteArray.ext
  exact Array.ext' h
theorem extract_extract (w : ByteArray) (a b c : Nat) (h : a + c ≤ b) (hb : b ≤ w.size) : (w.extract a b).extract 0 c = w.extract a (a + c) := by
  apply ByteArray.ext
  simp only [ByteArray.data_extract]
  rw [Array.extract_extract]
  congr 1
  omega
/-- Does the part stand at unit i? -/
def standsAt (w p : ByteArray) (i : Nat) : Prop := w.extract (2 * i) (2 * i + p.size) = p
theorem prefix_is (w p : ByteArray) (i : Nat) (h : 2 * i + p.size ≤ w.size) : strings_HasPrefix.f (w.extract (2 * i) w.size) p = some ((w.extract (2 * i) (2 * i + p.size)).toList == p.toList) := by
  have hs : (w.extract (2 * i) w.size).size = w.size - 2 * i := by rw [ByteArray.size_extract]; omega
  unfold strings_HasPrefix.f stringslite_HasPrefix.f
  rw [if_pos (by omega), if_pos (by omega), if_pos (by omega)]
  simp only [bsome, Int.toNat_natCast]
  rw [extract_extract w _ _ _ h (Nat.le_refl _)]
theorem find_go (w p : ByteArray) (hw : w.size ≤ 140737488351232) (hp : p.size ≤ 140737488351232) (L n : Nat) (hL : w.size = 2 * L) (hn : p.size = 2 * n) : ∀ (d k i : Nat), L + 1 - i < d → d ≤ k → i ≤ L + 1000 → ∃ r : Int, utf_Find.l0 k w p i = some r ∧
    ((r = -1 ∧ ∀ j, i ≤ j → j + n ≤ L → ¬ standsAt w p j) ∨ (∃ m : Nat, r = m ∧ i ≤ m ∧ m + n ≤ L ∧ standsAt w p m ∧ ∀ j, i ≤ j → j < m → ¬ standsAt w p j)) := by
  intro d
  induction d with
  | zero => intro k i h; exact absurd h (by omega)
  | succ d ih =>
    intro k i hd hk hi
    obtain ⟨k, rfl⟩ : ∃ m, k = m + 1 := ⟨k - 1, by omega⟩
    have e1 := Aside0.mk (show wrap64 ((L : Int) - (n : Int)) = (L : Int) - (n : Int) from wrap_id (by omega) (by omega))
    simp only [utf_Find.l0]
    rw [len_is w hw, hL, show 2 * L / 2 = L from by omega]
    simp only [bsome]
    rw [len_is p hp, hn, show 2 * n / 2 = n from by omega]
    simp only [bsome, e1.out]
    by_cases c : (i : Int) ≤ (L : Int) - (n : Int)
    · have e2 := Aside0.mk (dbl i (by omega))
      have e3 := Aside0.mk (show wrap64 ((i : Int) + 1) = ((i + 1 : Nat) : Int) from by rw [show (i : Int) + 1 = ((i + 1 : Nat) : Int) from by omega]; exact wrap_big _ (by omega))
      rw [if_pos c, e2.out, if_pos (by omega), if_pos (by omega)]
      simp only [Int.toNat_natCast]
      have hx := prefix_is w p i (by omega)
      rw [hL] at hx
      rw [hx]
      simp only [bsome]
      by_cases c2 : (w.extract (2 * i) (2 * i + p.size)).toList = p.toList
      · have hst : standsAt w p i := toList_inj c2
        rw [if_pos (by simp [c2])]
        exact ⟨i, rfl, .inr ⟨i, rfl, Nat.le_refl _, by omega, hst, fun j h1 h2 => absurd h1 (by omega)⟩⟩
      · have hst : ¬ standsAt w p i := fun h => c2 (by rw [h])
        rw [if_neg (by simp [c2]), e3.out]
        obtain ⟨r, h1, h2⟩ := ih k (i + 1) (by omega) (by omega) (by omega)
        refine ⟨r, h1, ?_⟩
        rcases h2 with ⟨rfl, h3⟩ | ⟨m, h3, h4, h5, h6, h7⟩
        · refine .inl ⟨rfl, fun j h4 h5 => ?_⟩
          by_cases e : j = i
          · rw [e]; exact hst
          · exact h3 j (by omega) h5
        · refine .inr ⟨m, h3, by omega, h5, h6, fun j h8 h9 => ?_⟩
          by_cases e : j = i
          · rw [e]; exact hst
          · exact h7 j (by omega) h9
    · rw [if_neg c]
      exact ⟨-1, rfl, .inl ⟨rfl, fun j h1 h2 => absurd h2 (by omega)⟩⟩
theorem find_is (w p : ByteArray) (from_ : Nat) (hf : from_ ≤ 900) (hw : w.size ≤ 140737488351232) (hp : p.size ≤ 140737488351232) (L n : Nat) (hL : w.size = 2 * L) (hn : p.size = 2 * n) (k : Nat) (hk : L + 2 ≤ k) : ∃ r : Int, utf_Find.f k w p (from_ : Int) = some r ∧
    ((r = -1 ∧ ∀ j, from_ ≤ j → j + n ≤ L → ¬ standsAt w p j) ∨ (∃ m : Nat, r = m ∧ from_ ≤ m ∧ m + n ≤ L ∧ standsAt w p m ∧ ∀ j, from_ ≤ j → j < m → ¬ standsAt w p j)) := by
  unfold utf_Find.f
  rw [len_is w hw, hL, show 2 * L / 2 = L from by omega]
  simp only [bsome]
  have e1 := Aside0.mk (dbl L (by omega))
  have e2 := Aside0.mk (dbl n (by omega))
  rw [e1.out, if_pos (by omega), if_pos (by omega), len_is p hp, hn, show 2 * n / 2 = n from by omega]
  simp only [bsome]
  rw [e2.out, if_pos (by omega), if_pos (by omega)]
  simp only [Int.toNat_natCast]
  rw [extract_all w _ (by omega), extract_all p _ (by omega)]
  have e3 : mx (from_ : Int) 0 = (from_ : Int) := by unfold mx; split <;> omega
  rw [e3]
  exact find_go w p hw hp L n hL hn (L + 2) k from_ (by omega) hk (by omega)
/-- Cut at a place is what stands there. -/
theorem cut_at (w p : ByteArray) (i L n : Nat) (hw : w.size ≤ 140737488351232) (hL : w.size = 2 * L) (hn : p.size = 2 * n) (h : i + n ≤ L) : utf_Cut.f w (i : Int) ((i + n : Nat) : Int) = some (w.extract (2 * i) (2 * i + p.size)) := by
  rw [cut_is w _ _ hw]
  have a1 : clampN (i : Int) (w.size / 2) = i := by unfold clampN; rw [Int.toNat_natCast]; omega
  have a2 : clampN ((i + n : Nat) : Int) (w.size / 2) = i + n := by unfold clampN; rw [Int.toNat_natCast]; omega
  rw [a1, a2, hn, show 2 * (i + n) = 2 * i + 2 * n from by omega]
theorem finds_loop (w p : ByteArray) (x2 : Nat) (hx : x2 ≤ 255) (hw : w.size ≤ 2000) (hp : p.size ≤ 2000) (L n : Nat) (hL : w.size = 2 * L) (hn : p.size = 2 * n) (r : Int)
    (hr : (r = -1 ∧ ∀ j, x2 ≤ j → j + n ≤ L → ¬ standsAt w p j) ∨ (∃ m : Nat, r = m ∧ x2 ≤ m ∧ m + n ≤ L ∧ standsAt w p m ∧ ∀ j, x2 ≤ j → j < m → ¬ standsAt w p j)) :
    ∀ (d k i : Nat), L + 1 - i < d → 2 * d + 2 ≤ k → x2 ≤ i → i ≤ L + 1000 → pennantlaw01_UtfFinds.l0 k w p (x2 : Int) (n : Int) r (i : Int) = some true := by
  intro d
  induction d with
  | zero => intro k i h; exact absurd h (by omega)
  | succ d ih =>
    intro k i hd hk hi hi2
    obtain ⟨k, rfl⟩ : ∃ m, k = m + 1 + 1 := ⟨k - 2, by omega⟩
    have e1 := Aside0.mk (show wrap64 ((L : Int) - (n : Int)) = (L : Int) - (n : Int) from wrap_id (by omega) (by omega))
    simp only [pennantlaw01_UtfFinds.l0]
    rw [len_is w (by omega), hL, show 2 * L / 2 = L from by omega]
    simp only [bsome, e1.out]
    -- what stands behind the loop
    have last : pennantlaw01_UtfFinds.j2 (k + 1) w p (x2 : Int) (n : Int) r (i : Int) false = some true := by
      simp only [pennantlaw01_UtfFinds.j2, Bool.false_eq_true, if_false]
      rcases hr with ⟨rfl, _⟩ | ⟨m, rfl, h1, h2, h3, _⟩
      · rw [if_pos rfl]
      · have e2 := Aside0.mk (show wrap64 (x2 : Int) = x2 from wrap_big x2 (by omega))
        have e3 := Aside0.mk (show wrap64 ((m : Int) + (n : Int)) = ((m + n : Nat) : Int) from wrap_big (m + n) (by omega))
        rw [if_neg (by omega), e2.out, if_pos (by omega), len_is w (by omega), hL, show 2 * L / 2 = L from by omega]
        simp only [bsome]
        rw [e3.out, if_pos (by omega), cut_at w p m L n (by omega) hL hn h2]
        simp only [bsome]
        rw [h3]
        simp
    -- a round
    have round : i + n ≤ L → ¬ standsAt w p i → pennantlaw01_UtfFinds.j2 (k + 1) w p (x2 : Int) (n : Int) r (i : Int) true = some true := by
      intro h1 h2
      have e3 := Aside0.mk (show wrap64 ((i : Int) + (n : Int)) = ((i + n : Nat) : Int) from wrap_big (i + n) (by omega))
      have e4 := Aside0.mk (show wrap64 ((i : Int) + 1) = ((i + 1 : Nat) : Int) from wrap_add i 1 (by omega))
      simp only [pennantlaw01_UtfFinds.j2, if_true, e3.out, e4.out]
      rw [cut_at w p i L n (by omega) hL hn h1]
      simp only [bsome]
      rw [if_neg (fun h => h2 (toList_inj h))]
      exact ih k (i + 1) (by omega) (by omega) (by omega) (by omega)
    by_cases c : (i : Int) ≤ (L : Int) - (n : Int)
    · rw [if_pos c]
      rcases hr with ⟨rfl, h3⟩ | ⟨m, rfl, h1, h2, h3, h4⟩
      · rw [if_pos (by omega)]
        exact round (by omega) (h3 i hi (by omega))
      · rw [if_neg (by omega)]
        by_cases c2 : i < m
        · have e : decide ((i : Int) < (m : Int)) = true := by simp; omega
          rw [e]
          exact round (by omega) (h4 i hi c2)
        · have e : decide ((i : Int) < (m : Int)) = false := by simp; omega
          rw [e]
          exact last
    · rw [if_neg c]
      exact last
theorem UtfFinds : pennantlaw01_UtfFinds.Pure := by
  intro w p x hw hp hx
  obtain ⟨h0, h1⟩ : 0 ≤ x ∧ x ≤ 255 := bounds_u8 hx
  obtain ⟨x2, rfl⟩ := Int.eq_ofNat_of_zero_le h0
  refine ⟨5000 + 1, ?_⟩
  have yes : pennantlaw01_UtfFinds.j0 (5000 + 1) w p (x2 : Int) true = some true := by simp only [pennantlaw01_UtfFinds.j0, if_true]
  unfold pennantlaw01_UtfFinds.f
  rw [awake_true _ (by omega)]
  simp only [bsome, if_true]
  by_cases c1 : (w.size : Int) > 2000
  · rw [if_pos c1]; exact yes
  by_cases c2 : (p.size : Int) > 2000
  · rw [if_neg c1, if_pos c2]; exact yes
  by_cases c3 : (w.size : Int) % 2 = 0
  · by_cases c4 : (p.size : Int) % 2 = 0
    · have e : (((p.size : Int) % 2) != 0) = false := by simp [c4]
      rw [if_neg c1, if_neg c2, if_pos c3, e]
      obtain ⟨L, hL⟩ : ∃ L, w.size = 2 * L := ⟨w.size / 2, by omega⟩
      obtain ⟨n, hn⟩ : ∃ n, p.size = 2 * n := ⟨p.size / 2, by omega⟩
      have e2 := Aside0.mk (show wrap64 (x2 : Int) = x2 from wrap_big x2 (by omega))
      simp only [pennantlaw01_UtfFinds.j0, Bool.false_eq_true, if_false, e2.out]
      rw [len_is p hp, hn, show 2 * n / 2 = n from by omega]
      simp only [bsome]
      obtain ⟨r, hr, hrr⟩ := find_is w p x2 (by omega) hw hp L n hL hn 5000 (by omega)
      rw [hr]
      simp only [bsome]
      exact finds_loop w p x2 (by omega) (by omega) (by omega) L n hL hn r hrr (L + 2) 5000 x2 (by omega) (by omega) (Nat.le_refl _) (by omega)
    · have e : (((p.size : Int) % 2) != 0) = true := by simp [c4]
      rw [if_neg c1, if_neg c2, if_pos c3, e]; exact yes
  · rw [if_neg c1, if_neg c2, if_neg c3]; exact yes
end Go.Proofs.YtpclncikhlameaaDoor.Pure
