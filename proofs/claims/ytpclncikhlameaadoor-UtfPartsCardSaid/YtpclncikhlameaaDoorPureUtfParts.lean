/- UtfParts, the plain law: lengths, units, parts, places and cases are the document's. -/
import Derived.Test.YtpclncikhlameaaDoorPureUtfFinds
import Derived.Test.YtpclncikhlameaaDoorPureUtfCases
import Derived.Test.YtpclncikhlameaaDoorPUtfx7
namespace Go.Proofs.YtpclncikhlameaaDoor.Pure
open Go.RowKit Go.Proofs.YtpclncikhlameaaDoor.PUtf Go.Proofs.YtpclncikhlameaaDoorW.PrintWords Go.Proofs.YtpclncikhlameaaDoorW.PrintLast Go.Proofs.YtpclncikhlameaaDoor.Hand
set_option linter.unusedVariables false

theorem rlen_is (w : ByteArray) (hs : w.size ≤ 140737488351232) : pennantref01_Length.f w = some ((w.size / 2 : Nat) : Int) := by
  unfold pennantref01_Length.f
  rw [show (w.size : Int) / 2 = ((w.size / 2 : Nat) : Int) from by omega, wrap_big _ (by omega)]
theorem mn_clamp (i L : Nat) (y : Int) : (i : Int) < mn y (L : Int) ↔ i < clampN y L := by
  unfold mn clampN
  split <;> omega
theorem rcut_go (w : ByteArray) (hw : w.size ≤ 100000) (y : Int) (L : Nat) (hL : L = w.size / 2) (X : Nat) : ∀ (d k i : Nat), clampN y L - i < d → d ≤ k → X ≤ i → i ≤ L →
    pennantref01_Cut.l0 k w y (w.extract (2 * X) (2 * i)) i = some (w.extract (2 * X) (2 * max i (clampN y L))) := by
  intro d
  induction d with
  | zero => intro k i h; exact absurd h (by omega)
  | succ d ih =>
    intro k i hd hk hi hi2
    obtain ⟨k, rfl⟩ : ∃ m, k = m + 1 := ⟨k - 1, by omega⟩
    simp only [pennantref01_Cut.l0]
    rw [rlen_is w (by omega), bsome, ← hL]
    have hm : clampN y L ≤ L := Nat.min_le_right _ _
    by_cases c : i < clampN y L
    · have e1 := Aside0.mk (dbl i (by omega))
      have e2 := Aside0.mk (show wrap64 (((2 * i : Nat) : Int) + 2) = ((2 * i + 2 : Nat) : Int) from wrap_add (2 * i) 2 (by omega))
      have e3 := Aside0.mk (show wrap64 ((i : Int) + 1) = ((i + 1 : Nat) : Int) from wrap_add i 1 (by omega))
      have s1 : (w.extract (2 * X) (2 * i)).size = 2 * i - 2 * X := by rw [ByteArray.size_extract]; omega
      have s2 : (w.extract (2 * i) (2 * i + 2)).size = 2 := by rw [ByteArray.size_extract]; omega
      rw [if_pos ((mn_clamp i L y).2 c), e1.out, if_pos (by omega), e2.out, if_pos (by omega), if_pos (by omega), e3.out]
      simp only [Int.toNat_natCast]
      rw [if_pos (by rw [s1, s2]; omega), extract_join w _ _ _ (by omega) (by omega) (by omega), show 2 * i + 2 = 2 * (i + 1) from by omega, ih k (i + 1) (by omega) (by omega) (by omega) (by omega)]
      rw [show max (i + 1) (clampN y L) = max i (clampN y L) from by omega]
    · rw [if_neg (fun h => c ((mn_clamp i L y).1 h)), show max i (clampN y L) = i from by omega]
theorem rcut_is (w : ByteArray) (hw : w.size ≤ 100000) (x y : Int) (k : Nat) (hk : w.size + 2 ≤ k) : pennantref01_Cut.f k w x y = some (w.extract (2 * clampN x (w.size / 2)) (2 * clampN y (w.size / 2))) := by
  unfold pennantref01_Cut.f
  have hm : clampN y (w.size / 2) ≤ w.size / 2 := Nat.min_le_right _ _
  by_cases c : mx x 0 ≤ ((w.size / 2 : Nat) : Int)
  · have e : mx x 0 = ((clampN x (w.size / 2) : Nat) : Int) := by unfold clampN; unfold mx at c ⊢; split at c <;> split <;> omega
    have hx : clampN x (w.size / 2) ≤ w.size / 2 := Nat.min_le_right _ _
    have h := rcut_go w hw y (w.size / 2) rfl (clampN x (w.size / 2)) (w.size + 1) k (clampN x (w.size / 2)) (by omega) (by omega) (Nat.le_refl _) hx
    rw [extract_none w _ _ (Nat.le_refl _)] at h
    rw [e, h]
    by_cases d : clampN y (w.size / 2) ≤ clampN x (w.size / 2)
    · rw [extract_none w _ _ (by omega), extract_none w _ _ (by omega)]
    · rw [show max (clampN x (w.size / 2)) (clampN y (w.size / 2)) = clampN y (w.size / 2) from by omega]
  · obtain ⟨k, rfl⟩ : ∃ m, k = m + 1 := ⟨k - 1, by omega⟩
    have e : clampN x (w.size / 2) = w.size / 2 := by unfold clampN; unfold mx at c; split at c <;> omega
    simp only [pennantref01_Cut.l0]
    rw [rlen_is w (by omega), bsome, if_neg (by unfold mn; split <;> omega), extract_none w _ _ (by omega)]

/-- The first place at which the part stands, or none. -/
def FirstAt (w p : ByteArray) (L n F : Nat) (r : Int) : Prop :=
  (r = -1 ∧ ∀ j, F ≤ j → j + n ≤ L → ¬ standsAt w p j) ∨ (∃ m : Nat, r = m ∧ F ≤ m ∧ m + n ≤ L ∧ standsAt w p m ∧ ∀ j, F ≤ j → j < m → ¬ standsAt w p j)
theorem first_one {w p : ByteArray} {L n F : Nat} {r s : Int} (h : FirstAt w p L n F r) (g : FirstAt w p L n F s) : r = s := by
  rcases h with ⟨rfl, h⟩ | ⟨m, rfl, h1, h2, h3, h4⟩ <;> rcases g with ⟨rfl, g⟩ | ⟨m', rfl, g1, g2, g3, g4⟩
  · rfl
  · exact absurd g3 (h _ g1 g2)
  · exact absurd h3 (g _ h1 h2)
  · rcases Nat.lt_trichotomy m m' with c | c | c
    · exact absurd h3 (g4 _ h1 c)
    · rw [c]
    · exact absurd g3 (h4 _ g1 c)
theorem rfind_go (w p : ByteArray) (hw : w.size ≤ 100000) (hp : p.size ≤ 100000) (L n : Nat) (hL : L = w.size / 2) (hn : n = p.size / 2) (F : Nat) : ∀ (d k i : Nat), L + 1 - i < d → d + w.size + 2 ≤ k → F ≤ i → i ≤ L + 1000 →
    (∀ j, F ≤ j → j < i → ¬ standsAt (evenCut w) (evenCut p) j) → ∃ r : Int, pennantref01_Find.l0 k w p n i = some r ∧ FirstAt (evenCut w) (evenCut p) L n F r := by
  intro d
  induction d with
  | zero => intro k i h; exact absurd h (by omega)
  | succ d ih =>
    intro k i hd hk hF hi hno
    obtain ⟨k, rfl⟩ : ∃ m, k = m + 1 := ⟨k - 1, by omega⟩
    have e1 := Aside0.mk (show wrap64 ((L : Int) - (n : Int)) = (L : Int) - (n : Int) from wrap_id (by omega) (by omega))
    simp only [pennantref01_Find.l0]
    rw [rlen_is w (by omega), bsome, ← hL, e1.out]
    by_cases c : (i : Int) ≤ (L : Int) - (n : Int)
    · have e2 := Aside0.mk (show wrap64 ((i : Int) + (n : Int)) = ((i + n : Nat) : Int) from wrap_big (i + n) (by omega))
      have e3 := Aside0.mk (dbl n (by omega))
      have e4 := Aside0.mk (show wrap64 ((i : Int) + 1) = ((i + 1 : Nat) : Int) from wrap_add i 1 (by omega))
      rw [if_pos c, e2.out, rcut_is w hw _ _ k (by omega), bsome, e3.out, if_pos (by omega), if_pos (by omega), e4.out, ← hL]
      simp only [Int.toNat_natCast]
      have a1 : clampN (i : Int) L = i := by unfold clampN; rw [Int.toNat_natCast]; omega
      have a2 : clampN ((i + n : Nat) : Int) L = i + n := by unfold clampN; rw [Int.toNat_natCast]; omega
      have hpe : p.extract 0 (2 * n) = evenCut p := by unfold evenCut; rw [hn]
      have hps : (evenCut p).size = 2 * n := by unfold evenCut; rw [ByteArray.size_extract]; omega
      have hwe : w.extract (2 * i) (2 * (i + n)) = (evenCut w).extract (2 * i) (2 * i + (evenCut p).size) := by
        rw [hps]
        unfold evenCut
        apply ByteArray.ext
        simp only [ByteArray.data_extract]
        rw [Array.extract_extract]
        congr 1 <;> omega
      rw [a1, a2]
      by_cases c2 : standsAt (evenCut w) (evenCut p) i
      · rw [if_pos (by rw [hwe, hpe, show (evenCut w).extract (2 * i) (2 * i + (evenCut p).size) = evenCut p from c2])]
        exact ⟨i, rfl, .inr ⟨i, rfl, hF, by omega, c2, hno⟩⟩
      · rw [if_neg (fun h => c2 (by have h' := toList_inj h; rw [hwe, hpe] at h'; exact h'))]
        exact ih k (i + 1) (by omega) (by omega) (by omega) (by omega) (fun j h1 h2 => by
          by_cases e : j = i
          · rw [e]; exact c2
          · exact hno j h1 (by omega))
    · rw [if_neg c]
      refine ⟨-1, rfl, .inl ⟨rfl, fun j h1 h2 => ?_⟩⟩
      by_cases e : j < i
      · exact hno j h1 e
      · exact absurd h2 (by omega)
theorem finds_same (w p : ByteArray) (hw : w.size ≤ 100000) (hp : p.size ≤ 100000) (x : Int) (k : Nat) (hk : 2 * w.size + 10 ≤ k) : ∃ r : Int, utf_Find.f k w p x = some r ∧ pennantref01_Find.f k w p x = some r := by
  have b0 : (evenCut w).size = 2 * (w.size / 2) := by unfold evenCut; rw [ByteArray.size_extract]; omega
  have b1 : (evenCut p).size = 2 * (p.size / 2) := by unfold evenCut; rw [ByteArray.size_extract]; omega
  have u : utf_Find.f k w p x = utf_Find.l0 k (evenCut w) (evenCut p) (mx x 0) := by
    unfold utf_Find.f
    rw [len_is w (by omega), bsome, dbl _ (by omega), if_pos (by omega), if_pos (by omega), len_is p (by omega), bsome, dbl _ (by omega), if_pos (by omega), if_pos (by omega)]
    rfl
  have v : pennantref01_Find.f k w p x = pennantref01_Find.l0 k w p ((p.size / 2 : Nat) : Int) (mx x 0) := by
    unfold pennantref01_Find.f
    rw [rlen_is p (by omega), bsome]
  rw [u, v]
  by_cases c : mx x 0 ≤ ((w.size / 2 : Nat) : Int)
  · obtain ⟨F, hF⟩ : ∃ F : Nat, mx x 0 = F := Int.eq_ofNat_of_zero_le (by unfold mx; split <;> omega)
    rw [hF] at c ⊢
    obtain ⟨r, h1, h2⟩ := find_go (evenCut w) (evenCut p) (by omega) (by omega) (w.size / 2) (p.size / 2) b0 b1 (w.size / 2 + 2) k F (by omega) (by omega) (by omega)
    obtain ⟨s, g1, g2⟩ := rfind_go w p hw hp (w.size / 2) (p.size / 2) rfl rfl F (w.size / 2 + 2) k F (by omega) (by omega) (Nat.le_refl _) (by omega) (fun j h1 h2 => absurd h1 (by omega))
    exact ⟨r, h1, by rw [g1, first_one (w := evenCut w) (p := evenCut p) h2 g2]⟩
  · obtain ⟨k, rfl⟩ : ∃ m, k = m + 1 := ⟨k - 1, by omega⟩
    have e1 := Aside0.mk (show wrap64 (((w.size / 2 : Nat) : Int) - ((p.size / 2 : Nat) : Int)) = ((w.size / 2 : Nat) : Int) - ((p.size / 2 : Nat) : Int) from wrap_id (by omega) (by omega))
    refine ⟨-1, ?_, ?_⟩
    · simp only [utf_Find.l0]
      rw [len_is _ (by omega), bsome, len_is _ (by omega), bsome, b0, b1, show 2 * (w.size / 2) / 2 = w.size / 2 from by omega, show 2 * (p.size / 2) / 2 = p.size / 2 from by omega, e1.out, if_neg (by omega)]
    · simp only [pennantref01_Find.l0]
      rw [rlen_is w (by omega), bsome, e1.out, if_neg (by omega)]

theorem take_two (l : List Int) (i : Nat) (h : 2 * i + 2 ≤ l.length) : l.take (2 * (i + 1)) = l.take (2 * i) ++ [l.getD (2 * i) 0, l.getD (2 * i + 1) 0] := by
  have e1 : l.take (2 * i + 1) = l.take (2 * i) ++ [l[2 * i]] := by rw [List.take_add_one, List.getElem?_eq_getElem (by omega)]; rfl
  have e2 : l.take (2 * i + 1 + 1) = l.take (2 * i + 1) ++ [l[2 * i + 1]] := by rw [List.take_add_one, List.getElem?_eq_getElem (by omega)]; rfl
  rw [show 2 * (i + 1) = 2 * i + 1 + 1 from by omega, e2, e1, getD_in _ _ (by omega), getD_in _ _ (by omega), List.append_assoc]; rfl
theorem even_get (w : ByteArray) (j : Nat) (h : j < 2 * (w.size / 2)) : (bytesOf (evenCut w)).getD j 0 = ((w.get! j).toNat : Int) := by
  have b0 : (evenCut w).size = 2 * (w.size / 2) := by unfold evenCut; rw [ByteArray.size_extract]; omega
  rw [List.getD_eq_getElem?_getD, bytesOf_get _ _ (by omega)]
  have e : (evenCut w).get! j = w.get! j := by
    rw [Utf8W.get!_of_lt _ _ (by omega), Utf8W.get!_of_lt _ _ (by omega)]
    unfold evenCut
    simp [ByteArray.getElem_extract]
  rw [e]; rfl
/-- A unit, turned as the document turns it. -/
def caseU (great : Bool) (u : Nat) : Nat := if great = true then (if 97 ≤ u ∧ u ≤ 122 then u - 32 else u) else (if 65 ≤ u ∧ u ≤ 90 then u + 32 else u)
def loOf (great : Bool) : Int := if great = true then 97 else 65
def hiOf (great : Bool) : Int := if great = true then 122 else 90
theorem caseU_is (great : Bool) (w : ByteArray) (i : Nat) : unit2 (caseU great (U w i)) = [((w.get! (2 * i)).toNat : Int), tw (loOf great) (hiOf great) ((w.get! (2 * i)).toNat : Int) ((w.get! (2 * i + 1)).toNat : Int)] := by
  have h0 := byte_lt w (2 * i); have h1 := byte_lt w (2 * i + 1)
  generalize ha : (w.get! (2 * i)).toNat = a at *
  generalize hb : (w.get! (2 * i + 1)).toNat = b at *
  unfold unit2 caseU U loOf hiOf
  rw [ha, hb]
  cases great
  · simp only [Bool.false_eq_true, if_false]
    rw [tw_lo _ _ (by omega) (by omega)]
    by_cases c : 65 ≤ a * 256 + b ∧ a * 256 + b ≤ 90
    · rw [if_pos c, if_pos (by omega), show (a * 256 + b + 32) / 256 = a from by omega, show (((a * 256 + b + 32) % 256 : Nat) : Int) = (b : Int) + 32 from by omega]
    · rw [if_neg c, if_neg (by omega), show (a * 256 + b) / 256 = a from by omega, show (a * 256 + b) % 256 = b from by omega]
  · simp only [if_true]
    rw [tw_up _ _ (by omega) (by omega)]
    by_cases c : 97 ≤ a * 256 + b ∧ a * 256 + b ≤ 122
    · rw [if_pos c, if_pos (by omega), show (a * 256 + b - 32) / 256 = a from by omega, show (((a * 256 + b - 32) % 256 : Nat) : Int) = (b : Int) - 32 from by omega]
    · rw [if_neg c, if_neg (by omega), show (a * 256 + b) / 256 = a from by omega, show (a * 256 + b) % 256 = b from by omega]
theorem rcase_step (w : ByteArray) (great : Bool) (k : Nat) (acc : ByteArray) (i u : Nat) (hu : u < 65536) (ha : acc.size ≤ 1000000) :
    (if great = true then (if (u : Int) ≥ 97 then (pennantref01_Case.j1 (k + 1) w great acc i u (decide ((u : Int) ≤ 122))) else (pennantref01_Case.j1 (k + 1) w great acc i u false)) else (pennantref01_Case.j1 (k + 1) w great acc i u false))
      = pennantref01_Case.l0 k w great (acc ++ strOfNums (unit2 (caseU great u))) (wrap64 ((i : Int) + 1)) := by
  have hsz : ∀ v, (strOfNums (unit2 v)).size = 2 := fun v => by rw [strOfNums_len]; rfl
  have go : ∀ v : Nat, v < 65536 → ((pennantref01_Unit.f (v : Int)).bind fun t => (if acc.size + t.size ≤ 9223372036854775807 then (pennantref01_Case.l0 k w great (acc ++ t) (wrap64 ((i : Int) + 1))) else (none)))
      = pennantref01_Case.l0 k w great (acc ++ strOfNums (unit2 v)) (wrap64 ((i : Int) + 1)) := by
    intro v hv
    rw [runit_add v hv, bsome, if_pos (by rw [hsz]; omega)]
  cases great
  · simp only [Bool.false_eq_true, if_false, pennantref01_Case.j1]
    unfold caseU
    simp only [Bool.false_eq_true, if_false]
    by_cases c1 : 65 ≤ u
    · by_cases c2 : u ≤ 90
      · rw [if_pos (by omega), if_pos (by omega), if_pos ⟨c1, c2⟩, show wrap64 ((u : Int) + 32) = ((u + 32 : Nat) : Int) from wrap_add u 32 (by omega)]
        exact go (u + 32) (by omega)
      · rw [if_pos (by omega), if_neg (by omega), if_neg (by omega)]
        exact go u hu
    · rw [if_neg (by omega), if_neg (by omega)]
      exact go u hu
  · simp only [if_true]
    unfold caseU
    simp only [if_true]
    by_cases c1 : 97 ≤ u
    · by_cases c2 : u ≤ 122
      · have e : decide ((u : Int) ≤ 122) = true := by simp; omega
        rw [if_pos (by omega), if_pos ⟨c1, c2⟩, e]
        simp only [pennantref01_Case.j1, if_true]
        rw [show wrap64 ((u : Int) - 32) = ((u - 32 : Nat) : Int) from by rw [show (u : Int) - 32 = ((u - 32 : Nat) : Int) from by omega]; exact wrap_big _ (by omega)]
        exact go (u - 32) (by omega)
      · have e : decide ((u : Int) ≤ 122) = false := by simp; omega
        rw [if_pos (by omega), if_neg (by omega), e]
        simp only [pennantref01_Case.j1, if_true, Bool.false_eq_true, if_false]
        exact go u hu
    · rw [if_neg (by omega), if_neg (by omega)]
      simp only [pennantref01_Case.j1, if_true, Bool.false_eq_true, if_false]
      exact go u hu
theorem rcase_go (w : ByteArray) (hw : w.size ≤ 100000) (great : Bool) (T : List Int) (hT : T = turnN (loOf great) (hiOf great) (bytesOf (evenCut w)) (w.size / 2)) : ∀ (d k i : Nat), w.size / 2 - i < d → 2 * d ≤ k → i ≤ w.size / 2 →
    pennantref01_Case.l0 k w great (strOfNums (T.take (2 * i))) i = some (strOfNums T) := by
  have hl : (bytesOf (evenCut w)).length = 2 * (w.size / 2) := by rw [bytesOf_length]; unfold evenCut; rw [ByteArray.size_extract]; omega
  have hlT : T.length = 2 * (w.size / 2) := by rw [hT, turn_len, hl]
  intro d
  induction d with
  | zero => intro k i h; exact absurd h (by omega)
  | succ d ih =>
    intro k i hd hk hi
    obtain ⟨k, rfl⟩ : ∃ m, k = m + 1 + 1 := ⟨k - 2, by omega⟩
    simp only [pennantref01_Case.l0]
    rw [rlen_is w (by omega), bsome]
    by_cases c : i < w.size / 2
    · have e1 := Aside0.mk (show wrap64 ((i : Int) + 1) = ((i + 1 : Nat) : Int) from wrap_add i 1 (by omega))
      rw [if_pos (by omega), rat_in w i (by omega) c, bsome, rcase_step w great k _ i (U w i) (U_lt w i) (by rw [strOfNums_len, List.length_take]; omega), e1.out, ← strOfNums_append, caseU_is]
      have h := ih k (i + 1) (by omega) (by omega) (by omega)
      rw [take_two T i (by omega)] at h
      have g0 : T.getD (2 * i) 0 = ((w.get! (2 * i)).toNat : Int) := by rw [hT, turn_even, even_get w _ (by omega)]
      have g1 : T.getD (2 * i + 1) 0 = tw (loOf great) (hiOf great) ((w.get! (2 * i)).toNat : Int) ((w.get! (2 * i + 1)).toNat : Int) := by rw [hT, turn_odd _ _ _ _ _ (by omega), if_pos c, even_get w _ (by omega), even_get w _ (by omega)]
      rw [g0, g1] at h
      exact h
    · rw [if_neg (by omega), List.take_of_length_le (by omega)]
theorem rcase_is (w : ByteArray) (hw : w.size ≤ 100000) (great : Bool) (k : Nat) (hk : w.size + 4 ≤ k) : pennantref01_Case.f k w great = utf_turned.f w (loOf great) (hiOf great) := by
  unfold pennantref01_Case.f utf_turned.f
  rw [if_pos (by omega)]
  have h := rcase_go w hw great _ rfl (w.size / 2 + 1) k 0 (by omega) (by omega) (by omega)
  exact h
/-- THE ONE PURE STATEMENT. -/
def PartsPure : Prop := ∀ (a0 a1 : ByteArray) (x y : Int), a0.size ≤ 140737488351232 → a1.size ≤ 140737488351232 → ∃ k, pennantlaw01_UtfParts.f k a0 a1 x y = some true
theorem UtfParts : PartsPure := by
  intro w p x y hw hp
  refine ⟨9000 + 1 + 1, ?_⟩
  have yes : pennantlaw01_UtfParts.j0 (9000 + 1 + 1) w p true x y = some true := by simp only [pennantlaw01_UtfParts.j0, if_true]
  unfold pennantlaw01_UtfParts.f
  rw [awake_true _ (by omega), bsome, if_pos rfl]
  by_cases c1 : (w.size : Int) > 2000
  · rw [if_pos c1]; exact yes
  by_cases c2 : (p.size : Int) > 2000
  · have e : decide ((p.size : Int) > 2000) = true := by simp; omega
    rw [if_neg c1, e]; exact yes
  have e : decide ((p.size : Int) > 2000) = false := by simp; omega
  rw [if_neg c1, e]
  have last : pennantlaw01_UtfParts.j1 (9000 + 1) w false x y = some true := by
    simp only [pennantlaw01_UtfParts.j1, Bool.false_eq_true, if_false]
    rw [cut_is w x y hw, bsome, rcut_is w (by omega) x y 9000 (by omega), bsome, if_pos rfl, rcase_is w (by omega) false 9000 (by omega), rcase_is w (by omega) true 9000 (by omega)]
    unfold utf_Lower.f utf_Upper.f utf_turned.f loOf hiOf
    rw [if_pos hw, if_pos hw, if_pos hw, if_pos hw]
    simp only [bsome, Bool.false_eq_true, if_false, if_true]
    simp
  simp only [pennantlaw01_UtfParts.j0, Bool.false_eq_true, if_false]
  obtain ⟨r, f1, f2⟩ := finds_same w p (by omega) (by omega) x (9000 + 1) (by omega)
  have rest : ((utf_Length.f w).bind fun t262 => (if t262 = (wrap64 ((w.size : Int) / 2)) then ((utf_Find.f (9000 + 1) w p x).bind fun t263 => ((pennantref01_Find.f (9000 + 1) w p x).bind fun t264 => (pennantlaw01_UtfParts.j1 (9000 + 1) w (t263 != t264) x y))) else (pennantlaw01_UtfParts.j1 (9000 + 1) w true x y))) = some true := by
    rw [len_is w hw, bsome, if_pos (by rw [show (w.size : Int) / 2 = ((w.size / 2 : Nat) : Int) from by omega, wrap_big _ (by omega)]), f1, bsome, f2, bsome, show (r != r) = false from by simp]
    exact last
  by_cases c : 0 ≤ x ∧ x < ((w.size / 2 : Nat) : Int)
  · obtain ⟨i, rfl⟩ := Int.eq_ofNat_of_zero_le c.1
    rw [at_in w i hw (by omega), bsome, rat_in w i hw (by omega), bsome]
    have e1 : (true != decide (((U w i : Nat) : Int) ≥ 0)) = false := by simp
    simp only
    rw [e1, if_neg (by simp), if_pos (by unfold mx; split <;> omega)]
    exact rest
  · rw [at_out w x hw (by omega), bsome, rat_out w x hw (by omega), bsome]
    have e1 : (false != decide ((-1 : Int) ≥ 0)) = false := by decide
    simp only
    rw [e1, if_neg (by simp), if_pos (by decide)]
    exact rest
end Go.Proofs.YtpclncikhlameaaDoor.Pure
namespace Go.Proofs.YtpclncikhlameaaDoor.PUtf
open Go.RowKit Go.Proofs.YtpclncikhlameaaDoorW.PrintWords Go.Proofs.YtpclncikhlameaaDoorW.PrintLast Go.Proofs.YtpclncikhlameaaDoor.Hand
theorem pennantlaw01_UtfParts.walk (P : Pure.PartsPure) (a0 a1 : ByteArray) (x y : Int) (w : World) (hT_ : Tabs w) (w0 : a0.size ≤ 140737488351232) (w1 : a1.size ≤ 140737488351232) :
    Calls Tryd.prog 10 #[.string a0, .string a1, .agg #[.int .i64 x, .int .i64 y]] w fun e w' => e = .returned (.bool true) ∧ Below w.heap.size w w' := by
  obtain ⟨k, h⟩ := P a0 a1 x y w0 w1
  refine (pennantlaw01_UtfParts.calls k a0 a1 x y true w hT_ h).mono ?_
  rintro e w' ⟨rfl, hd⟩
  exact ⟨rfl, hd⟩
end Go.Proofs.YtpclncikhlameaaDoor.PUtf
