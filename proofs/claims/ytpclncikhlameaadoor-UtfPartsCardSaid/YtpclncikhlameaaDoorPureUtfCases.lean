/- UtfCases, the plain law: great letters of great letters are the same, and small ones of great ones those of the text. -/
import Derived.Test.YtpclncikhlameaaDoorPureUtfCuts
namespace Go.Proofs.YtpclncikhlameaaDoor.Pure
open Go.RowKit Go.Proofs.YtpclncikhlameaaDoor.PUtf Go.Proofs.YtpclncikhlameaaDoorW.PrintWords Go.Proofs.YtpclncikhlameaaDoorW.PrintLast Go.Proofs.YtpclncikhlameaaDoor.Hand
set_option linter.unusedVariables false

set_option maxRecDepth 100000 in
theorem xor32_fin : ∀ x : Fin 256, Go.bits .xor .u8 ((x.val : Nat) : Int) 32 = if x.val / 32 % 2 = 1 then ((x.val : Nat) : Int) - 32 else ((x.val : Nat) : Int) + 32 := by decide
theorem xor32 (x : Int) (h0 : 0 ≤ x) (h1 : x < 256) : Go.bits .xor .u8 x 32 = if x / 32 % 2 = 1 then x - 32 else x + 32 := by
  obtain ⟨n, rfl⟩ := Int.eq_ofNat_of_zero_le h0
  have h := xor32_fin ⟨n, by omega⟩
  simp only at h
  rw [h]
  by_cases c : n / 32 % 2 = 1
  · rw [if_pos c, if_pos (by omega)]
  · rw [if_neg c, if_neg (by omega)]
/-- A pair's second byte, turned where it lies between two bounds. -/
def tw (lo hi a b : Int) : Int := if a = 0 ∧ lo ≤ b ∧ b ≤ hi then Go.bits .xor .u8 b 32 else b
theorem tw_up (a b : Int) (h0 : 0 ≤ b) (h1 : b < 256) : tw 97 122 a b = if a = 0 ∧ 97 ≤ b ∧ b ≤ 122 then b - 32 else b := by
  unfold tw
  by_cases c : a = 0 ∧ 97 ≤ b ∧ b ≤ 122
  · rw [if_pos c, if_pos c, xor32 b h0 h1, if_pos (by omega)]
  · rw [if_neg c, if_neg c]
theorem tw_lo (a b : Int) (h0 : 0 ≤ b) (h1 : b < 256) : tw 65 90 a b = if a = 0 ∧ 65 ≤ b ∧ b ≤ 90 then b + 32 else b := by
  unfold tw
  by_cases c : a = 0 ∧ 65 ≤ b ∧ b ≤ 90
  · rw [if_pos c, if_pos c, xor32 b h0 h1, if_neg (by omega)]
  · rw [if_neg c, if_neg c]
theorem turn_len (lo hi : Int) (xs : List Int) : ∀ n, (turnN lo hi xs n).length = xs.length
  | 0 => rfl
  | n + 1 => by
    have := turn_len lo hi xs n
    simp only [turnN, turn1]
    split
    · rw [List.length_set]; exact this
    · exact this
theorem getD_set (l : List Int) (i j : Nat) (v : Int) : (l.set i v).getD j 0 = if i = j ∧ i < l.length then v else l.getD j 0 := by
  simp only [List.getD_eq_getElem?_getD, List.getElem?_set]
  by_cases c : i = j
  · subst c
    by_cases d : i < l.length
    · simp [d]
    · simp [d]
  · simp [c]
theorem turn_even (lo hi : Int) (xs : List Int) (j : Nat) : ∀ n, (turnN lo hi xs n).getD (2 * j) 0 = xs.getD (2 * j) 0
  | 0 => rfl
  | n + 1 => by
    have := turn_even lo hi xs j n
    simp only [turnN, turn1]
    split
    · rw [getD_set, if_neg (by omega)]; exact this
    · exact this
theorem turn_odd (lo hi : Int) (xs : List Int) (j : Nat) : ∀ n, 2 * n ≤ xs.length → (turnN lo hi xs n).getD (2 * j + 1) 0 = if j < n then tw lo hi (xs.getD (2 * j) 0) (xs.getD (2 * j + 1) 0) else xs.getD (2 * j + 1) 0
  | 0, _ => by rw [if_neg (by omega)]; rfl
  | n + 1, h => by
    have ih := turn_odd lo hi xs j n (by omega)
    have hl := turn_len lo hi xs n
    have he := turn_even lo hi xs n n
    have ho := turn_odd lo hi xs n n (by omega)
    rw [if_neg (by omega)] at ho
    simp only [turnN, turn1]
    rw [he, ho]
    by_cases c : xs.getD (2 * n) 0 = 0 ∧ lo ≤ xs.getD (2 * n + 1) 0 ∧ xs.getD (2 * n + 1) 0 ≤ hi
    · rw [if_pos c, getD_set]
      by_cases d : n = j
      · subst d
        rw [if_pos ⟨rfl, by omega⟩, if_pos (by omega)]
        unfold tw
        rw [if_pos c]
      · rw [if_neg (by omega), ih]
        by_cases e : j < n
        · rw [if_pos e, if_pos (by omega)]
        · rw [if_neg e, if_neg (by omega)]
    · rw [if_neg c, ih]
      by_cases d : n = j
      · subst d
        rw [if_neg (by omega), if_pos (by omega)]
        unfold tw
        rw [if_neg c]
      · by_cases e : j < n
        · rw [if_pos e, if_pos (by omega)]
        · rw [if_neg e, if_neg (by omega)]
theorem getD_in (l : List Int) (i : Nat) (h : i < l.length) : l.getD i 0 = l[i] := by
  rw [List.getD_eq_getElem?_getD, List.getElem?_eq_getElem h]; rfl
theorem getD_out (l : List Int) (i : Nat) (h : l.length ≤ i) : l.getD i 0 = 0 := by
  rw [List.getD_eq_getElem?_getD, List.getElem?_eq_none h]; rfl
theorem ext_getD {xs ys : List Int} (hl : xs.length = ys.length) (h : ∀ i, xs.getD i 0 = ys.getD i 0) : xs = ys := by
  apply List.ext_getElem hl
  intro i h1 h2
  have := h i
  rwa [getD_in _ _ h1, getD_in _ _ h2] at this
theorem bytes_getD {xs : List Int} (h : IsBytes xs) (i : Nat) : 0 ≤ xs.getD i 0 ∧ xs.getD i 0 < 256 := by
  by_cases c : i < xs.length
  · rw [getD_in _ _ c]; exact h _ (List.getElem_mem c)
  · rw [getD_out _ _ (by omega)]; omega
theorem tw_byte (lo hi a b : Int) (h0 : 0 ≤ b) (h1 : b < 256) : 0 ≤ tw lo hi a b ∧ tw lo hi a b < 256 := by
  unfold tw
  split
  · rw [xor32 b h0 h1]; split <;> omega
  · omega
theorem turn_bytes (lo hi : Int) (xs : List Int) (n : Nat) (hn : 2 * n ≤ xs.length) (h : IsBytes xs) : IsBytes (turnN lo hi xs n) := by
  intro x hx
  obtain ⟨i, hi, rfl⟩ := List.getElem_of_mem hx
  rw [← getD_in _ _ hi]
  rcases Nat.mod_two_eq_zero_or_one i with c | c
  · obtain ⟨j, rfl⟩ : ∃ j, i = 2 * j := ⟨i / 2, by omega⟩
    rw [turn_even]; exact bytes_getD h _
  · obtain ⟨j, rfl⟩ : ∃ j, i = 2 * j + 1 := ⟨i / 2, by omega⟩
    rw [turn_odd _ _ _ _ _ hn]
    split
    · exact tw_byte _ _ _ _ (bytes_getD h _).1 (bytes_getD h _).2
    · exact bytes_getD h _
/-- What two turns make of a pair. -/
theorem turn_turn (lo hi lo' hi' lo'' hi'' : Int) (xs : List Int) (n : Nat) (hx : IsBytes xs) (hn : 2 * n = xs.length)
    (h : ∀ a b : Int, 0 ≤ b → b < 256 → tw lo' hi' a (tw lo hi a b) = tw lo'' hi'' a b) : turnN lo' hi' (turnN lo hi xs n) n = turnN lo'' hi'' xs n := by
  apply ext_getD (by rw [turn_len, turn_len, turn_len])
  intro i
  rcases Nat.mod_two_eq_zero_or_one i with c | c
  · obtain ⟨j, rfl⟩ : ∃ j, i = 2 * j := ⟨i / 2, by omega⟩
    rw [turn_even, turn_even, turn_even]
  · obtain ⟨j, rfl⟩ : ∃ j, i = 2 * j + 1 := ⟨i / 2, by omega⟩
    rw [turn_odd _ _ _ _ _ (by rw [turn_len]; omega), turn_odd _ _ _ _ _ (by omega), turn_odd _ _ _ _ _ (by omega), turn_even]
    by_cases d : j < n
    · rw [if_pos d, if_pos d, if_pos d]
      exact h _ _ (bytes_getD hx _).1 (bytes_getD hx _).2
    · rw [if_neg d, if_neg d, if_neg d]
theorem up_up (a b : Int) (h0 : 0 ≤ b) (h1 : b < 256) : tw 97 122 a (tw 97 122 a b) = tw 97 122 a b := by
  have := tw_byte 97 122 a b h0 h1
  rw [tw_up a (tw 97 122 a b) this.1 this.2, tw_up a b h0 h1]
  repeat' split
  all_goals omega
theorem lo_lo (a b : Int) (h0 : 0 ≤ b) (h1 : b < 256) : tw 65 90 a (tw 65 90 a b) = tw 65 90 a b := by
  have := tw_byte 65 90 a b h0 h1
  rw [tw_lo a (tw 65 90 a b) this.1 this.2, tw_lo a b h0 h1]
  repeat' split
  all_goals omega
theorem lo_up (a b : Int) (h0 : 0 ≤ b) (h1 : b < 256) : tw 65 90 a (tw 97 122 a b) = tw 65 90 a b := by
  have := tw_byte 97 122 a b h0 h1
  rw [tw_lo a (tw 97 122 a b) this.1 this.2, tw_up a b h0 h1, tw_lo a b h0 h1]
  repeat' split
  all_goals omega
theorem up_lo (a b : Int) (h0 : 0 ≤ b) (h1 : b < 256) : tw 97 122 a (tw 65 90 a b) = tw 97 122 a b := by
  have := tw_byte 65 90 a b h0 h1
  rw [tw_up a (tw 65 90 a b) this.1 this.2, tw_lo a b h0 h1, tw_up a b h0 h1]
  repeat' split
  all_goals omega
/-- turned, of a text of whole units that is made of these bytes. -/
theorem turned_is (lo hi : Int) (xs : List Int) (hx : IsBytes xs) (n : Nat) (hn : 2 * n = xs.length) (hs : xs.length ≤ 140737488351232) : utf_turned.f (strOfNums xs) lo hi = some (strOfNums (turnN lo hi xs n)) := by
  have e1 : (strOfNums xs).size = xs.length := strOfNums_len xs
  have e2 : evenCut (strOfNums xs) = strOfNums xs := by unfold evenCut; exact extract_all _ _ (by omega)
  unfold utf_turned.f
  rw [if_pos (by omega), e2, bytesOf_strOfNums xs hx, e1, show xs.length / 2 = n from by omega]
theorem UtfCases : pennantlaw01_UtfCases.Pure := by
  intro w hs
  refine ⟨20, ?_⟩
  unfold pennantlaw01_UtfCases.f
  rw [awake_true _ (by omega)]
  simp only [bsome, if_true]
  by_cases c : w.size % 2 = 0
  · rw [if_pos (by omega)]
    obtain ⟨xs, hx, rfl⟩ : ∃ xs, IsBytes xs ∧ w = strOfNums xs := ⟨bytesOf w, bytesOf_is w, (strOfNums_bytesOf w).symm⟩
    have hl : (strOfNums xs).size = xs.length := strOfNums_len xs
    obtain ⟨n, hn⟩ : ∃ n, 2 * n = xs.length := ⟨xs.length / 2, by omega⟩
    have hu := turn_bytes 97 122 xs n (by omega) hx
    have hlo := turn_bytes 65 90 xs n (by omega) hx
    have nu : 2 * n = (turnN 97 122 xs n).length := by rw [turn_len]; exact hn
    have nl : 2 * n = (turnN 65 90 xs n).length := by rw [turn_len]; exact hn
    have T := fun lo hi => turned_is lo hi xs hx n hn (by omega)
    have TU := fun lo hi => turned_is lo hi (turnN 97 122 xs n) hu n nu (by omega)
    have TL := fun lo hi => turned_is lo hi (turnN 65 90 xs n) hlo n nl (by omega)
    unfold utf_Upper.f utf_Lower.f
    rw [T, T]
    simp only [bsome, strOfNums_len]
    rw [if_pos (by omega), if_pos (by omega), TU]
    simp only [bsome]
    rw [turn_turn 97 122 97 122 97 122 xs n hx hn up_up, if_pos rfl, TL]
    simp only [bsome]
    rw [turn_turn 65 90 65 90 65 90 xs n hx hn lo_lo, if_pos rfl, TU]
    simp only [bsome]
    rw [turn_turn 97 122 65 90 65 90 xs n hx hn lo_up, if_pos rfl, TL]
    simp only [bsome]
    rw [turn_turn 65 90 97 122 97 122 xs n hx hn up_lo]
    simp
  · rw [if_neg (by omega)]
end Go.Proofs.YtpclncikhlameaaDoor.Pure
