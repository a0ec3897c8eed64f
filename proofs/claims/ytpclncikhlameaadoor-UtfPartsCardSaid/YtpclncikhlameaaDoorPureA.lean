/- Plain laws on bytes, and on the character at a byte: both texts' answers are one. -/
import Derived.Test.YtpclncikhlameaaDoorPUtfx4
import Derived.Test.YtpclncikhlameaaDoorPUtfx5
namespace Go.Proofs.YtpclncikhlameaaDoor.Pure
open Go.RowKit Go.Proofs.YtpclncikhlameaaDoor.PUtf Go.Proofs.YtpclncikhlameaaDoorW.PrintWords Go.Proofs.YtpclncikhlameaaDoorW.PrintLast Go.Proofs.YtpclncikhlameaaDoor.Hand
set_option linter.unusedVariables false

theorem wrap_id {x : Int} (h0 : -9223372036854775808 ≤ x) (h1 : x ≤ 9223372036854775807) : wrap64 x = x := by unfold wrap64; omega
theorem get!_out (s : ByteArray) (j : Nat) (h : s.size ≤ j) : s.get! j = 0 := by
  cases s with
  | mk d => 
    have h' : ¬ j < d.size := Nat.not_lt.2 h
    exact getElem!_neg d j h'
theorem bt_get (s : ByteArray) (j : Nat) : bt s (j : Int) = ((s.get! j).toNat : Int) := by
  unfold bt
  simp only [Int.toNat_natCast]
  split
  · rename_i h
    rw [Utf8W.get!_of_lt s j h]
  · rename_i h
    rw [get!_out s j (Nat.le_of_not_lt h)]; rfl
theorem get!_extract (s : ByteArray) (i j : Nat) : (s.extract i s.size).get! j = s.get! (i + j) := by
  by_cases h : i + j < s.size
  · have h2 : j < (s.extract i s.size).size := by rw [ByteArray.size_extract]; omega
    rw [Utf8W.get!_of_lt _ _ h2, Utf8W.get!_of_lt _ _ h]
    simp [ByteArray.getElem_extract]
  · have h2 : (s.extract i s.size).size ≤ j := by rw [ByteArray.size_extract]; omega
    rw [get!_out _ _ h2, get!_out _ _ (by omega)]
theorem byte_lt (s : ByteArray) (j : Nat) : (s.get! j).toNat < 256 := (s.get! j).toNat_lt

/-- The character at place i, and its bytes, as the table-driven text has it. -/
def dec (s : ByteArray) (i : Nat) : Nat × Nat := Lib.decodeN (s.size - i) (s.get! i).toNat (s.get! (i + 1)).toNat (s.get! (i + 2)).toNat (s.get! (i + 3)).toNat
theorem dec_extract (s : ByteArray) (i : Nat) (h : i < s.size) : Lib.decodeGo (s.extract i s.size) = dec s i := by
  have hsz : (s.extract i s.size).size = s.size - i := by rw [ByteArray.size_extract]; omega
  unfold Lib.decodeGo dec
  rw [if_neg (by omega), Lib.decode_at, hsz]
  simp only [get!_extract]
  rfl
theorem dec_range (s : ByteArray) (i : Nat) : (dec s i).1 ≤ 1114111 ∧ 1 ≤ (dec s i).2 ∧ (dec s i).2 ≤ 4 := by
  have h0 := byte_lt s i; have h1 := byte_lt s (i + 1); have h2 := byte_lt s (i + 2); have h3 := byte_lt s (i + 3)
  unfold dec Lib.decodeN
  repeat' split
  all_goals (simp only; omega)
/-- What Next tells of a byte's place. -/
def nxt (s : ByteArray) (i : Nat) : Int × Int × Bool := if (dec s i).1 = 65533 ∧ (dec s i).2 = 1 then (0, 0, false) else ((dec s i).1, (dec s i).2, true)
theorem next_in (s : ByteArray) (i : Nat) (h : i < s.size) (hs : s.size ≤ 140737488351232) (k : Nat) (hk : 1 ≤ k) : utf_Next.f k s i = some (nxt s i) := by
  obtain ⟨k, rfl⟩ : ∃ m, k = m + 1 := ⟨k - 1, by omega⟩
  have hr := dec_range s i
  unfold utf_Next.f
  rw [if_neg (by omega)]
  simp only [utf_Next.j0]
  rw [if_neg (by simp; omega), if_pos (by omega), if_pos (by omega)]
  simp only [Int.toNat_natCast, utf8_DecodeRuneInString.f, Option.bind_some, dec_extract s i h]
  unfold nxt
  have e : wrap64 ((dec s i).1 : Int) = (dec s i).1 := wrap_id (by omega) (by omega)
  by_cases c1 : (dec s i).1 = 65533
  · rw [if_pos (by omega)]
    by_cases c2 : (dec s i).2 = 1
    · rw [if_pos (by omega), if_pos ⟨c1, c2⟩]
    · rw [if_neg (by omega), if_neg (fun h => c2 h.2), e]
  · rw [if_neg (by omega), if_neg (fun h => c1 h.1), e]
theorem next_out (s : ByteArray) (i : Int) (h : i < 0 ∨ (s.size : Int) ≤ i) (k : Nat) (hk : 1 ≤ k) : utf_Next.f k s i = some (0, 0, false) := by
  obtain ⟨k, rfl⟩ : ∃ m, k = m + 1 := ⟨k - 1, by omega⟩
  unfold utf_Next.f
  rcases h with h | h
  · rw [if_pos h]; simp only [utf_Next.j0, if_true]
  · by_cases c : i < 0
    · rw [if_pos c]; simp only [utf_Next.j0, if_true]
    · rw [if_neg c]; simp only [utf_Next.j0]; rw [if_pos (by simp; omega)]

theorem char_step (k : Nat) (s : ByteArray) (i x : Nat) (n c low : Int) (hs : s.size ≤ 140737488351232) (hx : (x : Int) < n) (hi : i + x < s.size) (hc0 : 0 ≤ c) (hc1 : c ≤ 4194304) :
    pennantref01_Char.l0 (k + 1) s i n c low x = if (s.get! (i + x)).toNat / 64 = 2 then pennantref01_Char.l0 k s i n (c * 64 + (s.get! (i + x)).toNat - 128) low ((x + 1 : Nat) : Int) else some (0, 0) := by
  have hb := byte_lt s (i + x)
  have e1 : wrap64 ((i : Int) + x) = ((i + x : Nat) : Int) := by unfold wrap64; omega
  simp only [pennantref01_Char.l0]
  rw [if_pos hx, e1, if_pos (by omega), if_pos (by omega), bt_get]
  have e2 : wrap64 (((s.get! (i + x)).toNat : Nat) : Int) = ((s.get! (i + x)).toNat : Int) := wrap_id (by omega) (by omega)
  have e3 : wrap64 (c * 64) = c * 64 := wrap_id (by omega) (by omega)
  have e4 : wrap64 (c * 64 + ((s.get! (i + x)).toNat : Int)) = c * 64 + (s.get! (i + x)).toNat := wrap_id (by omega) (by omega)
  have e5 : wrap64 (c * 64 + ((s.get! (i + x)).toNat : Int) - 128) = c * 64 + (s.get! (i + x)).toNat - 128 := wrap_id (by omega) (by omega)
  have e6 : wrap64 ((x : Int) + 1) = ((x + 1 : Nat) : Int) := by unfold wrap64; omega
  rw [e2, e3, e4, e5, e6]
  by_cases c1 : (s.get! (i + x)).toNat / 64 = 2
  · rw [if_pos c1, if_neg (by omega), if_neg (by omega)]
  · rw [if_neg c1]
    by_cases c2 : (s.get! (i + x)).toNat < 128
    · rw [if_pos (by omega)]
    · rw [if_neg (by omega), if_pos (by omega)]
theorem char_end (k : Nat) (s : ByteArray) (i : Int) (x : Nat) (n c low : Int) (hx : ¬ (x : Int) < n) :
    pennantref01_Char.l0 (k + 1) s i n c low x = if c < low ∨ 1114111 < c ∨ (55296 ≤ c ∧ c < 57344) then some (0, 0) else some (c, n) := by
  simp only [pennantref01_Char.l0]
  rw [if_neg hx]
  repeat' split
  all_goals first | rfl | (exfalso; omega)
theorem char_j3 (m : Nat) (s : ByteArray) (i n : Nat) (c low : Int) (hs : s.size ≤ 140737488351232) (h : i < s.size) (hn : n ≤ 4) :
    pennantref01_Char.j3 (m + 1) s i n c low = if s.size < i + n then some (0, 0) else pennantref01_Char.l0 m s i n c low ((1 : Nat) : Int) := by
  have e1 : wrap64 ((i : Int) + n) = ((i + n : Nat) : Int) := wrap_id (by omega) (by omega)
  have e2 : ((i : Int) + n) = ((i + n : Nat) : Int) := by omega
  rw [show pennantref01_Char.j3 (m + 1) s i n c low = if wrap64 ((i : Int) + n) > (s.size : Int) then some (0, 0) else pennantref01_Char.l0 m s i n c low 1 from rfl, e1]
  by_cases c1 : s.size < i + n
  · have c2 : ((i + n : Nat) : Int) > (s.size : Int) := Int.ofNat_lt.2 c1
    rw [if_pos c2, if_pos c1]
  · have c2 : ¬ ((i + n : Nat) : Int) > (s.size : Int) := fun h => c1 (Int.ofNat_lt.1 h)
    rw [if_neg c2, if_neg c1, show ((1 : Nat) : Int) = 1 from rfl]
theorem nxt_of {s : ByteArray} {i v n : Nat} (h : dec s i = (v, n)) (hv : ¬ (v = 65533 ∧ n = 1)) : nxt s i = ((v : Int), (n : Int), true) := by
  unfold nxt; rw [h]; simp only; rw [if_neg hv]
theorem nxt_bad {s : ByteArray} {i : Nat} (h : dec s i = (65533, 1)) : nxt s i = (0, 0, false) := by
  unfold nxt; rw [h]; simp
section
variable (s : ByteArray) (i : Nat) (h : i < s.size) (hs : s.size ≤ 140737488351232) (k : Nat) (b0 : Nat) (hb0 : (s.get! i).toNat = b0)
include h hs hb0
theorem char_2 (hk : 10 ≤ k) (a2 : b0 / 32 = 6) : pennantref01_Char.j3 k s i ((2 : Nat) : Int) ((b0 % 32 : Nat) : Int) 128 = some ((nxt s i).1, (nxt s i).2.1) := by
  obtain ⟨k, rfl⟩ : ∃ m, k = m + 10 := ⟨k - 10, by omega⟩
  have h1 := byte_lt s (i + 1)
  have g1 : ¬ b0 < 128 := by omega
  have g2 : ¬ b0 / 16 = 14 := by omega
  have g3 : ¬ b0 / 8 = 30 := by omega
  rw [char_j3 _ s i 2 _ _ hs h (by omega)]
  by_cases c1 : s.size < i + 2
  · have hd : dec s i = (65533, 1) := by
      unfold dec Lib.decodeN
      rw [hb0, if_neg g1, if_neg (fun h => by omega), if_neg (fun h => g2 h.1), if_neg (fun h => g3 h.1)]
    rw [if_pos c1, nxt_bad hd]
  · rw [if_neg c1, char_step _ s i 1 _ _ _ hs (by omega) (by omega) (by omega) (by omega)]
    by_cases c2 : (s.get! (i + 1)).toNat / 64 = 2
    · rw [if_pos c2, char_end _ _ _ _ _ _ _ (by omega)]
      have ee : ((b0 % 32 : Nat) : Int) * 64 + ((s.get! (i + 1)).toNat : Int) - 128 = ((b0 % 32 * 64 + (s.get! (i + 1)).toNat % 64 : Nat) : Int) := by omega
      have hlt : b0 % 32 * 64 + (s.get! (i + 1)).toNat % 64 < 2048 := by omega
      have hd : dec s i = if b0 % 32 * 64 + (s.get! (i + 1)).toNat % 64 ≥ 128 then (b0 % 32 * 64 + (s.get! (i + 1)).toNat % 64, 2) else (65533, 1) := by
        unfold dec Lib.decodeN
        rw [hb0, if_neg g1, if_pos ⟨a2, by omega, c2⟩]
      rw [ee]
      generalize b0 % 32 * 64 + (s.get! (i + 1)).toNat % 64 = v at *
      by_cases c3 : v ≥ 128
      · rw [if_pos c3] at hd
        rw [if_neg (by omega), nxt_of hd (by omega)]
      · rw [if_neg c3] at hd
        rw [if_pos (by omega), nxt_bad hd]
    · have hd : dec s i = (65533, 1) := by
        unfold dec Lib.decodeN
        rw [hb0, if_neg g1, if_neg (fun h => c2 h.2.2), if_neg (fun h => g2 h.1), if_neg (fun h => g3 h.1)]
      rw [if_neg c2, nxt_bad hd]
theorem char_3 (hk : 10 ≤ k) (a3 : b0 / 16 = 14) : pennantref01_Char.j3 k s i ((3 : Nat) : Int) ((b0 % 16 : Nat) : Int) 2048 = some ((nxt s i).1, (nxt s i).2.1) := by
  obtain ⟨k, rfl⟩ : ∃ m, k = m + 10 := ⟨k - 10, by omega⟩
  have h1 := byte_lt s (i + 1); have h2 := byte_lt s (i + 2)
  have g1 : ¬ b0 < 128 := by omega
  have g2 : ¬ b0 / 32 = 6 := by omega
  have g3 : ¬ b0 / 8 = 30 := by omega
  have bad : (¬ ((1 < s.size - i ∧ (s.get! (i + 1)).toNat / 64 = 2) ∧ (2 < s.size - i ∧ (s.get! (i + 2)).toNat / 64 = 2))) → dec s i = (65533, 1) := by
    intro hn
    unfold dec Lib.decodeN
    rw [hb0, if_neg g1, if_neg (fun h => g2 h.1), if_neg (fun h => hn h.2), if_neg (fun h => g3 h.1)]
  rw [char_j3 _ s i 3 _ _ hs h (by omega)]
  by_cases c1 : s.size < i + 3
  · rw [if_pos c1, nxt_bad (bad (by omega))]
  · rw [if_neg c1, char_step _ s i 1 _ _ _ hs (by omega) (by omega) (by omega) (by omega)]
    by_cases c2 : (s.get! (i + 1)).toNat / 64 = 2
    · rw [if_pos c2, char_step _ s i 2 _ _ _ hs (by omega) (by omega) (by omega) (by omega)]
      by_cases c3 : (s.get! (i + 2)).toNat / 64 = 2
      · rw [if_pos c3, char_end _ _ _ _ _ _ _ (by omega)]
        have ee : (((b0 % 16 : Nat) : Int) * 64 + ((s.get! (i + 1)).toNat : Int) - 128) * 64 + ((s.get! (i + 2)).toNat : Int) - 128 = ((b0 % 16 * 4096 + (s.get! (i + 1)).toNat % 64 * 64 + (s.get! (i + 2)).toNat % 64 : Nat) : Int) := by omega
        have hlt : b0 % 16 * 4096 + (s.get! (i + 1)).toNat % 64 * 64 + (s.get! (i + 2)).toNat % 64 < 65536 := by omega
        have hd : dec s i = if b0 % 16 * 4096 + (s.get! (i + 1)).toNat % 64 * 64 + (s.get! (i + 2)).toNat % 64 ≥ 2048 ∧ (b0 % 16 * 4096 + (s.get! (i + 1)).toNat % 64 * 64 + (s.get! (i + 2)).toNat % 64 < 55296 ∨ (57344 ≤ b0 % 16 * 4096 + (s.get! (i + 1)).toNat % 64 * 64 + (s.get! (i + 2)).toNat % 64 ∧ b0 % 16 * 4096 + (s.get! (i + 1)).toNat % 64 * 64 + (s.get! (i + 2)).toNat % 64 ≤ 1114111)) then (b0 % 16 * 4096 + (s.get! (i + 1)).toNat % 64 * 64 + (s.get! (i + 2)).toNat % 64, 3) else (65533, 1) := by
          unfold dec Lib.decodeN
          rw [hb0, if_neg g1, if_neg (fun h => g2 h.1), if_pos ⟨a3, ⟨by omega, c2⟩, by omega, c3⟩]
        rw [ee]
        generalize b0 % 16 * 4096 + (s.get! (i + 1)).toNat % 64 * 64 + (s.get! (i + 2)).toNat % 64 = v at *
        by_cases c4 : v ≥ 2048 ∧ (v < 55296 ∨ (57344 ≤ v ∧ v ≤ 1114111))
        · rw [if_pos c4] at hd
          rw [if_neg (by omega), nxt_of hd (by omega)]
        · rw [if_neg c4] at hd
          rw [if_pos (by omega), nxt_bad hd]
      · rw [if_neg c3, nxt_bad (bad (fun h => c3 h.2.2))]
    · rw [if_neg c2, nxt_bad (bad (fun h => c2 h.1.2))]
theorem char_4 (hk : 10 ≤ k) (a4 : b0 / 8 = 30) : pennantref01_Char.j3 k s i ((4 : Nat) : Int) ((b0 % 8 : Nat) : Int) 65536 = some ((nxt s i).1, (nxt s i).2.1) := by
  obtain ⟨k, rfl⟩ : ∃ m, k = m + 10 := ⟨k - 10, by omega⟩
  have h1 := byte_lt s (i + 1); have h2 := byte_lt s (i + 2); have h3 := byte_lt s (i + 3)
  have g1 : ¬ b0 < 128 := by omega
  have g2 : ¬ b0 / 32 = 6 := by omega
  have g3 : ¬ b0 / 16 = 14 := by omega
  have bad : (¬ ((1 < s.size - i ∧ (s.get! (i + 1)).toNat / 64 = 2) ∧ (2 < s.size - i ∧ (s.get! (i + 2)).toNat / 64 = 2) ∧ (3 < s.size - i ∧ (s.get! (i + 3)).toNat / 64 = 2))) → dec s i = (65533, 1) := by
    intro hn
    unfold dec Lib.decodeN
    rw [hb0, if_neg g1, if_neg (fun h => g2 h.1), if_neg (fun h => g3 h.1), if_neg (fun h => hn h.2)]
  rw [char_j3 _ s i 4 _ _ hs h (by omega)]
  by_cases c1 : s.size < i + 4
  · rw [if_pos c1, nxt_bad (bad (by omega))]
  · rw [if_neg c1, char_step _ s i 1 _ _ _ hs (by omega) (by omega) (by omega) (by omega)]
    by_cases c2 : (s.get! (i + 1)).toNat / 64 = 2
    · rw [if_pos c2, char_step _ s i 2 _ _ _ hs (by omega) (by omega) (by omega) (by omega)]
      by_cases c3 : (s.get! (i + 2)).toNat / 64 = 2
      · rw [if_pos c3, char_step _ s i 3 _ _ _ hs (by omega) (by omega) (by omega) (by omega)]
        by_cases c4 : (s.get! (i + 3)).toNat / 64 = 2
        · rw [if_pos c4, char_end _ _ _ _ _ _ _ (by omega)]
          have ee : ((((b0 % 8 : Nat) : Int) * 64 + ((s.get! (i + 1)).toNat : Int) - 128) * 64 + ((s.get! (i + 2)).toNat : Int) - 128) * 64 + ((s.get! (i + 3)).toNat : Int) - 128 = ((b0 % 8 * 262144 + (s.get! (i + 1)).toNat % 64 * 4096 + (s.get! (i + 2)).toNat % 64 * 64 + (s.get! (i + 3)).toNat % 64 : Nat) : Int) := by omega
          have hd : dec s i = if b0 % 8 * 262144 + (s.get! (i + 1)).toNat % 64 * 4096 + (s.get! (i + 2)).toNat % 64 * 64 + (s.get! (i + 3)).toNat % 64 ≥ 65536 ∧ (b0 % 8 * 262144 + (s.get! (i + 1)).toNat % 64 * 4096 + (s.get! (i + 2)).toNat % 64 * 64 + (s.get! (i + 3)).toNat % 64 < 55296 ∨ (57344 ≤ b0 % 8 * 262144 + (s.get! (i + 1)).toNat % 64 * 4096 + (s.get! (i + 2)).toNat % 64 * 64 + (s.get! (i + 3)).toNat % 64 ∧ b0 % 8 * 262144 + (s.get! (i + 1)).toNat % 64 * 4096 + (s.get! (i + 2)).toNat % 64 * 64 + (s.get! (i + 3)).toNat % 64 ≤ 1114111)) then (b0 % 8 * 262144 + (s.get! (i + 1)).toNat % 64 * 4096 + (s.get! (i + 2)).toNat % 64 * 64 + (s.get! (i + 3)).toNat % 64, 4) else (65533, 1) := by
            unfold dec Lib.decodeN
            rw [hb0, if_neg g1, if_neg (fun h => g2 h.1), if_neg (fun h => g3 h.1), if_pos ⟨a4, ⟨by omega, c2⟩, ⟨by omega, c3⟩, by omega, c4⟩]
          rw [ee]
          generalize b0 % 8 * 262144 + (s.get! (i + 1)).toNat % 64 * 4096 + (s.get! (i + 2)).toNat % 64 * 64 + (s.get! (i + 3)).toNat % 64 = v at *
          by_cases c5 : v ≥ 65536 ∧ (v < 55296 ∨ (57344 ≤ v ∧ v ≤ 1114111))
          · rw [if_pos c5] at hd
            rw [if_neg (by omega), nxt_of hd (by omega)]
          · rw [if_neg c5] at hd
            rw [if_pos (by omega), nxt_bad hd]
        · rw [if_neg c4, nxt_bad (bad (fun h => c4 h.2.2.2))]
      · rw [if_neg c3, nxt_bad (bad (fun h => c3 h.2.1.2))]
    · rw [if_neg c2, nxt_bad (bad (fun h => c2 h.1.2))]
end
theorem j1_true (m : Nat) (s : ByteArray) (i b : Int) : pennantref01_Char.j1 (m + 1) s i b true = pennantref01_Char.j3 m s i ((2 : Nat) : Int) (wrap64 (b - 192)) 128 := by simp only [pennantref01_Char.j1, if_true]; rfl
theorem j1_false (m : Nat) (s : ByteArray) (i b : Int) : pennantref01_Char.j1 (m + 1) s i b false = (if b ≥ 224 then pennantref01_Char.j2 m s i b (decide (b < 240)) else pennantref01_Char.j2 m s i b false) := by simp only [pennantref01_Char.j1, Bool.false_eq_true, if_false]
theorem j2_true (m : Nat) (s : ByteArray) (i b : Int) : pennantref01_Char.j2 (m + 1) s i b true = pennantref01_Char.j3 m s i ((3 : Nat) : Int) (wrap64 (b - 224)) 2048 := by simp only [pennantref01_Char.j2, if_true]; rfl
theorem j2_false (m : Nat) (s : ByteArray) (i b : Int) : pennantref01_Char.j2 (m + 1) s i b false = (if b ≥ 240 then (if b < 248 then pennantref01_Char.j3 m s i ((4 : Nat) : Int) (wrap64 (b - 240)) 65536 else some (0, 0)) else some (0, 0)) := by simp only [pennantref01_Char.j2, Bool.false_eq_true, if_false]; rfl
theorem j0_false (m : Nat) (s : ByteArray) (i : Int) (b : Bool) (hb : b = false) (h0 : 0 ≤ i) (h1 : i < s.size) : pennantref01_Char.j0 (m + 1) s i b = if wrap64 (bt s i) < 128 then some (wrap64 (bt s i), 1) else if wrap64 (bt s i) ≥ 192 then pennantref01_Char.j1 m s i (wrap64 (bt s i)) (decide (wrap64 (bt s i) < 224)) else pennantref01_Char.j1 m s i (wrap64 (bt s i)) false := by
  subst hb
  simp only [pennantref01_Char.j0, Bool.false_eq_true, if_false]
  rw [if_pos h0, if_pos h1]
theorem char_mid (m : Nat) (hm : 10 ≤ m) (s : ByteArray) (i : Nat) (h : i < s.size) (hs : s.size ≤ 140737488351232) (b0 : Nat) (hb0 : (s.get! i).toNat = b0) (hb : b0 < 256) (a1 : ¬ b0 < 128) :
    (if (b0 : Int) ≥ 192 then pennantref01_Char.j1 (m + 1 + 1) s i b0 (decide ((b0 : Int) < 224)) else pennantref01_Char.j1 (m + 1 + 1) s i b0 false) = some ((nxt s i).1, (nxt s i).2.1) := by
  by_cases a2 : b0 / 32 = 6
  · have hw : wrap64 ((b0 : Int) - 192) = ((b0 % 32 : Nat) : Int) := by rw [wrap_id (by omega) (by omega)]; omega
    have hdec : decide ((b0 : Int) < 224) = true := by simp; omega
    rw [if_pos (by omega), hdec, j1_true, hw]
    exact char_2 s i h hs (m + 1) b0 hb0 (by omega) a2
  have hj1 : (if (b0 : Int) ≥ 192 then pennantref01_Char.j1 (m + 1 + 1) s i b0 (decide ((b0 : Int) < 224)) else pennantref01_Char.j1 (m + 1 + 1) s i b0 false) = pennantref01_Char.j1 (m + 1 + 1) s i b0 false := by
    by_cases c : (b0 : Int) ≥ 192
    · have hdec : decide ((b0 : Int) < 224) = false := by simp; omega
      rw [if_pos c, hdec]
    · rw [if_neg c]
  rw [hj1, j1_false]
  by_cases a3 : b0 / 16 = 14
  · have hw : wrap64 ((b0 : Int) - 224) = ((b0 % 16 : Nat) : Int) := by rw [wrap_id (by omega) (by omega)]; omega
    have hdec : decide ((b0 : Int) < 240) = true := by simp; omega
    rw [if_pos (by omega), hdec, j2_true, hw]
    exact char_3 s i h hs m b0 hb0 hm a3
  have hj2 : (if (b0 : Int) ≥ 224 then pennantref01_Char.j2 (m + 1) s i b0 (decide ((b0 : Int) < 240)) else pennantref01_Char.j2 (m + 1) s i b0 false) = pennantref01_Char.j2 (m + 1) s i b0 false := by
    by_cases c : (b0 : Int) ≥ 224
    · have hdec : decide ((b0 : Int) < 240) = false := by simp; omega
      rw [if_pos c, hdec]
    · rw [if_neg c]
  rw [hj2, j2_false]
  by_cases a4 : b0 / 8 = 30
  · have hw : wrap64 ((b0 : Int) - 240) = ((b0 % 8 : Nat) : Int) := by rw [wrap_id (by omega) (by omega)]; omega
    rw [if_pos (by omega), if_pos (by omega), hw]
    exact char_4 s i h hs m b0 hb0 hm a4
  · have hd : dec s i = (65533, 1) := by
      unfold dec Lib.decodeN
      rw [hb0, if_neg a1, if_neg (fun h => a2 h.1), if_neg (fun h => a3 h.1), if_neg (fun h => a4 h.1)]
    rw [nxt_bad hd]
    by_cases c : (b0 : Int) ≥ 240
    · rw [if_pos c, if_neg (by omega)]
    · rw [if_neg c]
theorem char_in (s : ByteArray) (i : Nat) (h : i < s.size) (hs : s.size ≤ 140737488351232) (k : Nat) (hk : 13 ≤ k) : pennantref01_Char.f k s i = some ((nxt s i).1, (nxt s i).2.1) := by
  obtain ⟨m, hm, rfl⟩ : ∃ m, 10 ≤ m ∧ k = m + 1 + 1 + 1 := ⟨k - 3, by omega, by omega⟩
  have hb := byte_lt s i
  obtain ⟨b0, hb0⟩ : ∃ b, (s.get! i).toNat = b := ⟨_, rfl⟩
  rw [hb0] at hb
  have e0 : wrap64 (b0 : Int) = b0 := wrap_id (by omega) (by omega)
  unfold pennantref01_Char.f
  rw [if_neg (by omega), j0_false _ _ _ _ (by simp; omega) (by omega) (by omega), bt_get, hb0, e0]
  by_cases a1 : b0 < 128
  · have hd : dec s i = (b0, 1) := by unfold dec Lib.decodeN; rw [hb0, if_pos a1]
    rw [if_pos (by omega), nxt_of hd (by omega)]; rfl
  rw [if_neg (by omega)]
  exact char_mid m hm s i h hs b0 hb0 hb a1
theorem char_out (s : ByteArray) (i : Int) (h : i < 0 ∨ (s.size : Int) ≤ i) (k : Nat) (hk : 1 ≤ k) : pennantref01_Char.f k s i = some (0, 0) := by
  obtain ⟨k, rfl⟩ : ∃ m, k = m + 1 := ⟨k - 1, by omega⟩
  unfold pennantref01_Char.f
  rcases h with h | h
  · rw [if_pos h]; simp only [pennantref01_Char.j0, if_true]
  · by_cases c : i < 0
    · rw [if_pos c]; simp only [pennantref01_Char.j0, if_true]
    · rw [if_neg c]; simp only [pennantref01_Char.j0]; rw [if_pos (by simp; omega)]
set_option maxRecDepth 100000 in
theorem awake20 : pennantlaw01_awake.f 20 = some true := by decide +kernel
theorem awake_true (k : Nat) (hk : 20 ≤ k) : pennantlaw01_awake.f k = some true := at_rounds pennantlaw01_awake.mono hk awake20
end Go.Proofs.YtpclncikhlameaaDoor.Pure
