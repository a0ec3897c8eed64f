/- Plain laws on Narrow: both texts come to one map of units to characters. -/
import Derived.Test.YtpclncikhlameaaDoorPureC
import Derived.Test.YtpclncikhlameaaDoorPUtfx4
namespace Go.Proofs.YtpclncikhlameaaDoor.Pure
open Go.RowKit Go.Proofs.YtpclncikhlameaaDoor.PUtf Go.Proofs.YtpclncikhlameaaDoorW.PrintWords Go.Proofs.YtpclncikhlameaaDoorW.PrintLast Go.Proofs.YtpclncikhlameaaDoor.Hand
set_option linter.unusedVariables false

/-- Unit number i of a wide text. -/
def U (w : ByteArray) (i : Nat) : Nat := (w.get! (2 * i)).toNat * 256 + (w.get! (2 * i + 1)).toNat
theorem U_lt (w : ByteArray) (i : Nat) : U w i < 65536 := by
  have h0 := byte_lt w (2 * i); have h1 := byte_lt w (2 * i + 1)
  unfold U; omega
theorem or_low (x y : Int) (h0 : 0 ≤ x) (h1 : x < 256) (g0 : 0 ≤ y) (g1 : y < 256) : Go.bits .or .i64 (x * 256) y = x * 256 + y :=
  bits_join .i64 16 (by decide) (fun n a b => by rw [IntKind.wrap_i64]; omega) 8 (x * 256) y (by omega) (by omega) (by omega) g0 (by omega) (by omega)
theorem len_is (w : ByteArray) (hs : w.size ≤ 140737488351232) : utf_Length.f w = some ((w.size / 2 : Nat) : Int) := by
  unfold utf_Length.f
  rw [wrap_id (by omega) (by omega)]; congr 1
theorem at_in (w : ByteArray) (i : Nat) (hs : w.size ≤ 140737488351232) (h : i < w.size / 2) : utf_At.f w i = some ((U w i : Int), true) := by
  have h0 := byte_lt w (2 * i); have h1 := byte_lt w (2 * i + 1)
  unfold utf_At.f
  rw [if_neg (by omega), len_is w hs]
  simp only [Option.bind_some]
  have e1 : wrap64 (2 * (i : Int)) = ((2 * i : Nat) : Int) := by rw [wrap_id (by omega) (by omega)]; omega
  have e2 : wrap64 (((2 * i : Nat) : Int) + 1) = ((2 * i + 1 : Nat) : Int) := by rw [wrap_id (by omega) (by omega)]; omega
  rw [if_neg (by omega), e1, if_pos (by omega), if_pos (by omega), e2, if_pos (by omega), if_pos (by omega), bt_get, bt_get,
    wrap_id (x := ((w.get! (2 * i)).toNat : Int)) (by omega) (by omega), wrap_id (x := ((w.get! (2 * i + 1)).toNat : Int)) (by omega) (by omega), wrap_id (x := ((w.get! (2 * i)).toNat : Int) * 256) (by omega) (by omega), or_low _ _ (by omega) (by omega) (by omega) (by omega)]
  unfold U
  rw [Int.natCast_add, Int.natCast_mul]; rfl
theorem at_out (w : ByteArray) (i : Int) (hs : w.size ≤ 140737488351232) (h : i < 0 ∨ ((w.size / 2 : Nat) : Int) ≤ i) : utf_At.f w i = some (0, false) := by
  unfold utf_At.f
  by_cases c : i < 0
  · rw [if_pos c]
  · rw [if_neg c, len_is w hs]
    simp only [Option.bind_some]
    rw [if_pos (by omega)]
theorem rat_in (w : ByteArray) (i : Nat) (hs : w.size ≤ 140737488351232) (h : i < w.size / 2) : pennantref01_At.f w i = some (U w i : Int) := by
  have h0 := byte_lt w (2 * i); have h1 := byte_lt w (2 * i + 1)
  unfold pennantref01_At.f
  have e0 : wrap64 (wrap64 ((w.size : Int) / 2) - 1) = (w.size : Int) / 2 - 1 := by rw [wrap_id (x := (w.size : Int) / 2) (by omega) (by omega), wrap_id (by omega) (by omega)]
  have e1 : wrap64 (2 * (i : Int)) = ((2 * i : Nat) : Int) := by rw [wrap_id (by omega) (by omega)]; omega
  have e2 : wrap64 (((2 * i : Nat) : Int) + 1) = ((2 * i + 1 : Nat) : Int) := by rw [wrap_id (by omega) (by omega)]; omega
  rw [if_neg (by omega), e0, if_neg (by omega), e1, if_pos (by omega), if_pos (by omega), e2, if_pos (by omega), if_pos (by omega), bt_get, bt_get,
    wrap_id (x := ((w.get! (2 * i)).toNat : Int)) (by omega) (by omega), wrap_id (x := ((w.get! (2 * i + 1)).toNat : Int)) (by omega) (by omega), wrap_id (x := ((w.get! (2 * i)).toNat : Int) * 256) (by omega) (by omega), wrap_id (by omega) (by omega)]
  unfold U
  rw [Int.natCast_add, Int.natCast_mul]; rfl
theorem rat_out (w : ByteArray) (i : Int) (hs : w.size ≤ 140737488351232) (h : i < 0 ∨ ((w.size / 2 : Nat) : Int) ≤ i) : pennantref01_At.f w i = some (-1) := by
  unfold pennantref01_At.f
  have e0 : wrap64 (wrap64 ((w.size : Int) / 2) - 1) = (w.size : Int) / 2 - 1 := by rw [wrap_id (x := (w.size : Int) / 2) (by omega) (by omega), wrap_id (by omega) (by omega)]
  by_cases c : i < 0
  · rw [if_pos c]
  · rw [if_neg c, e0, if_pos (by omega)]

/-! ### runes -/
theorem rune_add (k : Nat) (hk : 1 ≤ k) (acc : List Int) (c : Nat) (hv : validC c) (hl : acc.length ≤ 100000000) : utf8_AppendRune.f k acc (c : Int) = some (acc ++ enc8 c) := by
  obtain ⟨k, rfl⟩ : ∃ m, k = m + 1 := ⟨k - 1, by omega⟩
  unfold validC at hv
  have em : (c : Int) % 4294967296 = c := by omega
  have o1 : ∀ a : Int, Go.bits .or .u8 128 (Go.bits .and .u8 (a % 256) 63) = 128 + a % 64 := or128_and63
  unfold utf8_AppendRune.f enc8
  rw [em]
  by_cases c1 : c < 128
  · rw [if_pos (by omega), if_pos (by omega), if_pos c1, show (c : Int) % 256 = c from by omega]
  rw [if_neg (by omega), if_neg c1]
  unfold utf8_appendRuneNonASCII.f
  rw [em]
  by_cases c2 : c < 2048
  · rw [if_pos (by omega), if_pos c2]
    simp only [Option.bind_some, List.length_cons, List.length_nil]
    rw [if_pos (by omega), u8_or192 (y := ((c : Int) / 64) % 256) (by omega) (by omega), o1]
    simp only [Option.bind_some]
    rw [show 192 + ((c : Int) / 64) % 256 = ((192 + c / 64 : Nat) : Int) from by omega, show 128 + (c : Int) % 64 = ((128 + c % 64 : Nat) : Int) from by omega]
  rw [if_neg (by omega), if_neg c2]
  have j3 : ∀ b : Bool, b = true → c < 65536 → utf8_appendRuneNonASCII.j0 (k + 1) acc (c : Int) (c : Int) b = some (acc ++ [((224 + c / 4096 : Nat) : Int), ((128 + c / 64 % 64 : Nat) : Int), ((128 + c % 64 : Nat) : Int)]) := by
    rintro b rfl hc
    simp only [utf8_appendRuneNonASCII.j0, if_true, Option.bind_some, List.length_cons, List.length_nil]
    rw [if_pos (by omega), u8_or224 (y := ((c : Int) / 4096) % 256) (by omega) (by omega), o1, o1, show 224 + ((c : Int) / 4096) % 256 = ((224 + c / 4096 : Nat) : Int) from by omega, show 128 + (c : Int) / 64 % 64 = ((128 + c / 64 % 64 : Nat) : Int) from by omega, show 128 + (c : Int) % 64 = ((128 + c % 64 : Nat) : Int) from by omega]
  have j4 : ∀ b : Bool, b = false → ¬ c < 65536 → utf8_appendRuneNonASCII.j0 (k + 1) acc (c : Int) (c : Int) b = some (acc ++ [((240 + c / 262144 : Nat) : Int), ((128 + c / 4096 % 64 : Nat) : Int), ((128 + c / 64 % 64 : Nat) : Int), ((128 + c % 64 : Nat) : Int)]) := by
    rintro b rfl hc
    simp only [utf8_appendRuneNonASCII.j0, Bool.false_eq_true, if_false]
    rw [if_pos (by omega), if_pos (by omega)]
    simp only [Option.bind_some, List.length_cons, List.length_nil]
    rw [if_pos (by omega), u8_or240 (y := ((c : Int) / 262144) % 256) (by omega) (by omega), o1, o1, o1, show 240 + ((c : Int) / 262144) % 256 = ((240 + c / 262144 : Nat) : Int) from by omega, show 128 + (c : Int) / 4096 % 64 = ((128 + c / 4096 % 64 : Nat) : Int) from by omega, show 128 + (c : Int) / 64 % 64 = ((128 + c / 64 % 64 : Nat) : Int) from by omega, show 128 + (c : Int) % 64 = ((128 + c % 64 : Nat) : Int) from by omega]
  by_cases c3 : c < 55296
  · rw [if_pos (by omega), if_pos (by omega), j3 _ (by simp; omega) (by omega)]; rfl
  · rw [if_neg (by omega), if_pos (by omega)]
    by_cases c4 : c < 65536
    · rw [if_pos c4, j3 _ (by simp; omega) c4]; rfl
    · rw [if_neg c4, j4 _ (by simp; omega) c4]; rfl
theorem rbytes_is (c : Nat) (hv : validC c) : pennantref01_bytes.f (c : Int) = some (strOfNums (enc8 c)) := by
  unfold validC at hv
  unfold pennantref01_bytes.f enc8
  have td : ∀ d : Nat, 0 < d → Int.tdiv (c : Int) (d : Int) = ((c / d : Nat) : Int) := fun d _ => by rw [Int.tdiv_eq_ediv_of_nonneg (by omega)]; rfl
  have tm : ∀ a d : Nat, Int.tmod (a : Int) (d : Int) = ((a % d : Nat) : Int) := fun a d => by rw [Int.tmod_eq_emod_of_nonneg (by omega)]; rfl
  have w1 : ∀ d : Nat, wrap64 ((c / d : Nat) : Int) = ((c / d : Nat) : Int) := fun d => by
    have h9 : c / d ≤ c := Nat.div_le_self _ _
    exact wrap_nat _ (Nat.le_trans h9 (by omega))
  have d64 := td 64 (by omega); have d4 := td 4096 (by omega); have d2 := td 262144 (by omega)
  have m1 := tm c 64; have m2 := tm (c / 64) 64; have m3 := tm (c / 4096) 64
  rw [show ((64 : Nat) : Int) = 64 from rfl] at d64 m1 m2 m3
  rw [show ((4096 : Nat) : Int) = 4096 from rfl] at d4
  rw [show ((262144 : Nat) : Int) = 262144 from rfl] at d2
  have wb : ∀ x : Nat, x < 256 → (wrap64 (x : Int)) % 256 = (x : Int) := fun x hx => by rw [wrap_id (by omega) (by omega)]; omega
  by_cases c1 : c < 128
  · rw [if_pos (by omega), if_pos c1, show (c : Int) % 256 = c from by omega]
  rw [if_neg (by omega), if_neg c1]
  by_cases c2 : c < 2048
  · rw [if_pos (by omega), if_pos c2, d64, w1, m1, show (192 : Int) + ((c / 64 : Nat) : Int) = ((192 + c / 64 : Nat) : Int) from by omega, show (128 : Int) + ((c % 64 : Nat) : Int) = ((128 + c % 64 : Nat) : Int) from by omega, wb _ (by omega), wb _ (by omega)]
  rw [if_neg (by omega), if_neg c2]
  by_cases c3 : c < 65536
  · rw [if_pos (by omega), if_pos c3, d4, w1, d64, w1, m2, m1, show (224 : Int) + ((c / 4096 : Nat) : Int) = ((224 + c / 4096 : Nat) : Int) from by omega, show (128 : Int) + ((c / 64 % 64 : Nat) : Int) = ((128 + c / 64 % 64 : Nat) : Int) from by omega, show (128 : Int) + ((c % 64 : Nat) : Int) = ((128 + c % 64 : Nat) : Int) from by omega, wb _ (by omega), wb _ (by omega), wb _ (by omega)]
  · rw [if_neg (by omega), if_neg c3, d2, w1, d4, w1, d64, w1, m3, m2, m1, show (240 : Int) + ((c / 262144 : Nat) : Int) = ((240 + c / 262144 : Nat) : Int) from by omega, show (128 : Int) + ((c / 4096 % 64 : Nat) : Int) = ((128 + c / 4096 % 64 : Nat) : Int) from by omega, show (128 : Int) + ((c / 64 % 64 : Nat) : Int) = ((128 + c / 64 % 64 : Nat) : Int) from by omega, show (128 : Int) + ((c % 64 : Nat) : Int) = ((128 + c % 64 : Nat) : Int) from by omega, wb _ (by omega), wb _ (by omega), wb _ (by omega), wb _ (by omega)]

/-! ### Narrow: units to characters -/
abbrev hiS (u : Nat) : Prop := 55296 ≤ u ∧ u < 56320
abbrev loS (u : Nat) : Prop := 56320 ≤ u ∧ u < 57344
def lone (u : Nat) : Nat := if 55296 ≤ u ∧ u < 57344 then 65533 else u
def pairC (u v : Nat) : Nat := 65536 + (u - 55296) * 1024 + (v - 56320)
theorem lone_valid (u : Nat) (h : u < 65536) : validC (lone u) := by unfold lone validC; split <;> omega
theorem pair_valid (u v : Nat) (h : hiS u) (k : loS v) : validC (pairC u v) := by unfold hiS at h; unfold loS at k; unfold pairC validC; omega
/-- From unit i of n on, the characters. -/
def nw (w : ByteArray) (n : Nat) : Nat → Nat → List Nat
  | 0, _ => []
  | f + 1, i => if i < n then (if i + 1 < n ∧ hiS (U w i) ∧ loS (U w (i + 1)) then pairC (U w i) (U w (i + 1)) :: nw w n f (i + 2) else lone (U w i) :: nw w n f (i + 1)) else []
theorem nw_valid (w : ByteArray) (n : Nat) : ∀ f i, ∀ c ∈ nw w n f i, validC c
  | 0, i, c, h => by cases h
  | f + 1, i, c, h => by
    simp only [nw] at h
    split at h
    · split at h
      · rename_i c1 c2
        rcases List.mem_cons.1 h with h | h
        · rw [h]; exact pair_valid _ _ c2.2.1 c2.2.2
        · exact nw_valid w n f _ c h
      · rcases List.mem_cons.1 h with h | h
        · rw [h]; exact lone_valid _ (U_lt w i)
        · exact nw_valid w n f _ c h
    · cases h
theorem nw_end {w : ByteArray} {n f i : Nat} (h : ¬ i < n) : nw w n (f + 1) i = [] := by simp only [nw]; rw [if_neg h]
theorem nw_pair {w : ByteArray} {n f i : Nat} (h1 : i + 1 < n) (h2 : hiS (U w i)) (h3 : loS (U w (i + 1))) : nw w n (f + 1) i = pairC (U w i) (U w (i + 1)) :: nw w n f (i + 2) := by
  simp only [nw]; rw [if_pos (by omega), if_pos ⟨h1, h2, h3⟩]
theorem nw_lone {w : ByteArray} {n f i : Nat} (h : i < n) (h1 : ¬ (i + 1 < n ∧ hiS (U w i) ∧ loS (U w (i + 1)))) : nw w n (f + 1) i = lone (U w i) :: nw w n f (i + 1) := by
  simp only [nw]; rw [if_pos h, if_neg h1]
theorem pair_nat (u v : Nat) (h : hiS u) (k : loS v) : wrap32 (wrap64 (wrap64 (wrap64 (65536 + wrap64 (wrap64 ((u : Int) - 55296) * 1024)) + (v : Int)) - 56320)) = ((pairC u v : Nat) : Int) := by
  unfold hiS at h; unfold loS at k
  rw [show (u : Int) - 55296 = ((u - 55296 : Nat) : Int) from by omega, wrap_nat _ (by omega), show ((u - 55296 : Nat) : Int) * 1024 = (((u - 55296) * 1024 : Nat) : Int) from by omega, wrap_nat _ (by omega),
    show (65536 : Int) + (((u - 55296) * 1024 : Nat) : Int) = ((65536 + (u - 55296) * 1024 : Nat) : Int) from by omega, wrap_nat _ (by omega), show ((65536 + (u - 55296) * 1024 : Nat) : Int) + (v : Int) = ((65536 + (u - 55296) * 1024 + v : Nat) : Int) from by omega, wrap_nat _ (by omega),
    show ((65536 + (u - 55296) * 1024 + v : Nat) : Int) - 56320 = ((65536 + (u - 55296) * 1024 + (v - 56320) : Nat) : Int) from by omega, wrap_nat _ (by omega)]
  unfold wrap32 pairC; omega
theorem wrap32_nat (n : Nat) (h : n ≤ 1114111) : wrap32 (n : Int) = n := by unfold wrap32; omega
theorem lone_in {u : Nat} (h : 55296 ≤ u ∧ u < 57344) : lone u = 65533 := by unfold lone; rw [if_pos h]
theorem lone_out {u : Nat} (h : ¬ (55296 ≤ u ∧ u < 57344)) : lone u = u := by unfold lone; rw [if_neg h]
theorem fffd : ((65533 : Nat) : Int) = 65533 := by omega
theorem valid_fffd : validC 65533 := by unfold validC; omega
set_option maxRecDepth 100000 in
theorem narrow_go (w : ByteArray) (hs : w.size ≤ 1000000) : ∀ (f k i : Nat) (acc : List Int), w.size / 2 - i < f → 2 * f + 1 ≤ k → acc.length ≤ 4 * i → i ≤ w.size / 2 + 2 → utf_Narrow.l0 k w acc i = some (strOfNums (acc ++ (nw w (w.size / 2) f i).flatMap enc8), 0) := by
  intro f
  induction f with
  | zero => intro k i acc hf; exact absurd hf (by omega)
  | succ f ih =>
    intro k i acc hf hk hl hi
    obtain ⟨k, rfl⟩ : ∃ m, k = m + 1 + 1 := ⟨k - 2, by omega⟩
    have hU := U_lt w i
    simp only [utf_Narrow.l0]
    rw [len_is w (by omega)]
    simp only [Option.bind_some]
    have e1 : wrap64 ((i : Int) + 1) = ((i + 1 : Nat) : Int) := wrap_add i 1 (by omega)
    have e2 : wrap64 (((i + 1 : Nat) : Int) + 1) = ((i + 2 : Nat) : Int) := wrap_add (i + 1) 1 (by omega)
    by_cases c1 : i < w.size / 2
    · have step : ∀ c : Nat, validC c → (utf8_AppendRune.f k acc (c : Int)).bind (fun t => utf_Narrow.l0 k w t ((i + 1 : Nat) : Int)) = some (strOfNums (acc ++ (c :: nw w (w.size / 2) f (i + 1)).flatMap enc8), 0) := by
        intro c hv
        have hc := enc8_len c
        rw [rune_add k (by omega) acc c hv (by omega)]
        simp only [Option.bind_some]
        rw [ih k (i + 1) _ (by omega) (by omega) (by rw [List.length_append]; omega) (by omega), List.flatMap_cons, List.append_assoc]
      rw [if_pos (by omega), at_in w i (by omega) c1]
      simp only [Option.bind_some]
      have hj : (if (U w i : Int) ≥ 55296 then utf_Narrow.j1 (k + 1) w acc i (U w i : Int) (decide ((U w i : Int) < 57344)) else utf_Narrow.j1 (k + 1) w acc i (U w i : Int) false) = utf_Narrow.j1 (k + 1) w acc i (U w i : Int) (decide (55296 ≤ U w i ∧ U w i < 57344)) := by
        by_cases c : (U w i : Int) ≥ 55296
        · have hd : decide ((U w i : Int) < 57344) = decide (55296 ≤ U w i ∧ U w i < 57344) := by rw [decide_eq_decide]; omega
          rw [if_pos c, hd]
        · have hd : decide (55296 ≤ U w i ∧ U w i < 57344) = false := by rw [decide_eq_false_iff_not]; omega
          rw [if_neg c, hd]
      rw [hj]
      simp only [utf_Narrow.j1, decide_eq_true_eq, e1]
      by_cases c2 : 55296 ≤ U w i ∧ U w i < 57344
      · rw [if_pos c2]
        have s1 := step 65533 valid_fffd
        rw [fffd] at s1
        by_cases c3 : i + 1 < w.size / 2
        · have hV := U_lt w (i + 1)
          rw [at_in w (i + 1) (by omega) c3]
          simp only [Option.bind_some]
          by_cases c4 : hiS (U w i) ∧ loS (U w (i + 1))
          · have hc := enc8_len (pairC (U w i) (U w (i + 1)))
            rw [nw_pair c3 c4.1 c4.2, if_pos (by omega), if_pos trivial, if_pos (by omega), if_pos (by omega), pair_nat _ _ c4.1 c4.2, rune_add k (by omega) acc _ (pair_valid _ _ c4.1 c4.2) (by omega)]
            simp only [Option.bind_some]
            rw [e2, ih k (i + 2) _ (by omega) (by omega) (by rw [List.length_append]; omega) (by omega), List.flatMap_cons, List.append_assoc]
          · rw [nw_lone c1 (fun h => c4 h.2), lone_in c2]
            unfold hiS loS at c4
            by_cases d1 : (U w i : Int) < 56320
            · rw [if_pos d1, if_pos trivial]
              by_cases d2 : (U w (i + 1) : Int) ≥ 56320
              · rw [if_pos d2, if_neg (by omega)]; exact s1
              · rw [if_neg d2]; exact s1
            · rw [if_neg d1]; exact s1
        · rw [at_out w _ (by omega) (.inr (by omega))]
          simp only [Option.bind_some]
          rw [nw_lone c1 (fun h => c3 h.1), lone_in c2]
          by_cases d1 : (U w i : Int) < 56320
          · rw [if_pos d1, if_neg (by simp)]; exact s1
          · rw [if_neg d1]; exact s1
      · have hnp : ¬ (i + 1 < w.size / 2 ∧ hiS (U w i) ∧ loS (U w (i + 1))) := by unfold hiS; omega
        rw [if_neg c2, nw_lone c1 hnp, lone_out c2, wrap32_nat _ (by omega)]
        exact step _ (by unfold validC; omega)
    · rw [if_neg (by omega), nw_end c1]; simp
theorem narrow_is (w : ByteArray) (hs : w.size ≤ 1000000) (k : Nat) (hk : w.size + 4 ≤ k) :
    utf_Narrow.f k w = some (if w.size % 2 = 0 then (strOfNums ((nw w (w.size / 2) (w.size / 2 + 1) 0).flatMap enc8), 0) else (⟨#[]⟩, 11)) := by
  unfold utf_Narrow.f
  by_cases c : w.size % 2 = 0
  · rw [if_pos (by omega), if_pos c]
    exact narrow_go w hs (w.size / 2 + 1) k 0 [] (by omega) (by omega) (by simp) (by omega)
  · rw [if_neg (by omega), if_neg c]
end Go.Proofs.YtpclncikhlameaaDoor.Pure
