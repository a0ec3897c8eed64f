/- Plain laws on the units of a text: both texts of Wide come to one recursion. -/
import Derived.Test.YtpclncikhlameaaDoorPureA
import Derived.Lib.RuneBytes
namespace Go.Proofs.YtpclncikhlameaaDoor.Pure
open Go.RowKit Go.Proofs.YtpclncikhlameaaDoor.PUtf Go.Proofs.YtpclncikhlameaaDoorW.PrintWords Go.Proofs.YtpclncikhlameaaDoorW.PrintLast Go.Proofs.YtpclncikhlameaaDoor.Hand
set_option linter.unusedVariables false

/-! ### bytes as numbers -/
def IsBytes (xs : List Int) : Prop := ∀ x ∈ xs, 0 ≤ x ∧ x < 256
theorem IsBytes.nil : IsBytes [] := fun x h => by cases h
theorem IsBytes.append {xs ys : List Int} (h : IsBytes xs) (k : IsBytes ys) : IsBytes (xs ++ ys) := fun x hx => (List.mem_append.1 hx).elim (h x) (k x)
theorem IsBytes.drop {xs : List Int} (h : IsBytes xs) (n : Nat) : IsBytes (xs.drop n) := fun x hx => h x (List.mem_of_mem_drop hx)
theorem bytesOf_is (s : ByteArray) : IsBytes (bytesOf s) := by
  intro x hx
  unfold bytesOf at hx
  obtain ⟨b, _, rfl⟩ := List.mem_map.1 hx
  have := b.toNat_lt
  omega
theorem strOfNums_append (xs ys : List Int) : strOfNums (xs ++ ys) = strOfNums xs ++ strOfNums ys := by
  apply ByteArray.ext
  simp [strOfNums, ByteArray.data_append]
theorem strOfNums_bytesOf (s : ByteArray) : strOfNums (bytesOf s) = s := by
  apply ByteArray.ext
  apply Array.ext'
  simp only [strOfNums, bytesOf, List.map_map]
  conv => rhs; rw [← List.map_id s.data.toList]
  apply List.map_congr_left
  intro b _
  simp
theorem bytesOf_strOfNums (xs : List Int) (h : IsBytes xs) : bytesOf (strOfNums xs) = xs := by
  unfold bytesOf
  rw [strOfNums_data, List.map_map]
  conv => rhs; rw [← List.map_id xs]
  apply List.map_congr_left
  intro x hx
  have := h x hx
  simp only [Function.comp, id, UInt8.toNat_ofNat']
  omega
theorem strOfNums_len (xs : List Int) : (strOfNums xs).size = xs.length := strOfNums_size xs
theorem strOfNums_nil : (⟨#[]⟩ : ByteArray) = strOfNums [] := rfl
theorem bytesOf_get (s : ByteArray) (j : Nat) (h : j < s.size) : (bytesOf s)[j]? = some ((s.get! j).toNat : Int) := by
  unfold bytesOf
  have h' : j < s.data.toList.length := by rw [data_length]; exact h
  rw [List.getElem?_map, List.getElem?_eq_getElem h', Utf8W.get!_of_lt s j h]
  rfl

/-! ### units -/
def unit2 (u : Nat) : List Int := [((u / 256 : Nat) : Int), ((u % 256 : Nat) : Int)]
def units (c : Nat) : List Int := if 65536 ≤ c then unit2 (55296 + (c - 65536) / 1024) ++ unit2 (56320 + (c - 65536) % 1024) else unit2 c
theorem units_len (c : Nat) : (units c).length ≤ 4 := by unfold units unit2; split <;> simp
theorem units_is (c : Nat) (h : c ≤ 1114111) : IsBytes (units c) := by
  unfold units unit2
  intro x hx
  split at hx
  · simp only [List.cons_append, List.nil_append, List.mem_cons, List.mem_nil_iff, or_false] at hx
    rcases hx with rfl | rfl | rfl | rfl <;> omega
  · simp only [List.mem_cons, List.mem_nil_iff, or_false] at hx
    rcases hx with rfl | rfl <;> omega
abbrev bad (s : ByteArray) (i : Nat) : Prop := (dec s i).1 = 65533 ∧ (dec s i).2 = 1
/-- Wide, from a place on, with what stands ahead. -/
def wd (s : ByteArray) : Nat → Nat → List Int → ByteArray × Int × Int
  | 0, _, _ => (⟨#[]⟩, 0, 0)
  | f + 1, i, acc => if i < s.size then (if bad s i then (⟨#[]⟩, (i : Int), 10) else wd s f (i + (dec s i).2) (acc ++ units (dec s i).1)) else (strOfNums acc, 0, 0)
theorem units_le (s : ByteArray) (i : Nat) (h : ¬ bad s i) : (units (dec s i).1).length ≤ 2 * (dec s i).2 := by
  have h1 : (dec s i).1 ≤ 65535 ∨ (dec s i).2 = 4 := by
    have h0 := byte_lt s i; have h1 := byte_lt s (i + 1); have h2 := byte_lt s (i + 2); have h3 := byte_lt s (i + 3)
    unfold dec Lib.decodeN
    repeat' split
    all_goals first | (right; rfl) | (left; simp only; omega)
  have := (dec_range s i).2
  unfold units unit2
  split
  · simp; omega
  · simp; omega
theorem unit_add (acc : List Int) (u : Nat) (hu : u < 65536) (hl : acc.length ≤ 100000000) : utf_unit.f acc (u : Int) = some (acc ++ unit2 u) := by
  unfold utf_unit.f unit2
  simp only [Option.bind_some, List.length_cons, List.length_nil]
  rw [if_pos (by omega), show ((u : Int) / 256) % 256 = ((u / 256 : Nat) : Int) from by omega, show (u : Int) % 256 = ((u % 256 : Nat) : Int) from by omega]
theorem and1023 (x : Int) (h0 : 0 ≤ x) (h1 : x < 1048576) : Go.bits .and .i64 x 1023 = x % 1024 := bits_mask .i64 20 (by decide) (fun n a b => by rw [IntKind.wrap_i64]; omega) 10 (by decide) x h0 h1
theorem wrap_nat (n : Nat) (h : n ≤ 1000000000000) : wrap64 (n : Int) = n := wrap_id (by omega) (by omega)
theorem wrap_add (i n : Nat) (h : i + n ≤ 1000000000000) : wrap64 ((i : Int) + (n : Int)) = ((i + n : Nat) : Int) := wrap_nat (i + n) h
theorem sub_nat (c : Nat) (h : 65536 ≤ c) (k : c ≤ 1114111) : wrap64 ((c : Int) - 65536) = ((c - 65536 : Nat) : Int) := by
  rw [show (c : Int) - 65536 = ((c - 65536 : Nat) : Int) from by omega, wrap_nat _ (by omega)]
theorem hi_nat (c : Nat) (h : 65536 ≤ c) (k : c ≤ 1114111) : wrap64 (55296 + (wrap64 ((c : Int) - 65536)) / 1024) = ((55296 + (c - 65536) / 1024 : Nat) : Int) := by
  rw [sub_nat c h k, show (55296 : Int) + ((c - 65536 : Nat) : Int) / 1024 = ((55296 + (c - 65536) / 1024 : Nat) : Int) from by omega, wrap_nat _ (by omega)]
theorem lo_nat (c : Nat) (h : 65536 ≤ c) (k : c ≤ 1114111) : wrap64 (56320 + Go.bits .and .i64 (wrap64 ((c : Int) - 65536)) 1023) = ((56320 + (c - 65536) % 1024 : Nat) : Int) := by
  rw [sub_nat c h k, and1023 _ (by omega) (by omega), show (56320 : Int) + ((c - 65536 : Nat) : Int) % 1024 = ((56320 + (c - 65536) % 1024 : Nat) : Int) from by omega, wrap_nat _ (by omega)]
theorem rhi_nat (c : Nat) (h : 65536 ≤ c) (k : c ≤ 1114111) : wrap64 (55296 + wrap64 (Int.tdiv (wrap64 ((c : Int) - 65536)) 1024)) = ((55296 + (c - 65536) / 1024 : Nat) : Int) := by
  rw [sub_nat c h k, Int.tdiv_eq_ediv_of_nonneg (by omega), show ((c - 65536 : Nat) : Int) / 1024 = (((c - 65536) / 1024 : Nat) : Int) from by omega, wrap_nat _ (by omega), show (55296 : Int) + (((c - 65536) / 1024 : Nat) : Int) = ((55296 + (c - 65536) / 1024 : Nat) : Int) from by omega, wrap_nat _ (by omega)]
theorem rlo_nat (c : Nat) (h : 65536 ≤ c) (k : c ≤ 1114111) : wrap64 (56320 + Int.tmod (wrap64 ((c : Int) - 65536)) 1024) = ((56320 + (c - 65536) % 1024 : Nat) : Int) := by
  rw [sub_nat c h k, Int.tmod_eq_emod_of_nonneg (by omega), show (56320 : Int) + ((c - 65536 : Nat) : Int) % 1024 = ((56320 + (c - 65536) % 1024 : Nat) : Int) from by omega, wrap_nat _ (by omega)]
theorem wide_go (s : ByteArray) (hs : s.size ≤ 1000000) : ∀ (f k i : Nat) (acc : List Int), s.size - i < f → f + 1 ≤ k → acc.length ≤ 2 * i → i ≤ s.size + 4 → utf_Wide.l0 k s acc i = some (wd s f i acc)
  | 0, k, i, acc, hf, _, _, _ => absurd hf (by omega)
  | f + 1, k, i, acc, hf, hk, hl, hi => by
    obtain ⟨k, rfl⟩ : ∃ m, k = m + 1 := ⟨k - 1, by omega⟩
    have hr := dec_range s i
    simp only [utf_Wide.l0, wd]
    by_cases c1 : i < s.size
    · rw [if_pos (by omega), if_pos c1, next_in s i c1 (by omega) k (by omega)]
      simp only [Option.bind_some]
      by_cases c2 : bad s i
      · have e : nxt s i = (0, 0, false) := by unfold nxt; rw [if_pos c2]
        rw [if_pos c2, e]
        rfl
      · have e : nxt s i = (((dec s i).1 : Int), ((dec s i).2 : Int), true) := by unfold nxt; rw [if_neg c2]
        have hu := units_le s i c2
        rw [if_neg c2, e]
        simp only [if_true]
        rw [wrap_add i (dec s i).2 (by omega)]
        by_cases c3 : 65536 ≤ (dec s i).1
        · rw [if_pos (by omega), hi_nat _ c3 hr.1, lo_nat _ c3 hr.1, unit_add _ _ (by omega) (by omega)]
          simp only [Option.bind_some]
          rw [unit_add _ _ (by omega) (by simp [unit2]; omega)]
          simp only [Option.bind_some]
          rw [List.append_assoc, show unit2 (55296 + ((dec s i).1 - 65536) / 1024) ++ unit2 (56320 + ((dec s i).1 - 65536) % 1024) = units (dec s i).1 from by unfold units; rw [if_pos c3]]
          exact wide_go s hs f k _ _ (by omega) (by omega) (by rw [List.length_append]; omega) (by omega)
        · rw [if_neg (by omega), unit_add _ _ (by omega) (by omega)]
          simp only [Option.bind_some]
          rw [show unit2 (dec s i).1 = units (dec s i).1 from by unfold units; rw [if_neg c3]]
          exact wide_go s hs f k _ _ (by omega) (by omega) (by rw [List.length_append]; omega) (by omega)
    · rw [if_neg (by omega), if_neg c1]
theorem wide_is (s : ByteArray) (hs : s.size ≤ 1000000) (k : Nat) (hk : s.size + 2 ≤ k) : utf_Wide.f k s = some (wd s (s.size + 1) 0 []) := by
  have e : wrap64 (2 * (s.size : Int)) = ((2 * s.size : Nat) : Int) := wrap_nat (2 * s.size) (by omega)
  unfold utf_Wide.f
  rw [e, if_pos (by omega), if_pos (by omega)]
  exact wide_go s hs (s.size + 1) k 0 [] (by omega) (by omega) (by simp) (by omega)
theorem runit_add (u : Nat) (hu : u < 65536) : pennantref01_Unit.f (u : Int) = some (strOfNums (unit2 u)) := by
  unfold pennantref01_Unit.f unit2
  have e1 : Int.tdiv (u : Int) 256 = ((u / 256 : Nat) : Int) := by rw [Int.tdiv_eq_ediv_of_nonneg (by omega)]; omega
  have e2 : Int.tmod (u : Int) 256 = ((u % 256 : Nat) : Int) := by rw [Int.tmod_eq_emod_of_nonneg (by omega)]; omega
  rw [e1, e2, wrap_nat _ (by omega), show ((u / 256 : Nat) : Int) % 256 = ((u / 256 : Nat) : Int) from by omega, show ((u % 256 : Nat) : Int) % 256 = ((u % 256 : Nat) : Int) from by omega]
theorem rwide_go (s : ByteArray) (hs : s.size ≤ 1000000) : ∀ (f k i : Nat) (acc : List Int), s.size - i < f → f + 13 ≤ k → acc.length ≤ 2 * i → i ≤ s.size + 4 → pennantref01_Wide.l0 k s (strOfNums acc) i = some (wd s f i acc)
  | 0, k, i, acc, hf, _, _, _ => absurd hf (by omega)
  | f + 1, k, i, acc, hf, hk, hl, hi => by
    obtain ⟨k, rfl⟩ : ∃ m, k = m + 1 := ⟨k - 1, by omega⟩
    have hr := dec_range s i
    simp only [pennantref01_Wide.l0, wd]
    by_cases c1 : i < s.size
    · rw [if_pos (by omega), if_pos c1, char_in s i c1 (by omega) k (by omega)]
      simp only [Option.bind_some]
      by_cases c2 : bad s i
      · have e : nxt s i = (0, 0, false) := by unfold nxt; rw [if_pos c2]
        rw [if_pos c2, e]
        rfl
      · have e : nxt s i = (((dec s i).1 : Int), ((dec s i).2 : Int), true) := by unfold nxt; rw [if_neg c2]
        have hu := units_le s i c2
        rw [if_neg c2, e]
        simp only
        rw [if_neg (by omega)]
        rw [wrap_add i (dec s i).2 (by omega)]
        by_cases c3 : 65536 ≤ (dec s i).1
        · rw [if_pos (by omega), rhi_nat _ c3 hr.1, rlo_nat _ c3 hr.1, runit_add _ (by omega)]
          simp only [Option.bind_some, strOfNums_len]
          rw [if_pos (by simp [unit2]; omega), runit_add _ (by omega)]
          simp only [Option.bind_some, strOfNums_len]
          rw [if_pos (by simp [unit2]; omega), ← strOfNums_append, ← strOfNums_append, List.append_assoc, show unit2 (55296 + ((dec s i).1 - 65536) / 1024) ++ unit2 (56320 + ((dec s i).1 - 65536) % 1024) = units (dec s i).1 from by unfold units; rw [if_pos c3]]
          exact rwide_go s hs f k _ _ (by omega) (by omega) (by rw [List.length_append]; omega) (by omega)
        · rw [if_neg (by omega), runit_add _ (by omega)]
          simp only [Option.bind_some, strOfNums_len]
          rw [if_pos (by simp [unit2]; omega), ← strOfNums_append, show unit2 (dec s i).1 = units (dec s i).1 from by unfold units; rw [if_neg c3]]
          exact rwide_go s hs f k _ _ (by omega) (by omega) (by rw [List.length_append]; omega) (by omega)
    · rw [if_neg (by omega), if_neg c1]
theorem rwide_is (s : ByteArray) (hs : s.size ≤ 1000000) (k : Nat) (hk : s.size + 14 ≤ k) : pennantref01_Wide.f k s = some (wd s (s.size + 1) 0 []) := by
  unfold pennantref01_Wide.f
  exact rwide_go s hs (s.size + 1) k 0 [] (by omega) (by omega) (by simp) (by omega)
end Go.Proofs.YtpclncikhlameaaDoor.Pure
