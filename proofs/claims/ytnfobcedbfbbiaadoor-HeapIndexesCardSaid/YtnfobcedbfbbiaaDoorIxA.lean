/- A key as an index: both texts' functions, as plain functions of a list of units. -/
import Derived.Test.YtnfobcedbfbbiaaDoorPIxx3
namespace Go.Proofs.YtnfobcedbfbbiaaDoor.Pure
open Go.RowKit Go.Proofs.YtnfobcedbfbbiaaDoorW.PrintWords Go.Proofs.YtnfobcedbfbbiaaDoorW.PrintLast Go.Proofs.YtnfobcedbfbbiaaDoorW.PrintMore Go.Proofs.YtnfobcedbfbbiaaDoor.Hand Go.Proofs.YtnfobcedbfbbiaaDoor.PIx
set_option linter.unusedVariables false
theorem wrap_id {x : Int} (h0 : -9223372036854775808 ≤ x) (h1 : x ≤ 9223372036854775807) : wrap64 x = x := by unfold wrap64; omega
theorem wrap_nat {x : Int} {n : Nat} (h : x = (n : Int)) (hn : n ≤ 140737488355328) : wrap64 x = (n : Int) := by subst h; unfold wrap64; omega
theorem bsome {α β : Type} (a : α) (f : α → Option β) : (some a).bind f = f a := by
  cases h : f a <;> simp [h]
theorem get!_out (s : ByteArray) (j : Nat) (h : s.size ≤ j) : s.get! j = 0 := by
  cases s with
  | mk d =>
    have h' : ¬ j < d.size := Nat.not_lt.2 h
    exact getElem!_neg d j h'
theorem bt_get (s : ByteArray) (j : Nat) : bt s (j : Int) = ((s.get! j).toNat : Int) := by
  unfold bt
  simp only [Int.toNat_natCast]
  split
  · rename_i h
    rw [Utf8W.get!_of_lt s j h]
  · rename_i h
    rw [get!_out s j (Nat.le_of_not_lt h)]; rfl
theorem byte_lt (s : ByteArray) (j : Nat) : (s.get! j).toNat < 256 := (s.get! j).toNat_lt
/-- Unit number i of a wide text. -/
def U (w : ByteArray) (i : Nat) : Nat := (w.get! (2 * i)).toNat * 256 + (w.get! (2 * i + 1)).toNat
theorem U_lt (w : ByteArray) (i : Nat) : U w i < 65536 := by
  have h0 := byte_lt w (2 * i); have h1 := byte_lt w (2 * i + 1)
  unfold U; omega
theorem or_low (x y : Int) (h0 : 0 ≤ x) (h1 : x < 256) (g0 : 0 ≤ y) (g1 : y < 256) : Go.bits .or .i64 (x * 256) y = x * 256 + y :=
  bits_join .i64 16 (by decide) (fun n a b => by rw [IntKind.wrap_i64]; omega) 8 (x * 256) y (by omega) (by omega) (by omega) g0 (by omega) (by omega)
theorem len_is (w : ByteArray) (hs : w.size ≤ 140737488351232) : utf_Length.f w = some ((w.size / 2 : Nat) : Int) := by
  unfold utf_Length.f
  rw [wrap_id (by omega) (by omega)]; congr 1
theorem at_in (w : ByteArray) (i : Nat) (hs : w.size ≤ 140737488351232) (h : i < w.size / 2) : utf_At.f w i = some ((U w i : Int), true) := by
  have h0 := byte_lt w (2 * i); have h1 := byte_lt w (2 * i + 1)
  unfold utf_At.f
  rw [if_neg (by omega), len_is w hs]
  simp only [Option.bind_some]
  have e1 : wrap64 (2 * (i : Int)) = ((2 * i : Nat) : Int) := by rw [wrap_id (by omega) (by omega)]; omega
  have e2 : wrap64 (((2 * i : Nat) : Int) + 1) = ((2 * i + 1 : Nat) : Int) := by rw [wrap_id (by omega) (by omega)]; omega
  rw [if_neg (by omega), e1, if_pos (by omega), if_pos (by omega), e2, if_pos (by omega), if_pos (by omega), bt_get, bt_get,
    wrap_id (x := ((w.get! (2 * i)).toNat : Int)) (by omega) (by omega), wrap_id (x := ((w.get! (2 * i + 1)).toNat : Int)) (by omega) (by omega), wrap_id (x := ((w.get! (2 * i)).toNat : Int) * 256) (by omega) (by omega), or_low _ _ (by omega) (by omega) (by omega) (by omega)]
  unfold U
  rw [Int.natCast_add, Int.natCast_mul]; rfl
/-- An index's digits, from the first on. -/
def idxGo : List Nat → Nat → Bool → Int × Bool
  | [], n, _ => if n > 2147483647 then (0, false) else ((n : Int), true)
  | u :: t, n, first => if u < 48 then (0, false) else if u > 57 then (0, false) else if first = false ∧ n = 0 then (0, false) else idxGo t (n * 10 + u - 48) false
def units (key : ByteArray) : List Nat := (List.range (key.size / 2)).map (U key)
/-- What Index tells of a key. -/
def idxR (key : ByteArray) : Int × Bool := if key.size % 2 = 0 ∧ key.size ≠ 0 ∧ key.size ≤ 20 then idxGo (units key) 0 true else (0, false)
theorem units_drop (key : ByteArray) (i : Nat) : (units key).drop i = (if i < key.size / 2 then U key i :: (units key).drop (i + 1) else []) := by
  have hl : (units key).length = key.size / 2 := by simp [units]
  by_cases h : i < key.size / 2
  · rw [if_pos h, List.drop_eq_getElem_cons (by rw [hl]; exact h)]
    simp [units]
  · rw [if_neg h, List.drop_eq_nil_of_le (by omega)]
theorem index_loop (key : ByteArray) (hs : key.size ≤ 20) : ∀ (d i n : Nat), i + d = key.size / 2 → n < 10 ^ i → Ev (fun k => esheap_Index.l0 k key (n : Int) ((key.size / 2 : Nat) : Int) (i : Int)) (idxGo ((units key).drop i) n (decide (i = 0)))
  | 0, i, n, h, hn => by
    rw [units_drop, if_neg (by omega)]
    refine Ev.step (fun k => ?_) (Ev.now _)
    rw [esheap_Index.l0, if_neg (by omega)]
    unfold idxGo
    by_cases c : n > 2147483647
    · rw [if_pos c, if_pos (by omega)]
    · rw [if_neg c, if_neg (by omega)]
  | d + 1, i, n, h, hn => by
    have hi : i < key.size / 2 := by omega
    have hi10 : i ≤ 9 := by omega
    have hp : 10 ^ i ≤ 1000000000 := Nat.pow_le_pow_right (n := 10) (by omega) hi10
    have hu := U_lt key i
    have e1 : wrap64 ((i : Int) + 1) = ((i + 1 : Nat) : Int) := wrap_nat (by omega) (by omega)
    rw [units_drop, if_pos hi]
    unfold idxGo
    by_cases c1 : U key i < 48
    · rw [if_pos c1]
      refine Ev.step (fun k => ?_) (Ev.now _)
      rw [esheap_Index.l0, if_pos (by omega), at_in key i (by omega) hi, bsome, if_pos (by simp only; omega)]
    · rw [if_neg c1]
      by_cases c2 : U key i > 57
      · rw [if_pos c2]
        refine Ev.step (fun k => ?_) (Ev.now _)
        rw [esheap_Index.l0, if_pos (by omega), at_in key i (by omega) hi, bsome, if_neg (by simp only; omega), if_pos (by simp only; omega)]
      · rw [if_neg c2]
        have e2 : wrap64 (wrap64 (wrap64 ((n : Int) * 10) + (U key i : Int)) - 48) = ((n * 10 + U key i - 48 : Nat) : Int) := by
          rw [wrap_id (x := (n : Int) * 10) (by omega) (by omega), wrap_id (x := (n : Int) * 10 + (U key i : Int)) (by omega) (by omega), wrap_id (by omega) (by omega)]
          omega
        have ih := index_loop key hs d (i + 1) (n * 10 + U key i - 48) (by omega) (by rw [Nat.pow_succ]; omega)
        rw [show decide (i + 1 = 0) = false from decide_eq_false (by omega)] at ih
        by_cases c3 : i = 0
        · rw [if_neg (by rw [decide_eq_true c3]; simp)]
          refine Ev.step (fun k => ?_) ih
          rw [esheap_Index.l0, if_pos (by omega), at_in key i (by omega) hi, bsome, if_neg (by simp only; omega), if_neg (by simp only; omega), if_neg (by omega), e1]
          simp only
          rw [e2]
        · by_cases c4 : n = 0
          · rw [if_pos ⟨decide_eq_false c3, c4⟩]
            refine Ev.step (fun k => ?_) (Ev.now _)
            rw [esheap_Index.l0, if_pos (by omega), at_in key i (by omega) hi, bsome, if_neg (by simp only; omega), if_neg (by simp only; omega), if_pos (by omega), if_pos (by omega)]
          · rw [if_neg (fun hh => c4 hh.2)]
            refine Ev.step (fun k => ?_) ih
            rw [esheap_Index.l0, if_pos (by omega), at_in key i (by omega) hi, bsome, if_neg (by simp only; omega), if_neg (by simp only; omega), if_pos (by omega), if_neg (by omega), e1]
            simp only
            rw [e2]
theorem index_ev (key : ByteArray) (hs : key.size ≤ 140737488351232) : Ev (fun k => esheap_Index.f k key) (idxR key) := by
  unfold idxR
  have jt : Ev (fun k => esheap_Index.j0 k key 0 true) (0, false) := Ev.step (f := fun _ => some (0, false)) (fun k => by rw [esheap_Index.j0, if_pos rfl]) (Ev.now _)
  by_cases c1 : key.size % 2 = 0
  · by_cases c2 : key.size = 0
    · rw [if_neg (fun h => h.2.1 c2)]
      refine Ev.congr (fun k => ?_) jt
      unfold esheap_Index.f
      rw [if_pos (by omega), if_pos (by omega)]
    · by_cases c3 : key.size ≤ 20
      · rw [if_pos ⟨c1, c2, c3⟩]
        have h0 := index_loop key c3 (key.size / 2) 0 0 (by omega) (by decide)
        rw [List.drop_zero] at h0
        refine Ev.congr (f := fun k => esheap_Index.j0 k key 0 false) (fun k => ?_) (Ev.step (fun k => ?_) h0)
        · unfold esheap_Index.f
          rw [if_pos (by omega), if_neg (by omega), show decide ((key.size : Int) > 20) = false from decide_eq_false (by omega)]
        · rw [esheap_Index.j0, if_neg (by simp), len_is key (by omega), bsome]; rfl
      · rw [if_neg (fun h => c3 h.2.2)]
        refine Ev.congr (fun k => ?_) jt
        unfold esheap_Index.f
        rw [if_pos (by omega), if_neg (by omega), show decide ((key.size : Int) > 20) = true from decide_eq_true (by omega)]
  · rw [if_neg (fun h => c1 h.1)]
    refine Ev.congr (fun k => ?_) jt
    unfold esheap_Index.f
    rw [if_neg (by omega)]
/-- The contract of Index, without rounds. -/
theorem index_calls (key : ByteArray) (hs : key.size ≤ 140737488351232) (w : World) :
    Calls Tryd.prog 9 #[.string key] w fun e w' => e = .returned (.tuple #[.int .i64 (idxR key).1, .bool (idxR key).2]) ∧ ∃ n, w' = w.drewN n := by
  obtain ⟨K, h⟩ := index_ev key hs
  refine (esheap_Index.calls K key (idxR key).1 (idxR key).2 w (h K (Nat.le_refl _))).mono ?_
  rintro e w' ⟨rfl, hd⟩
  obtain ⟨n, rfl⟩ := hd
  exact ⟨rfl, n, rfl⟩
end Go.Proofs.YtnfobcedbfbbiaaDoor.Pure
