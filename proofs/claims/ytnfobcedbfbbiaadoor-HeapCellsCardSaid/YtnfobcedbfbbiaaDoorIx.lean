/- Keys and indexes: both texts as plain functions. -/
import Derived.Test.YtnfobcedbfbbiaaDoorPIxx3
import Derived.Lib.ItoaLen
namespace Go.Proofs.YtnfobcedbfbbiaaDoor.Pure
open Go.RowKit Go.Proofs.YtnfobcedbfbbiaaDoorW.PrintWords Go.Proofs.YtnfobcedbfbbiaaDoorW.PrintLast Go.Proofs.YtnfobcedbfbbiaaDoorW.PrintMore Go.Proofs.YtnfobcedbfbbiaaDoor.Hand Go.Proofs.YtnfobcedbfbbiaaDoor.PIx
set_option linter.unusedVariables false
set_option linter.unusedSimpArgs false
section
theorem wrap_id {x : Int} (h0 : -9223372036854775808 ≤ x) (h1 : x ≤ 9223372036854775807) : wrap64 x = x := by unfold wrap64; omega
theorem wrap_nat {x : Int} {n : Nat} (h : x = (n : Int)) (hn : n ≤ 140737488355328) : wrap64 x = (n : Int) := by subst h; unfold wrap64; omega
theorem bsome {α β : Type} (a : α) (f : α → Option β) : (some a).bind f = f a := by
  cases h : f a <;> simp [h]
theorem get!_out (s : ByteArray) (j : Nat) (h : s.size ≤ j) : s.get! j = 0 := by
  cases s with
  | mk d =>
    have h' : ¬ j < d.size := Nat.not_lt.2 h
    exact getElem!_neg d j h'
theorem bt_get (s : ByteArray) (j : Nat) : bt s (j : Int) = ((s.get! j).toNat : Int) := by
  unfold bt
  simp only [Int.toNat_natCast]
  split
  · rename_i h
    rw [Utf8W.get!_of_lt s j h]
  · rename_i h
    rw [get!_out s j (Nat.le_of_not_lt h)]; rfl
theorem byte_lt (s : ByteArray) (j : Nat) : (s.get! j).toNat < 256 := (s.get! j).toNat_lt
/-- Unit number i of a wide text. -/
def U (w : ByteArray) (i : Nat) : Nat := (w.get! (2 * i)).toNat * 256 + (w.get! (2 * i + 1)).toNat
theorem U_lt (w : ByteArray) (i : Nat) : U w i < 65536 := by
  have h0 := byte_lt w (2 * i); have h1 := byte_lt w (2 * i + 1)
  unfold U; omega
theorem or_low (x y : Int) (h0 : 0 ≤ x) (h1 : x < 256) (g0 : 0 ≤ y) (g1 : y < 256) : Go.bits .or .i64 (x * 256) y = x * 256 + y :=
  bits_join .i64 16 (by decide) (fun n a b => by rw [IntKind.wrap_i64]; omega) 8 (x * 256) y (by omega) (by omega) (by omega) g0 (by omega) (by omega)
theorem len_is (w : ByteArray) (hs : w.size ≤ 140737488351232) : utf_Length.f w = some ((w.size / 2 : Nat) : Int) := by
  unfold utf_Length.f
  rw [wrap_id (by omega) (by omega)]; congr 1
theorem at_in (w : ByteArray) (i : Nat) (hs : w.size ≤ 140737488351232) (h : i < w.size / 2) : utf_At.f w i = some ((U w i : Int), true) := by
  have h0 := byte_lt w (2 * i); have h1 := byte_lt w (2 * i + 1)
  unfold utf_At.f
  rw [if_neg (by omega), len_is w hs]
  simp only [Option.bind_some]
  have e1 : wrap64 (2 * (i : Int)) = ((2 * i : Nat) : Int) := by rw [wrap_id (by omega) (by omega)]; omega
  have e2 : wrap64 (((2 * i : Nat) : Int) + 1) = ((2 * i + 1 : Nat) : Int) := by rw [wrap_id (by omega) (by omega)]; omega
  rw [if_neg (by omega), e1, if_pos (by omega), if_pos (by omega), e2, if_pos (by omega), if_pos (by omega), bt_get, bt_get,
    wrap_id (x := ((w.get! (2 * i)).toNat : Int)) (by omega) (by omega), wrap_id (x := ((w.get! (2 * i + 1)).toNat : Int)) (by omega) (by omega), wrap_id (x := ((w.get! (2 * i)).toNat : Int) * 256) (by omega) (by omega), or_low _ _ (by omega) (by omega) (by omega) (by omega)]
  unfold U
  rw [Int.natCast_add, Int.natCast_mul]; rfl
/-- An index's digits, from the first on. -/
def idxGo : List Nat → Nat → Bool → Int × Bool
  | [], n, _ => if n > 2147483647 then (0, false) else ((n : Int), true)
  | u :: t, n, first => if u < 48 then (0, false) else if u > 57 then (0, false) else if first = false ∧ n = 0 then (0, false) else idxGo t (n * 10 + u - 48) false
def units (key : ByteArray) : List Nat := (List.range (key.size / 2)).map (U key)
/-- What Index tells of a key. -/
def idxR (key : ByteArray) : Int × Bool := if key.size % 2 = 0 ∧ key.size ≠ 0 ∧ key.size ≤ 20 then idxGo (units key) 0 true else (0, false)
theorem units_drop (key : ByteArray) (i : Nat) : (units key).drop i = (if i < key.size / 2 then U key i :: (units key).drop (i + 1) else []) := by
  have hl : (units key).length = key.size / 2 := by simp [units]
  by_cases h : i < key.size / 2
  · rw [if_pos h, List.drop_eq_getElem_cons (by rw [hl]; exact h)]
    simp [units]
  · rw [if_neg h, List.drop_eq_nil_of_le (by omega)]
theorem index_loop (key : ByteArray) (hs : key.size ≤ 20) : ∀ (d i n : Nat), i + d = key.size / 2 → n < 10 ^ i → Ev (fun k => esheap_Index.l0 k key (n : Int) ((key.size / 2 : Nat) : Int) (i : Int)) (idxGo ((units key).drop i) n (decide (i = 0)))
  | 0, i, n, h, hn => by
    rw [units_drop, if_neg (by omega)]
    refine Ev.step (fun k => ?_) (Ev.now _)
    rw [esheap_Index.l0, if_neg (by omega)]
    unfold idxGo
    by_cases c : n > 2147483647
    · rw [if_pos c, if_pos (by omega)]
    · rw [if_neg c, if_neg (by omega)]
  | d + 1, i, n, h, hn => by
    have hi : i < key.size / 2 := by omega
    have hi10 : i ≤ 9 := by omega
    have hp : 10 ^ i ≤ 1000000000 := Nat.pow_le_pow_right (n := 10) (by omega) hi10
    have hu := U_lt key i
    have e1 : wrap64 ((i : Int) + 1) = ((i + 1 : Nat) : Int) := wrap_nat (by omega) (by omega)
    rw [units_drop, if_pos hi]
    unfold idxGo
    by_cases c1 : U key i < 48
    · rw [if_pos c1]
      refine Ev.step (fun k => ?_) (Ev.now _)
      rw [esheap_Index.l0, if_pos (by omega), at_in key i (by omega) hi, bsome, if_pos (by simp only; omega)]
    · rw [if_neg c1]
      by_cases c2 : U key i > 57
      · rw [if_pos c2]
        refine Ev.step (fun k => ?_) (Ev.now _)
        rw [esheap_Index.l0, if_pos (by omega), at_in key i (by omega) hi, bsome, if_neg (by simp only; omega), if_pos (by simp only; omega)]
      · rw [if_neg c2]
        have e2 : wrap64 (wrap64 (wrap64 ((n : Int) * 10) + (U key i : Int)) - 48) = ((n * 10 + U key i - 48 : Nat) : Int) := by
          rw [wrap_id (x := (n : Int) * 10) (by omega) (by omega), wrap_id (x := (n : Int) * 10 + (U key i : Int)) (by omega) (by omega), wrap_id (by omega) (by omega)]
          omega
        have ih := index_loop key hs d (i + 1) (n * 10 + U key i - 48) (by omega) (by rw [Nat.pow_succ]; omega)
        rw [show decide (i + 1 = 0) = false from decide_eq_false (by omega)] at ih
        by_cases c3 : i = 0
        · rw [if_neg (by rw [decide_eq_true c3]; simp)]
          refine Ev.step (fun k => ?_) ih
          rw [esheap_Index.l0, if_pos (by omega), at_in key i (by omega) hi, bsome, if_neg (by simp only; omega), if_neg (by simp only; omega), if_neg (by omega), e1]
          simp only
          rw [e2]
        · by_cases c4 : n = 0
          · rw [if_pos ⟨decide_eq_false c3, c4⟩]
            refine Ev.step (fun k => ?_) (Ev.now _)
            rw [esheap_Index.l0, if_pos (by omega), at_in key i (by omega) hi, bsome, if_neg (by simp only; omega), if_neg (by simp only; omega), if_pos (by omega), if_pos (by omega)]
          · rw [if_neg (fun hh => c4 hh.2)]
            refine Ev.step (fun k => ?_) ih
            rw [esheap_Index.l0, if_pos (by omega), at_in key i (by omega) hi, bsome, if_neg (by simp only; omega), if_neg (by simp only; omega), if_pos (by omega), if_neg (by omega), e1]
            simp only
            rw [e2]
theorem index_ev (key : ByteArray) (hs : key.size ≤ 140737488351232) : Ev (fun k => esheap_Index.f k key) (idxR key) := by
  unfold idxR
  have jt : Ev (fun k => esheap_Index.j0 k key 0 true) (0, false) := Ev.step (f := fun _ => some (0, false)) (fun k => by rw [esheap_Index.j0, if_pos rfl]) (Ev.now _)
  by_cases c1 : key.size % 2 = 0
  · by_cases c2 : key.size = 0
    · rw [if_neg (fun h => h.2.1 c2)]
      refine Ev.congr (fun k => ?_) jt
      unfold esheap_Index.f
      rw [if_pos (by omega), if_pos (by omega)]
    · by_cases c3 : key.size ≤ 20
      · rw [if_pos ⟨c1, c2, c3⟩]
        have h0 := index_loop key c3 (key.size / 2) 0 0 (by omega) (by decide)
        rw [List.drop_zero] at h0
        refine Ev.congr (f := fun k => esheap_Index.j0 k key 0 false) (fun k => ?_) (Ev.step (fun k => ?_) h0)
        · unfold esheap_Index.f
          rw [if_pos (by omega), if_neg (by omega), show decide ((key.size : Int) > 20) = false from decide_eq_false (by omega)]
        · rw [esheap_Index.j0, if_neg (by simp), len_is key (by omega), bsome]; rfl
      · rw [if_neg (fun h => c3 h.2.2)]
        refine Ev.congr (fun k => ?_) jt
        unfold esheap_Index.f
        rw [if_pos (by omega), if_neg (by omega), show decide ((key.size : Int) > 20) = true from decide_eq_true (by omega)]
  · rw [if_neg (fun h => c1 h.1)]
    refine Ev.congr (fun k => ?_) jt
    unfold esheap_Index.f
    rw [if_neg (by omega)]
/-- The contract of Index, without rounds. -/
theorem index_calls (key : ByteArray) (hs : key.size ≤ 140737488351232) (w : World) :
    Calls Tryd.prog 9 #[.string key] w fun e w' => e = .returned (.tuple #[.int .i64 (idxR key).1, .bool (idxR key).2]) ∧ ∃ n, w' = w.drewN n := by
  obtain ⟨K, h⟩ := index_ev key hs
  refine (esheap_Index.calls K key (idxR key).1 (idxR key).2 w (h K (Nat.le_refl _))).mono ?_
  rintro e w' ⟨rfl, hd⟩
  obtain ⟨n, rfl⟩ := hd
  exact ⟨rfl, n, rfl⟩
end
section
def bytesOf (l : List UInt8) : ByteArray := ⟨l.toArray⟩
theorem bytesOf_append (a b : List UInt8) : bytesOf (a ++ b) = bytesOf a ++ bytesOf b := by
  apply ByteArray.ext
  simp [bytesOf]
theorem bytesOf_size (a : List UInt8) : (bytesOf a).size = a.length := by simp [bytesOf, ByteArray.size]
theorem ofNums_one (x : Nat) (h : x < 256) : strOfNums [(x : Int)] = bytesOf [UInt8.ofNat x] := by
  unfold strOfNums bytesOf
  apply ByteArray.ext
  simp
theorem digits_step (u : Nat) (x0 : Int) (acc sign : ByteArray) (k : Nat) (hx : x0 = (u : Int) ∨ x0 = -(u : Int)) (h0 : -9223372036854775808 ≤ x0) (h1 : x0 ≤ 9223372036854775807) (ha : acc.size ≤ 1000) (hs : sign.size ≤ 1000) :
    pennantref08_Digits.l0 (k + 1) x0 acc sign = (if u / 10 = 0 then some (sign ++ (bytesOf [UInt8.ofNat (48 + u % 10)] ++ acc)) else pennantref08_Digits.l0 k (wrap64 (Int.tdiv x0 10)) (bytesOf [UInt8.ofNat (48 + u % 10)] ++ acc) sign) := by
  have hsz : (bytesOf [UInt8.ofNat (48 + u % 10)]).size = 1 := bytesOf_size _
  have hd : wrap64 (Int.tdiv x0 10) = 0 ↔ u / 10 = 0 := by
    have hq : ((u : Int)).tdiv 10 = ((u / 10 : Nat) : Int) := rfl
    unfold wrap64
    rcases hx with rfl | rfl
    · rw [hq]; omega
    · rw [Int.neg_tdiv, hq]; omega
  have hm : (Int.tmod x0 10 < 0 → (wrap64 (48 + (wrap64 (-(Int.tmod x0 10))))) % 256 = ((48 + u % 10 : Nat) : Int)) ∧ (¬ Int.tmod x0 10 < 0 → (wrap64 (48 + (Int.tmod x0 10))) % 256 = ((48 + u % 10 : Nat) : Int)) := by
    have ht : ((u : Int)).tmod 10 = ((u % 10 : Nat) : Int) := rfl
    unfold wrap64
    rcases hx with rfl | rfl
    · rw [ht]; constructor <;> intro h <;> omega
    · rw [Int.neg_tmod, ht]; constructor <;> intro h <;> omega
  simp only [pennantref08_Digits.l0]
  by_cases c : Int.tmod x0 10 < 0
  · rw [if_pos c, bsome, hm.1 c, ofNums_one _ (by omega), hsz, if_pos (by omega)]
    by_cases d : u / 10 = 0
    · rw [if_pos d, if_pos (hd.2 d), if_pos (by omega)]
    · rw [if_neg d, if_neg (fun e => d (hd.1 e))]
  · rw [if_neg c, bsome, hm.2 c, ofNums_one _ (by omega), hsz, if_pos (by omega)]
    by_cases d : u / 10 = 0
    · rw [if_pos d, if_pos (hd.2 d), if_pos (by omega)]
    · rw [if_neg d, if_neg (fun e => d (hd.1 e))]
theorem digits_go : ∀ (u : Nat) (x0 : Int) (acc sign : ByteArray), (x0 = (u : Int) ∨ x0 = -(u : Int)) → -9223372036854775808 ≤ x0 → x0 ≤ 9223372036854775807 → acc.size + Lib.nDigits u ≤ 1000 → sign.size ≤ 1000 → Ev (fun k => pennantref08_Digits.l0 k x0 acc sign) (sign ++ (bytesOf (Lib.decDigits u) ++ acc)) := by
  intro u
  induction u using Nat.strongRecOn with
  | _ u ih =>
    intro x0 acc sign hx h0 h1 ha hs
    by_cases d : u / 10 = 0
    · refine ⟨1, fun k hk => ?_⟩
      obtain ⟨m, rfl⟩ : ∃ m, k = m + 1 := ⟨k - 1, by omega⟩
      show pennantref08_Digits.l0 (m + 1) x0 acc sign = _
      rw [digits_step u x0 acc sign m hx h0 h1 (by omega) hs, if_pos d, Lib.decDigits_one (by omega), show u % 10 = u by omega]
    · skip
      have hx' : Int.tdiv x0 10 = ((u / 10 : Nat) : Int) ∨ Int.tdiv x0 10 = -((u / 10 : Nat) : Int) := by
        rcases hx with rfl | rfl
        · exact .inl rfl
        · right; rw [Int.neg_tdiv]; rfl
      have hw : wrap64 (Int.tdiv x0 10) = Int.tdiv x0 10 := by
        generalize Int.tdiv x0 10 = t at hx'
        unfold wrap64
        omega
      have hb0 : -9223372036854775808 ≤ Int.tdiv x0 10 ∧ Int.tdiv x0 10 ≤ 9223372036854775807 := by
        generalize Int.tdiv x0 10 = t at hx'
        omega
      have hn : Lib.nDigits u = Lib.nDigits (u / 10) + 1 := Lib.nDigits_big (by omega)
      obtain ⟨K, g⟩ := ih (u / 10) (by omega) (Int.tdiv x0 10) (bytesOf [UInt8.ofNat (48 + u % 10)] ++ acc) sign hx' hb0.1 hb0.2 (by rw [ByteArray.size_append, bytesOf_size]; simp only [List.length_cons, List.length_nil]; omega) hs
      refine ⟨K + 1, fun k hk => ?_⟩
      obtain ⟨m, rfl⟩ : ∃ m, k = m + 1 := ⟨k - 1, by omega⟩
      simp only at g
      show pennantref08_Digits.l0 (m + 1) x0 acc sign = _
      rw [digits_step u x0 acc sign m hx h0 h1 (by omega) hs, if_neg d, hw, g m (by omega)]
      have hdd : Lib.decDigits u = Lib.decDigits (u / 10) ++ [UInt8.ofNat (48 + u % 10)] := by rw [Lib.decDigits, dif_neg (by omega)]
      rw [hdd, bytesOf_append, ByteArray.append_assoc]
/-- The document's Digits gives the numeral. -/
theorem digits_is (n : Int) (h0 : -9223372036854775808 ≤ n) (h1 : n ≤ 9223372036854775807) : Ev (fun k => pennantref08_Digits.f k n) (bytesOf (Lib.itoa n)) := by
  have hlen := Lib.itoa_length_le n h0 h1
  by_cases c : n < 0
  · have hi : Lib.itoa n = 45 :: Lib.decDigits n.natAbs := by unfold Lib.itoa; rw [if_pos c]
    have hl : Lib.nDigits n.natAbs ≤ 20 := by rw [hi] at hlen; simp only [List.length_cons, Lib.decDigits_length] at hlen; omega
    obtain ⟨K, g⟩ := digits_go n.natAbs n ⟨#[]⟩ ⟨#[45]⟩ (by omega) h0 h1 (by show 0 + _ ≤ 1000; omega) (by decide)
    refine ⟨K + 1, fun k hk => ?_⟩
    obtain ⟨m, rfl⟩ : ∃ m, k = m + 1 := ⟨k - 1, by omega⟩
    simp only at g
    show pennantref08_Digits.f (m + 1) n = _
    unfold pennantref08_Digits.f
    rw [if_pos c]
    simp only [pennantref08_Digits.j0]
    rw [g m (by omega), hi, show (45 :: Lib.decDigits n.natAbs) = [45] ++ Lib.decDigits n.natAbs from rfl, bytesOf_append]
    congr 1
    apply ByteArray.ext
    simp [bytesOf]
  · have hi : Lib.itoa n = Lib.decDigits n.toNat := by unfold Lib.itoa; rw [if_neg c]
    have hl : Lib.nDigits n.toNat ≤ 21 := by rw [hi, Lib.decDigits_length] at hlen; exact hlen
    obtain ⟨K, g⟩ := digits_go n.toNat n ⟨#[]⟩ ⟨#[]⟩ (by omega) h0 h1 (by show 0 + _ ≤ 1000; omega) (by decide)
    refine ⟨K + 1, fun k hk => ?_⟩
    obtain ⟨m, rfl⟩ : ∃ m, k = m + 1 := ⟨k - 1, by omega⟩
    simp only at g
    show pennantref08_Digits.f (m + 1) n = _
    unfold pennantref08_Digits.f
    rw [if_neg c]
    simp only [pennantref08_Digits.j0]
    rw [g m (by omega), hi]
    congr 1
    apply ByteArray.ext
    simp [bytesOf]
end
section
def wideL (l : List UInt8) : List UInt8 := l.flatMap fun b => [0, b]
theorem unit_is (b : UInt8) : pennantref01_Unit.f (wrap64 (b.toNat : Int)) = some (bytesOf [0, b]) := by
  have hb := b.toNat_lt
  have e1 : wrap64 (b.toNat : Int) = (b.toNat : Int) := by unfold wrap64; omega
  have e2 : (wrap64 (Int.tdiv (b.toNat : Int) 256)) % 256 = 0 := by
    rw [show Int.tdiv (b.toNat : Int) 256 = ((b.toNat / 256 : Nat) : Int) from rfl]; unfold wrap64; omega
  have e3 : (Int.tmod (b.toNat : Int) 256) % 256 = (b.toNat : Int) := by
    rw [show Int.tmod (b.toNat : Int) 256 = ((b.toNat % 256 : Nat) : Int) from rfl]; omega
  unfold pennantref01_Unit.f
  rw [e1, e2, e3]
  congr 1
  unfold strOfNums bytesOf
  apply ByteArray.ext
  simp
theorem bt_bytesOf (l : List UInt8) (i : Nat) (h : i < l.length) : bt (bytesOf l) (i : Int) = (l[i].toNat : Int) := by
  unfold bt
  simp only [Int.toNat_natCast]
  rw [dif_pos (by rw [bytesOf_size]; exact h)]
  rfl
theorem of_go (l : List UInt8) (hl : l.length ≤ 1000) : ∀ (d i : Nat) (acc : ByteArray), i + d = l.length → acc.size ≤ 2 * i → Ev (fun k => pennantref01_Of.l0 k (bytesOf l) acc (i : Int)) (acc ++ bytesOf (wideL (l.drop i))) := by
  intro d
  induction d with
  | zero =>
    intro i acc hi ha
    refine ⟨1, fun k hk => ?_⟩
    obtain ⟨m, rfl⟩ : ∃ m, k = m + 1 := ⟨k - 1, by omega⟩
    show pennantref01_Of.l0 (m + 1) (bytesOf l) acc (i : Int) = _
    simp only [pennantref01_Of.l0]
    rw [if_neg (by rw [bytesOf_size]; omega), List.drop_eq_nil_of_le (by omega)]
    congr 1
    apply ByteArray.ext
    simp [bytesOf, wideL]
  | succ d ih =>
    intro i acc hi ha
    have hil : i < l.length := by omega
    obtain ⟨K, g⟩ := ih (i + 1) (acc ++ bytesOf [0, l[i]]) (by omega) (by rw [ByteArray.size_append, bytesOf_size]; simp only [List.length_cons, List.length_nil]; omega)
    refine ⟨K + 1, fun k hk => ?_⟩
    obtain ⟨m, rfl⟩ : ∃ m, k = m + 1 := ⟨k - 1, by omega⟩
    show pennantref01_Of.l0 (m + 1) (bytesOf l) acc (i : Int) = _
    simp only at g
    simp only [pennantref01_Of.l0]
    rw [if_pos (by rw [bytesOf_size]; omega), if_pos (by omega), bt_bytesOf l i hil, unit_is, bsome, if_pos (by rw [bytesOf_size]; simp only [List.length_cons, List.length_nil]; omega), show wrap64 ((i : Int) + 1) = ((i + 1 : Nat) : Int) by unfold wrap64; omega, g m (by omega), List.drop_eq_getElem_cons hil]
    congr 1
    unfold wideL
    rw [List.flatMap_cons, bytesOf_append, ByteArray.append_assoc]
theorem of_is (l : List UInt8) (hl : l.length ≤ 1000) : Ev (fun k => pennantref01_Of.f k (bytesOf l)) (bytesOf (wideL l)) := by
  obtain ⟨K, g⟩ := of_go l hl l.length 0 ⟨#[]⟩ (by omega) (by decide)
  refine ⟨K, fun k hk => ?_⟩
  show pennantref01_Of.f k (bytesOf l) = _
  unfold pennantref01_Of.f
  simp only at g
  rw [show (0 : Int) = ((0 : Nat) : Int) from rfl, g k hk, List.drop_zero]
  rw [show (⟨#[]⟩ : ByteArray) ++ bytesOf (wideL l) = bytesOf (wideL l) from by apply ByteArray.ext; simp [bytesOf]]
/-- The document's Key. -/
theorem rkey_is (n : Int) (h0 : -9223372036854775808 ≤ n) (h1 : n ≤ 9223372036854775807) : Ev (fun k => pennantref08_Key.f k n) (bytesOf (wideL (Lib.itoa n))) := by
  have hlen := Lib.itoa_length_le n h0 h1
  obtain ⟨K1, g1⟩ := digits_is n h0 h1
  obtain ⟨K2, g2⟩ := of_is (Lib.itoa n) (by omega)
  simp only at g1 g2
  refine ⟨K1 + K2, fun k hk => ?_⟩
  show pennantref08_Key.f k n = _
  unfold pennantref08_Key.f
  rw [g1 k (by omega), bsome, g2 k (by omega), bsome]
theorem wideL_len (l : List UInt8) : (wideL l).length = 2 * l.length := by
  unfold wideL
  induction l with
  | nil => rfl
  | cons b t ih => rw [List.flatMap_cons, List.length_append, ih]; simp only [List.length_cons, List.length_nil]; omega
theorem wideL_get (l : List UInt8) : ∀ i, i < l.length → (wideL l)[2 * i]? = some 0 ∧ (wideL l)[2 * i + 1]? = l[i]? := by
  unfold wideL
  induction l with
  | nil => intro i hi; simp at hi
  | cons b t ih =>
    intro i hi
    rw [List.flatMap_cons]
    cases i with
    | zero => exact ⟨rfl, rfl⟩
    | succ i =>
      have := ih i (by simpa using hi)
      rw [show 2 * (i + 1) = 2 * i + 1 + 1 by omega, show 2 * i + 1 + 1 + 1 = (2 * i + 1) + 1 + 1 from rfl]
      exact this
theorem get_bytesOf (l : List UInt8) (j : Nat) (b : UInt8) (h : l[j]? = some b) : (bytesOf l).get! j = b := by
  have hj := (List.getElem?_eq_some_iff.1 h).1
  have h2 := (List.getElem?_eq_some_iff.1 h).2
  have : (bytesOf l).get! j = (l.toArray)[j]! := rfl
  rw [this, getElem!_pos _ _ (by simpa using hj)]
  simpa using h2
theorem U_wide (l : List UInt8) (i : Nat) (h : i < l.length) : U (bytesOf (wideL l)) i = (l[i]).toNat := by
  obtain ⟨g0, g1⟩ := wideL_get l i h
  rw [List.getElem?_eq_getElem h] at g1
  unfold U
  rw [get_bytesOf _ _ _ g0, get_bytesOf _ _ _ g1]
  simp
theorem units_wide (l : List UInt8) : units (bytesOf (wideL l)) = l.map UInt8.toNat := by
  unfold units
  rw [bytesOf_size, wideL_len]
  apply List.ext_getElem?
  intro n
  by_cases h : n < l.length
  · rw [List.getElem?_map, List.getElem?_range (by omega), List.getElem?_map, List.getElem?_eq_getElem h]
    simp [U_wide l n h]
  · rw [List.getElem?_eq_none (by simp; omega), List.getElem?_eq_none (by simp; omega)]
end
section
theorem digit_nat (d : Nat) (h : d < 10) : (UInt8.ofNat (48 + d)).toNat = 48 + d := by
  rw [UInt8.toNat_ofNat']; omega
theorem idxGo_step (d : Nat) (rest : List Nat) (m : Nat) (f : Bool) (h : d < 10) (hm : f = true ∨ 0 < m) : idxGo ((48 + d) :: rest) m f = idxGo rest (m * 10 + d) false := by
  have hn : ¬ (f = false ∧ m = 0) := by
    rintro ⟨e1, e2⟩
    rcases hm with e | e
    · rw [e] at e1; cases e1
    · omega
  rw [idxGo, if_neg (by omega), if_neg (by omega), if_neg hn]
  congr 1
  omega
theorem idxGo_dec : ∀ (u : Nat) (rest : List Nat), (rest = [] ∨ 0 < u) → idxGo ((Lib.decDigits u).map UInt8.toNat ++ rest) 0 true = idxGo rest u false := by
  intro u
  induction u using Nat.strongRecOn with
  | _ u ih =>
    intro rest hr
    by_cases c : u < 10
    · rw [Lib.decDigits_one c]
      simp only [List.map_cons, List.map_nil, List.cons_append, List.nil_append]
      rw [digit_nat u c, idxGo_step u rest 0 true c (.inl rfl)]
      congr 1
      omega
    · rw [Lib.decDigits, dif_neg c, List.map_append, List.append_assoc, ih (u / 10) (by omega) _ (.inr (by omega))]
      simp only [List.map_cons, List.map_nil, List.cons_append, List.nil_append]
      rw [digit_nat (u % 10) (by omega), idxGo_step (u % 10) rest (u / 10) false (by omega) (.inr (by omega))]
      congr 1
      omega
theorem nd_le : ∀ (d u : Nat), u < 10 ^ (d + 1) → Lib.nDigits u ≤ d + 1 := by
  intro d
  induction d with
  | zero => intro u h; rw [Lib.nDigits_small (by omega)]; omega
  | succ d ih =>
    intro u h
    by_cases c : u < 10
    · rw [Lib.nDigits_small c]; omega
    · rw [Lib.nDigits_big c]
      have := ih (u / 10) (by rw [Nat.pow_succ] at h; omega)
      omega
theorem idxR_key (n : Int) (h0 : -9223372036854775808 ≤ n) (h1 : n ≤ 9223372036854775807) :
    (idxR (bytesOf (wideL (Lib.itoa n)))).2 = decide (0 ≤ n ∧ n ≤ 2147483647) ∧ ((idxR (bytesOf (wideL (Lib.itoa n)))).2 = true → (idxR (bytesOf (wideL (Lib.itoa n)))).1 = n) := by
  unfold idxR
  rw [units_wide, bytesOf_size, wideL_len]
  by_cases c : n < 0
  · have hi : Lib.itoa n = 45 :: Lib.decDigits n.natAbs := by unfold Lib.itoa; rw [if_pos c]
    have e : idxGo ((Lib.itoa n).map UInt8.toNat) 0 true = (0, false) := by
      rw [hi, List.map_cons, idxGo, if_pos (by decide)]
    rw [e]
    have hd : decide (0 ≤ n ∧ n ≤ 2147483647) = false := decide_eq_false (by omega)
    rw [hd]
    split <;> exact ⟨rfl, fun h => by cases h⟩
  · have hi : Lib.itoa n = Lib.decDigits n.toNat := by unfold Lib.itoa; rw [if_neg c]
    have hl : (Lib.itoa n).length = Lib.nDigits n.toNat := by rw [hi, Lib.decDigits_length]
    have hp : 1 ≤ Lib.nDigits n.toNat := by
      by_cases d : n.toNat < 10
      · rw [Lib.nDigits_small d]; omega
      · rw [Lib.nDigits_big d]; omega
    have e : idxGo ((Lib.itoa n).map UInt8.toNat) 0 true = if n.toNat > 2147483647 then (0, false) else ((n.toNat : Int), true) := by
      have := idxGo_dec n.toNat [] (.inl rfl)
      rw [List.append_nil] at this
      rw [hi, this, idxGo]
    rw [e, hl]
    by_cases b : n ≤ 2147483647
    · have := nd_le 9 n.toNat (by omega)
      rw [if_pos ⟨by omega, by omega, by omega⟩, if_neg (by omega)]
      exact ⟨(decide_eq_true (by omega)).symm, fun _ => by show ((n.toNat : Int)) = n; omega⟩
    · have hd : decide (0 ≤ n ∧ n ≤ 2147483647) = false := decide_eq_false (by omega)
      rw [hd, if_pos (by omega : n.toNat > 2147483647)]
      split <;> exact ⟨rfl, fun h => by cases h⟩
end
section
theorem get!_extract (s : ByteArray) (i j : Nat) : (s.extract i s.size).get! j = s.get! (i + j) := by
  by_cases h : i + j < s.size
  · have h2 : j < (s.extract i s.size).size := by rw [ByteArray.size_extract]; omega
    rw [Utf8W.get!_of_lt _ _ h2, Utf8W.get!_of_lt _ _ h]
    simp [ByteArray.getElem_extract]
  · have h2 : (s.extract i s.size).size ≤ j := by rw [ByteArray.size_extract]; omega
    rw [get!_out _ _ h2, get!_out _ _ (by omega)]
theorem dec_plain (s : ByteArray) (i : Nat) (h : i < s.size) (hb : (s.get! i).toNat < 128) : Lib.decodeGo (s.extract i s.size) = ((s.get! i).toNat, 1) := by
  have hsz : (s.extract i s.size).size = s.size - i := by rw [ByteArray.size_extract]; omega
  unfold Lib.decodeGo
  rw [if_neg (by omega), Lib.decode_at, hsz]
  simp only [get!_extract, Nat.add_zero]
  unfold Lib.decodeN
  first | rw [if_pos hb] | (rw [if_neg (by omega), if_pos hb]) | (repeat' split <;> first | rfl | omega)
theorem next_plain (s : ByteArray) (i : Nat) (h : i < s.size) (hs : s.size ≤ 1000) (hb : (s.get! i).toNat < 128) (k : Nat) (hk : 1 ≤ k) : utf_Next.f k s i = some (((s.get! i).toNat : Int), 1, true) := by
  obtain ⟨k, rfl⟩ : ∃ m, k = m + 1 := ⟨k - 1, by omega⟩
  unfold utf_Next.f
  rw [if_neg (by omega)]
  simp only [utf_Next.j0]
  rw [if_neg (by simp; omega), if_pos (by omega), if_pos (by omega)]
  simp only [Int.toNat_natCast, utf8_DecodeRuneInString.f]
  rw [dec_plain s i h hb, bsome]
  simp only
  rw [if_neg (by omega), wrap_id (by omega) (by omega)]
  rfl
end
section
def wideN (l : List UInt8) : List Int := l.flatMap fun b => [0, (b.toNat : Int)]
theorem unit_plain (acc : List Int) (u : Nat) (hu : u < 128) (hl : acc.length ≤ 100000) : utf_unit.f acc (u : Int) = some (acc ++ [0, (u : Int)]) := by
  unfold utf_unit.f
  rw [bsome]
  simp only [List.length_cons, List.length_nil]
  rw [if_pos (by omega), show ((u : Int) / 256) % 256 = 0 by omega, show (u : Int) % 256 = (u : Int) by omega]
theorem wide_go (l : List UInt8) (hl : l.length ≤ 100) (hb : ∀ b ∈ l, b.toNat < 128) : ∀ (d i : Nat) (acc : List Int), i + d = l.length → acc.length ≤ 2 * i → Ev (fun k => utf_Wide.l0 k (bytesOf l) acc (i : Int)) (strOfNums (acc ++ wideN (l.drop i)), 0, 0) := by
  have hsz := bytesOf_size l
  intro d
  induction d with
  | zero =>
    intro i acc hi ha
    refine ⟨1, fun k hk => ?_⟩
    obtain ⟨m, rfl⟩ : ∃ m, k = m + 1 := ⟨k - 1, by omega⟩
    show utf_Wide.l0 (m + 1) (bytesOf l) acc (i : Int) = _
    simp only [utf_Wide.l0]
    rw [if_neg (by omega), List.drop_eq_nil_of_le (by omega), show wideN [] = [] from rfl, List.append_nil]
  | succ d ih =>
    intro i acc hi ha
    have hil : i < l.length := by omega
    have hg : ((bytesOf l).get! i) = l[i] := get_bytesOf l i _ (List.getElem?_eq_getElem hil)
    have h128 := hb _ (List.getElem_mem hil)
    obtain ⟨K, g⟩ := ih (i + 1) (acc ++ [0, (l[i].toNat : Int)]) (by omega) (by rw [List.length_append]; simp only [List.length_cons, List.length_nil]; omega)
    refine ⟨K + 2, fun k hk => ?_⟩
    obtain ⟨m, rfl⟩ : ∃ m, k = m + 1 := ⟨k - 1, by omega⟩
    show utf_Wide.l0 (m + 1) (bytesOf l) acc (i : Int) = _
    simp only at g
    simp only [utf_Wide.l0]
    rw [if_pos (by omega), next_plain (bytesOf l) i (by omega) (by omega) (by rw [hg]; exact h128) m (by omega), bsome, hg]
    simp only [if_true]
    rw [if_neg (by omega), unit_plain acc _ h128 (by omega), bsome, show wrap64 ((i : Int) + 1) = ((i + 1 : Nat) : Int) by unfold wrap64; omega, g m (by omega), List.drop_eq_getElem_cons hil]
    unfold wideN
    rw [List.flatMap_cons, List.append_assoc]
theorem nums_wide (l : List UInt8) : strOfNums (wideN l) = bytesOf (wideL l) := by
  unfold strOfNums bytesOf wideN wideL
  apply ByteArray.ext
  simp [List.map_flatMap]
theorem wide_plain (l : List UInt8) (hl : l.length ≤ 100) (hb : ∀ b ∈ l, b.toNat < 128) : Ev (fun k => utf_Wide.f k (bytesOf l)) (bytesOf (wideL l), 0, 0) := by
  have hsz := bytesOf_size l
  obtain ⟨K, g⟩ := wide_go l hl hb l.length 0 [] (by omega) (by simp)
  refine ⟨K, fun k hk => ?_⟩
  show utf_Wide.f k (bytesOf l) = _
  simp only at g
  have e : wrap64 (2 * ((bytesOf l).size : Int)) = ((2 * l.length : Nat) : Int) := by rw [hsz]; unfold wrap64; omega
  unfold utf_Wide.f
  rw [e, if_pos (by omega), if_pos (by omega), show (0 : Int) = ((0 : Nat) : Int) from rfl, g k hk, List.nil_append, List.drop_zero, nums_wide]
  rfl
theorem dec_small : ∀ (u : Nat), ∀ b ∈ Lib.decDigits u, b.toNat < 128 := by
  intro u
  induction u using Nat.strongRecOn with
  | _ u ih =>
    intro b hb
    by_cases c : u < 10
    · rw [Lib.decDigits_one c, List.mem_singleton] at hb
      rw [hb, digit_nat u c]; omega
    · rw [Lib.decDigits, dif_neg c, List.mem_append] at hb
      rcases hb with hb | hb
      · exact ih _ (by omega) b hb
      · rw [List.mem_singleton] at hb
        rw [hb, digit_nat _ (by omega)]; omega
theorem itoa_small (n : Int) : ∀ b ∈ Lib.itoa n, b.toNat < 128 := by
  intro b hb
  unfold Lib.itoa at hb
  split at hb
  · rcases List.mem_cons.1 hb with e | e
    · rw [e]; decide
    · exact dec_small _ b e
  · exact dec_small _ b hb
/-- The program's Key. -/
theorem key_is (n : Int) (h0 : -9223372036854775808 ≤ n) (h1 : n ≤ 9223372036854775807) : Ev (fun k => esheap_Key.f k n) (bytesOf (wideL (Lib.itoa n))) := by
  have hlen := Lib.itoa_length_le n h0 h1
  obtain ⟨K, g⟩ := wide_plain (Lib.itoa n) (by omega) (itoa_small n)
  refine ⟨K, fun k hk => ?_⟩
  show esheap_Key.f k n = _
  simp only at g
  unfold esheap_Key.f strconv_Itoa_35.f
  rw [if_pos h0, if_pos h1, bsome, show (⟨(Lib.itoa n).toArray⟩ : ByteArray) = bytesOf (Lib.itoa n) from rfl, g k hk, bsome]
end
section
/-- A list of digits without a leading zero is the numeral of its number. -/
def valD (us : List Nat) : Nat := us.foldl (fun n u => n * 10 + (u - 48)) 0
theorem valD_snoc (us : List Nat) (u : Nat) : valD (us ++ [u]) = valD us * 10 + (u - 48) := by
  unfold valD
  rw [List.foldl_append]
  rfl
/-- A list's end cut off. -/
theorem snoc_ind {P : List Nat → Prop} (h0 : P []) (h1 : ∀ us u, P us → P (us ++ [u])) : ∀ us, P us := by
  intro us
  generalize hn : us.length = n
  induction n generalizing us with
  | zero => rw [List.eq_nil_of_length_eq_zero hn]; exact h0
  | succ n ih =>
    have hne : us ≠ [] := fun e => by rw [e] at hn; simp at hn
    rw [← List.dropLast_concat_getLast hne]
    exact h1 _ _ (ih _ (by rw [List.length_dropLast]; omega))
theorem valD_pos (us : List Nat) (hd : ∀ u ∈ us, 48 ≤ u ∧ u ≤ 57) (h : ∃ u t, us = u :: t ∧ u ≠ 48) : 0 < valD us := by
  revert hd h
  refine snoc_ind (P := fun us => (∀ u ∈ us, 48 ≤ u ∧ u ≤ 57) → (∃ u t, us = u :: t ∧ u ≠ 48) → 0 < valD us) ?_ ?_ us
  · rintro _ ⟨u, t, e, _⟩
    cases e
  · intro us u ih hd ⟨u1, t, e, hne⟩
    rw [valD_snoc]
    cases us with
    | nil =>
      simp only [List.nil_append, List.cons.injEq] at e
      have := hd u1 (by rw [e.1]; simp)
      rw [e.1]
      omega
    | cons a b =>
      simp only [List.cons_append, List.cons.injEq] at e
      have := ih (fun x hx => hd x (List.mem_append.2 (.inl hx))) ⟨a, b, rfl, by rw [e.1]; exact hne⟩
      omega
theorem dec_val (us : List Nat) (hd : ∀ u ∈ us, 48 ≤ u ∧ u ≤ 57) (h : ∃ u t, us = u :: t ∧ (u ≠ 48 ∨ t = [])) : (Lib.decDigits (valD us)).map UInt8.toNat = us := by
  revert hd h
  refine snoc_ind (P := fun us => (∀ u ∈ us, 48 ≤ u ∧ u ≤ 57) → (∃ u t, us = u :: t ∧ (u ≠ 48 ∨ t = [])) → (Lib.decDigits (valD us)).map UInt8.toNat = us) ?_ ?_ us
  · rintro _ ⟨u, t, e, _⟩
    cases e
  · intro us u ih hd ⟨u1, t, e, hne⟩
    have hu := hd u (List.mem_append.2 (.inr (List.mem_singleton.2 rfl)))
    rw [valD_snoc]
    cases us with
    | nil =>
      show (Lib.decDigits (0 * 10 + (u - 48))).map UInt8.toNat = [u]
      rw [Lib.decDigits_one (by omega), List.map_cons, List.map_nil, digit_nat _ (by omega)]
      congr 1
      omega
    | cons a b =>
      simp only [List.cons_append, List.cons.injEq] at e
      have hne2 : a ≠ 48 := by
        rcases hne with c | c
        · rw [e.1]; exact c
        · rw [c] at e; simp at e
      have hp := valD_pos (a :: b) (fun x hx => hd x (List.mem_append.2 (.inl hx))) ⟨a, b, rfl, hne2⟩
      have hi := ih (fun x hx => hd x (List.mem_append.2 (.inl hx))) ⟨a, b, rfl, .inl hne2⟩
      generalize valD (a :: b) = n at *
      rw [Lib.decDigits, dif_neg (by omega), List.map_append, show (n * 10 + (u - 48)) / 10 = n by omega, hi, List.map_cons, List.map_nil, digit_nat _ (by omega)]
      congr 2
      omega
end
section
theorem rat_in (w : ByteArray) (i : Nat) (hs : w.size ≤ 1000) (h : i < w.size / 2) : pennantref01_At.f w i = some (U w i : Int) := by
  have h0 := byte_lt w (2 * i); have h1 := byte_lt w (2 * i + 1)
  have e1 : wrap64 (2 * (i : Int)) = ((2 * i : Nat) : Int) := by rw [wrap_id (by omega) (by omega)]; omega
  have e2 : wrap64 (((2 * i : Nat) : Int) + 1) = ((2 * i + 1 : Nat) : Int) := by rw [wrap_id (by omega) (by omega)]; omega
  have e3 : wrap64 ((wrap64 ((w.size : Int) / 2)) - 1) = (w.size : Int) / 2 - 1 := by unfold wrap64; omega
  unfold pennantref01_At.f
  rw [if_neg (by omega), e3, if_neg (by omega), e1, if_pos (by omega), if_pos (by omega), e2, if_pos (by omega), if_pos (by omega), bt_get, bt_get,
    wrap_id (x := ((w.get! (2 * i)).toNat : Int)) (by omega) (by omega), wrap_id (x := ((w.get! (2 * i + 1)).toNat : Int)) (by omega) (by omega), wrap_id (x := ((w.get! (2 * i)).toNat : Int) * 256) (by omega) (by omega), wrap_id (by omega) (by omega)]
  unfold U
  rw [Int.natCast_add, Int.natCast_mul]
  rfl
end
section
/-- The document's loop over units. -/
def rGo (key : ByteArray) : List Nat → Nat → Int
  | [], n => if n > 2147483647 then -1 else if (bytesOf (wideL (Lib.itoa (n : Int)))).toList = key.toList then (n : Int) else -1
  | u :: t, n => if u < 48 then -1 else if u > 57 then -1 else rGo key t (n * 10 + u - 48)
theorem rindex_loop (key : ByteArray) (hs : key.size ≤ 20) : ∀ (d i n : Nat), i + d = key.size / 2 → n < 10 ^ i → Ev (fun k => pennantref08_Index.l0 k key (n : Int) (i : Int)) (rGo key ((units key).drop i) n)
  | 0, i, n, h, hn => by
    have hsz : wrap64 ((key.size : Int) / 2) = ((key.size / 2 : Nat) : Int) := by unfold wrap64; omega
    rw [units_drop, if_neg (by omega)]
    unfold rGo
    by_cases c : n > 2147483647
    · rw [if_pos c]
      refine Ev.step (fun k => ?_) (Ev.now _)
      rw [pennantref08_Index.l0, hsz, if_neg (by omega), if_pos (by omega)]
    · rw [if_neg c]
      obtain ⟨K, g⟩ := rkey_is (n : Int) (by omega) (by omega)
      refine ⟨K + 1, fun k hk => ?_⟩
      obtain ⟨m, rfl⟩ : ∃ m, k = m + 1 := ⟨k - 1, by omega⟩
      simp only at g
      show pennantref08_Index.l0 (m + 1) key (n : Int) (i : Int) = _
      rw [pennantref08_Index.l0, hsz, if_neg (by omega), if_neg (by omega), g m (by omega), bsome]
      split <;> rfl
  | d + 1, i, n, h, hn => by
    have hsz : wrap64 ((key.size : Int) / 2) = ((key.size / 2 : Nat) : Int) := by unfold wrap64; omega
    have hi : i < key.size / 2 := by omega
    have hi10 : i ≤ 9 := by omega
    have hp : 10 ^ i ≤ 1000000000 := Nat.pow_le_pow_right (n := 10) (by omega) hi10
    have hu := U_lt key i
    have e1 : wrap64 ((i : Int) + 1) = ((i + 1 : Nat) : Int) := wrap_nat (by omega) (by omega)
    rw [units_drop, if_pos hi]
    unfold rGo
    by_cases c1 : U key i < 48
    · rw [if_pos c1]
      refine Ev.step (fun k => ?_) (Ev.now _)
      rw [pennantref08_Index.l0, hsz, if_pos (by omega), rat_in key i (by omega) hi, bsome, if_pos (by omega)]
    · rw [if_neg c1]
      by_cases c2 : U key i > 57
      · rw [if_pos c2]
        refine Ev.step (fun k => ?_) (Ev.now _)
        rw [pennantref08_Index.l0, hsz, if_pos (by omega), rat_in key i (by omega) hi, bsome, if_neg (by omega), if_pos (by omega)]
      · rw [if_neg c2]
        have e2 : wrap64 (wrap64 (wrap64 ((n : Int) * 10) + (U key i : Int)) - 48) = ((n * 10 + U key i - 48 : Nat) : Int) := by
          rw [wrap_id (x := (n : Int) * 10) (by omega) (by omega), wrap_id (x := (n : Int) * 10 + (U key i : Int)) (by omega) (by omega), wrap_id (by omega) (by omega)]
          omega
        have ih := rindex_loop key hs d (i + 1) (n * 10 + U key i - 48) (by omega) (by rw [Nat.pow_succ]; omega)
        refine Ev.step (fun k => ?_) ih
        rw [pennantref08_Index.l0, hsz, if_pos (by omega), rat_in key i (by omega) hi, bsome, if_neg (by omega), if_neg (by omega), e1, e2]
def rIdx (key : ByteArray) : Int := if key.size % 2 = 0 ∧ key.size ≠ 0 ∧ key.size ≤ 20 then rGo key (units key) 0 else -1
theorem toList_nil (s : ByteArray) (h : s.toList = []) : s.size = 0 := by
  rw [Lib.toList_data] at h
  have := congrArg List.length h
  rw [Array.length_toList] at this
  exact this
theorem toList_inj {a b : ByteArray} (h : a.toList = b.toList) : a = b := by
  rw [Lib.toList_data, Lib.toList_data] at h
  exact ByteArray.ext (Array.toList_inj.1 h)
theorem rindex_ev (key : ByteArray) (hs : key.size ≤ 1000) : Ev (fun k => pennantref08_Index.f k key) (rIdx key) := by
  unfold rIdx
  have jt : Ev (fun k => pennantref08_Index.j0 k key 0 true) (-1) := Ev.step (f := fun _ => some (-1)) (fun k => by rw [pennantref08_Index.j0, if_pos rfl]) (Ev.now _)
  have hnil : key.toList = ([] : List UInt8) ↔ key.size = 0 := by
    constructor
    · exact toList_nil key
    · intro h
      have : key = ByteArray.empty := by
        apply ByteArray.ext
        exact Array.eq_empty_of_size_eq_zero h
      rw [this, Lib.toList_data]; rfl
  by_cases c2 : key.size = 0
  · rw [if_neg (fun h => h.2.1 c2)]
    refine Ev.congr (fun k => ?_) jt
    unfold pennantref08_Index.f
    rw [if_pos (hnil.2 c2)]
  · have hn : ¬ key.toList = ([] : List UInt8) := fun h => c2 (hnil.1 h)
    by_cases c1 : key.size % 2 = 0
    · by_cases c3 : key.size ≤ 20
      · rw [if_pos ⟨c1, c2, c3⟩]
        have h0 := rindex_loop key c3 (key.size / 2) 0 0 (by omega) (by decide)
        rw [List.drop_zero] at h0
        refine Ev.congr (f := fun k => pennantref08_Index.j0 k key 0 false) (fun k => ?_) (Ev.step (fun k => ?_) h0)
        · unfold pennantref08_Index.f
          rw [if_neg hn, if_neg (by omega), show decide ((key.size : Int) > 20) = false from decide_eq_false (by omega)]
        · rw [pennantref08_Index.j0, if_neg (by simp)]; rfl
      · rw [if_neg (fun h => c3 h.2.2)]
        refine Ev.congr (fun k => ?_) jt
        unfold pennantref08_Index.f
        rw [if_neg hn, if_neg (by omega), show decide ((key.size : Int) > 20) = true from decide_eq_true (by omega)]
    · rw [if_neg (fun h => c1 h.1)]
      refine Ev.congr (fun k => ?_) jt
      unfold pennantref08_Index.f
      rw [if_neg hn, if_pos (by omega)]
theorem rGo_bad (key : ByteArray) : ∀ (us : List Nat) (n : Nat), (∃ u ∈ us, u < 48 ∨ 57 < u) → rGo key us n = -1
  | [], n, h => by obtain ⟨u, hu, _⟩ := h; cases hu
  | u :: t, n, h => by
    unfold rGo
    by_cases c1 : u < 48
    · rw [if_pos c1]
    · rw [if_neg c1]
      by_cases c2 : u > 57
      · rw [if_pos c2]
      · rw [if_neg c2]
        obtain ⟨v, hv, hb⟩ := h
        rcases List.mem_cons.1 hv with e | e
        · omega
        · exact rGo_bad key t _ ⟨v, e, hb⟩
theorem idxGo_bad : ∀ (us : List Nat) (n : Nat) (f : Bool), (∃ u ∈ us, u < 48 ∨ 57 < u) → idxGo us n f = (0, false)
  | [], n, f, h => by obtain ⟨u, hu, _⟩ := h; cases hu
  | u :: t, n, f, h => by
    unfold idxGo
    by_cases c1 : u < 48
    · rw [if_pos c1]
    · rw [if_neg c1]
      by_cases c2 : u > 57
      · rw [if_pos c2]
      · rw [if_neg c2]
        split
        · rfl
        · obtain ⟨v, hv, hb⟩ := h
          rcases List.mem_cons.1 hv with e | e
          · omega
          · exact idxGo_bad t _ _ ⟨v, e, hb⟩
def valF (us : List Nat) (n : Nat) : Nat := us.foldl (fun n u => n * 10 + (u - 48)) n
theorem rGo_good (key : ByteArray) : ∀ (us : List Nat) (n : Nat), (∀ u ∈ us, 48 ≤ u ∧ u ≤ 57) → rGo key us n = (if valF us n > 2147483647 then -1 else if (bytesOf (wideL (Lib.itoa (valF us n : Int)))).toList = key.toList then (valF us n : Int) else -1)
  | [], n, h => rfl
  | u :: t, n, h => by
    have hu := h u (List.mem_cons_self ..)
    unfold rGo
    rw [if_neg (by omega), if_neg (by omega), show n * 10 + u - 48 = n * 10 + (u - 48) by omega, rGo_good key t _ (fun v hv => h v (List.mem_cons_of_mem _ hv))]
    rfl
theorem idxGo_on : ∀ (us : List Nat) (n : Nat), 0 < n → (∀ u ∈ us, 48 ≤ u ∧ u ≤ 57) → idxGo us n false = (if valF us n > 2147483647 then (0, false) else ((valF us n : Int), true))
  | [], n, hn, h => rfl
  | u :: t, n, hn, h => by
    have hu := h u (List.mem_cons_self ..)
    unfold idxGo
    rw [if_neg (by omega), if_neg (by omega), if_neg (by omega), show n * 10 + u - 48 = n * 10 + (u - 48) by omega, idxGo_on t _ (by omega) (fun v hv => h v (List.mem_cons_of_mem _ hv))]
    rfl
theorem wideL_inj : ∀ {a b : List UInt8}, wideL a = wideL b → a = b
  | [], [], _ => rfl
  | [], y :: b, h => by simp [wideL] at h
  | x :: a, [], h => by simp [wideL] at h
  | x :: a, y :: b, h => by
    have h' : (0 : UInt8) :: x :: wideL a = 0 :: y :: wideL b := h
    simp only [List.cons.injEq, true_and] at h'
    rw [h'.1, wideL_inj h'.2]
theorem bytesOf_toList (l : List UInt8) : (bytesOf l).toList = l := by rw [Lib.toList_data]; rfl
theorem byte_eta (b : UInt8) (n : Nat) (h : b.toNat = n) : b = UInt8.ofNat n := by rw [← h, UInt8.ofNat_toNat]
/-- A key of digits is its units as bytes, wide. -/
theorem key_of_units (key : ByteArray) (he : key.size % 2 = 0) (hd : ∀ u ∈ units key, u < 256) : key.toList = wideL ((units key).map UInt8.ofNat) := by
  apply List.ext_getElem?
  intro j
  have hlen : (wideL ((units key).map UInt8.ofNat)).length = key.size := by rw [wideL_len, List.length_map]; unfold units; rw [List.length_map, List.length_range]; omega
  have hlk : key.toList.length = key.size := by rw [Lib.toList_data, Array.length_toList]; rfl
  by_cases hj : j < key.size
  · have hgk : key.toList[j]? = some (key.get! j) := by
      rw [Utf8W.get!_of_lt key j hj, List.getElem?_eq_getElem (by omega)]
      simp only [Lib.toList_data]
      rfl
    have hi : j / 2 < key.size / 2 := by omega
    have hul : (units key).length = key.size / 2 := by simp [units]
    obtain ⟨g0, g1⟩ := wideL_get ((units key).map UInt8.ofNat) (j / 2) (by rw [List.length_map, hul]; exact hi)
    have hu : (units key)[j / 2]? = some (U key (j / 2)) := by unfold units; rw [List.getElem?_map, List.getElem?_range hi]; rfl
    have hU := hd _ (List.mem_of_getElem? hu)
    rw [List.getElem?_map, hu] at g1
    have b0 := byte_lt key (2 * (j / 2)); have b1 := byte_lt key (2 * (j / 2) + 1)
    have hh : (key.get! (2 * (j / 2))).toNat = 0 ∧ (key.get! (2 * (j / 2) + 1)).toNat = U key (j / 2) := by unfold U at hU ⊢; omega
    by_cases c : j % 2 = 0
    · have ej : j = 2 * (j / 2) := by omega
      rw [hgk, ej, g0, byte_eta _ _ hh.1]
      rfl
    · have ej : j = 2 * (j / 2) + 1 := by omega
      rw [hgk, ej, g1, byte_eta _ _ hh.2]
      simp only [Option.map_some]
  · rw [List.getElem?_eq_none (by omega), List.getElem?_eq_none (by omega)]
theorem map_back (us : List Nat) (hd : ∀ u ∈ us, u < 256) : (us.map UInt8.ofNat).map UInt8.toNat = us := by
  rw [List.map_map]
  conv => rhs; rw [← List.map_id us]
  apply List.map_congr_left
  intro u hu
  have := hd u hu
  simp only [Function.comp_apply, id_eq, UInt8.toNat_ofNat']
  omega
theorem itoa_nat (n : Nat) : Lib.itoa (n : Int) = Lib.decDigits n := by
  unfold Lib.itoa
  rw [if_neg (by omega)]
  rfl
theorem rIdx_is (key : ByteArray) : (idxR key).1 = max (rIdx key) 0 ∧ (idxR key).2 = decide (0 ≤ rIdx key) := by
  unfold idxR rIdx
  by_cases c : key.size % 2 = 0 ∧ key.size ≠ 0 ∧ key.size ≤ 20
  · rw [if_pos c, if_pos c]
    by_cases b : ∃ u ∈ units key, u < 48 ∨ 57 < u
    · rw [rGo_bad key _ _ b, idxGo_bad _ _ _ b]; exact ⟨rfl, rfl⟩
    · have hd : ∀ u ∈ units key, 48 ≤ u ∧ u ≤ 57 := fun u hu => by
        by_cases e : u < 48 ∨ 57 < u
        · exact absurd ⟨u, hu, e⟩ b
        · omega
      have hk := key_of_units key c.1 (fun u hu => by have := hd u hu; omega)
      have hmb := map_back (units key) (fun u hu => by have := hd u hu; omega)
      have hne : units key ≠ [] := fun e => by
        have := congrArg List.length e
        simp [units] at this
        omega
      rw [rGo_good key _ 0 hd, itoa_nat, bytesOf_toList, hk]
      obtain ⟨u, t, hut⟩ := List.exists_cons_of_ne_nil hne
      have hval : valF (units key) 0 = valD (units key) := rfl
      by_cases lead : u = 48 ∧ t ≠ []
      · have hidx : idxGo (units key) 0 true = (0, false) := by
          obtain ⟨u2, t2, ht⟩ := List.exists_cons_of_ne_nil lead.2
          have h2 := hd u2 (by rw [hut, ht]; simp)
          rw [hut, ht, lead.1]
          unfold idxGo
          rw [if_neg (by omega), if_neg (by omega), if_neg (by simp)]
          unfold idxGo
          rw [if_neg (by omega), if_neg (by omega), if_pos (by simp)]
        rw [hidx]
        by_cases g : valF (units key) 0 > 2147483647
        · rw [if_pos g]; exact ⟨rfl, rfl⟩
        · rw [if_neg g]
          have hneq : ¬ wideL (Lib.decDigits (valF (units key) 0)) = wideL ((units key).map UInt8.ofNat) := fun e => by
            have e2 := wideL_inj e
            have e3 := congrArg (List.map UInt8.toNat) e2
            rw [hmb] at e3
            have e4 := idxGo_dec (valF (units key) 0) [] (.inl rfl)
            rw [List.append_nil, e3, hidx] at e4
            unfold idxGo at e4
            rw [if_neg g] at e4
            exact absurd (congrArg Prod.snd e4) (by simp)
          rw [if_neg hneq]; exact ⟨rfl, rfl⟩
      · have hlead : u ≠ 48 ∨ t = [] := by
          by_cases e : u = 48
          · right
            by_cases e2 : t = []
            · exact e2
            · exact absurd ⟨e, e2⟩ lead
          · exact .inl e
        have hdv := dec_val (units key) hd ⟨u, t, hut, hlead⟩
        have heq : wideL (Lib.decDigits (valF (units key) 0)) = wideL ((units key).map UInt8.ofNat) := by
          congr 1
          rw [hval, ← hdv, List.map_map]
          conv => lhs; rw [← List.map_id (Lib.decDigits _)]
          rw [hdv]
          apply List.map_congr_left
          intro b _
          simp
        have hidx : idxGo (units key) 0 true = (if valF (units key) 0 > 2147483647 then (0, false) else ((valF (units key) 0 : Int), true)) := by
          have hu := hd u (by rw [hut]; simp)
          rw [hut]
          unfold idxGo
          rw [if_neg (by omega), if_neg (by omega), if_neg (by simp)]
          rcases hlead with e | e
          · rw [idxGo_on t _ (by omega) (fun v hv => hd v (by rw [hut]; exact List.mem_cons_of_mem _ hv))]
            rw [show 0 * 10 + u - 48 = 0 * 10 + (u - 48) by omega]
            rfl
          · rw [e]
            unfold idxGo
            rw [show 0 * 10 + u - 48 = 0 * 10 + (u - 48) by omega]
            rfl
        rw [hidx, if_pos heq]
        by_cases g : valF (units key) 0 > 2147483647
        · rw [if_pos g, if_pos g]; exact ⟨rfl, rfl⟩
        · rw [if_neg g, if_neg g]
          refine ⟨by show (valF (units key) 0 : Int) = _; omega, (decide_eq_true (by omega)).symm⟩
  · rw [if_neg c, if_neg c]; exact ⟨rfl, rfl⟩
end
end Go.Proofs.YtnfobcedbfbbiaaDoor.Pure
