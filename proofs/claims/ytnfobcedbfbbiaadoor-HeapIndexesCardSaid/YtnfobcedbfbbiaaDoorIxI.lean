/- The document's Index against the program's: one number, or none. -/
import Derived.Test.YtnfobcedbfbbiaaDoorIxH
namespace Go.Proofs.YtnfobcedbfbbiaaDoor.Pure
open Go.RowKit Go.Proofs.YtnfobcedbfbbiaaDoorW.PrintWords Go.Proofs.YtnfobcedbfbbiaaDoorW.PrintLast Go.Proofs.YtnfobcedbfbbiaaDoorW.PrintMore Go.Proofs.YtnfobcedbfbbiaaDoor.Hand Go.Proofs.YtnfobcedbfbbiaaDoor.PIx
set_option linter.unusedVariables false
/-- The document's loop over units. -/
def rGo (key : ByteArray) : List Nat → Nat → Int
  | [], n => if n > 2147483647 then -1 else if (bytesOf (wideL (Lib.itoa (n : Int)))).toList = key.toList then (n : Int) else -1
  | u :: t, n => if u < 48 then -1 else if u > 57 then -1 else rGo key t (n * 10 + u - 48)
theorem rindex_loop (key : ByteArray) (hs : key.size ≤ 20) : ∀ (d i n : Nat), i + d = key.size / 2 → n < 10 ^ i → Ev (fun k => pennantref08_Index.l0 k key (n : Int) (i : Int)) (rGo key ((units key).drop i) n)
  | 0, i, n, h, hn => by
    have hsz : wrap64 ((key.size : Int) / 2) = ((key.size / 2 : Nat) : Int) := by unfold wrap64; omega
    rw [units_drop, if_neg (by omega)]
    unfold rGo
    by_cases c : n > 2147483647
    · rw [if_pos c]
      refine Ev.step (fun k => ?_) (Ev.now _)
      rw [pennantref08_Index.l0, hsz, if_neg (by omega), if_pos (by omega)]
    · rw [if_neg c]
      obtain ⟨K, g⟩ := rkey_is (n : Int) (by omega) (by omega)
      refine ⟨K + 1, fun k hk => ?_⟩
      obtain ⟨m, rfl⟩ : ∃ m, k = m + 1 := ⟨k - 1, by omega⟩
      simp only at g
      show pennantref08_Index.l0 (m + 1) key (n : Int) (i : Int) = _
      rw [pennantref08_Index.l0, hsz, if_neg (by omega), if_neg (by omega), g m (by omega), bsome]
      split <;> rfl
  | d + 1, i, n, h, hn => by
    have hsz : wrap64 ((key.size : Int) / 2) = ((key.size / 2 : Nat) : Int) := by unfold wrap64; omega
    have hi : i < key.size / 2 := by omega
    have hi10 : i ≤ 9 := by omega
    have hp : 10 ^ i ≤ 1000000000 := Nat.pow_le_pow_right (n := 10) (by omega) hi10
    have hu := U_lt key i
    have e1 : wrap64 ((i : Int) + 1) = ((i + 1 : Nat) : Int) := wrap_nat (by omega) (by omega)
    rw [units_drop, if_pos hi]
    unfold rGo
    by_cases c1 : U key i < 48
    · rw [if_pos c1]
      refine Ev.step (fun k => ?_) (Ev.now _)
      rw [pennantref08_Index.l0, hsz, if_pos (by omega), rat_in key i (by omega) hi, bsome, if_pos (by omega)]
    · rw [if_neg c1]
      by_cases c2 : U key i > 57
      · rw [if_pos c2]
        refine Ev.step (fun k => ?_) (Ev.now _)
        rw [pennantref08_Index.l0, hsz, if_pos (by omega), rat_in key i (by omega) hi, bsome, if_neg (by omega), if_pos (by omega)]
      · rw [if_neg c2]
        have e2 : wrap64 (wrap64 (wrap64 ((n : Int) * 10) + (U key i : Int)) - 48) = ((n * 10 + U key i - 48 : Nat) : Int) := by
          rw [wrap_id (x := (n : Int) * 10) (by omega) (by omega), wrap_id (x := (n : Int) * 10 + (U key i : Int)) (by omega) (by omega), wrap_id (by omega) (by omega)]
          omega
        have ih := rindex_loop key hs d (i + 1) (n * 10 + U key i - 48) (by omega) (by rw [Nat.pow_succ]; omega)
        refine Ev.step (fun k => ?_) ih
        rw [pennantref08_Index.l0, hsz, if_pos (by omega), rat_in key i (by omega) hi, bsome, if_neg (by omega), if_neg (by omega), e1, e2]
def rIdx (key : ByteArray) : Int := if key.size % 2 = 0 ∧ key.size ≠ 0 ∧ key.size ≤ 20 then rGo key (units key) 0 else -1
theorem toList_nil (s : ByteArray) (h : s.toList = []) : s.size = 0 := by
  rw [Lib.toList_data] at h
  have := congrArg List.length h
  rw [Array.length_toList] at this
  exact this
theorem toList_inj {a b : ByteArray} (h : a.toList = b.toList) : a = b := by
  rw [Lib.toList_data, Lib.toList_data] at h
  exact ByteArray.ext (Array.toList_inj.1 h)
theorem rindex_ev (key : ByteArray) (hs : key.size ≤ 1000) : Ev (fun k => pennantref08_Index.f k key) (rIdx key) := by
  unfold rIdx
  have jt : Ev (fun k => pennantref08_Index.j0 k key 0 true) (-1) := Ev.step (f := fun _ => some (-1)) (fun k => by rw [pennantref08_Index.j0, if_pos rfl]) (Ev.now _)
  have hnil : key.toList = ([] : List UInt8) ↔ key.size = 0 := by
    constructor
    · exact toList_nil key
    · intro h
      have : key = ByteArray.empty := by
        apply ByteArray.ext
        exact Array.eq_empty_of_size_eq_zero h
      rw [this, Lib.toList_data]; rfl
  by_cases c2 : key.size = 0
  · rw [if_neg (fun h => h.2.1 c2)]
    refine Ev.congr (fun k => ?_) jt
    unfold pennantref08_Index.f
    rw [if_pos (hnil.2 c2)]
  · have hn : ¬ key.toList = ([] : List UInt8) := fun h => c2 (hnil.1 h)
    by_cases c1 : key.size % 2 = 0
    · by_cases c3 : key.size ≤ 20
      · rw [if_pos ⟨c1, c2, c3⟩]
        have h0 := rindex_loop key c3 (key.size / 2) 0 0 (by omega) (by decide)
        rw [List.drop_zero] at h0
        refine Ev.congr (f := fun k => pennantref08_Index.j0 k key 0 false) (fun k => ?_) (Ev.step (fun k => ?_) h0)
        · unfold pennantref08_Index.f
          rw [if_neg hn, if_neg (by omega), show decide ((key.size : Int) > 20) = false from decide_eq_false (by omega)]
        · rw [pennantref08_Index.j0, if_neg (by simp)]; rfl
      · rw [if_neg (fun h => c3 h.2.2)]
        refine Ev.congr (fun k => ?_) jt
        unfold pennantref08_Index.f
        rw [if_neg hn, if_neg (by omega), show decide ((key.size : Int) > 20) = true from decide_eq_true (by omega)]
    · rw [if_neg (fun h => c1 h.1)]
      refine Ev.congr (fun k => ?_) jt
      unfold pennantref08_Index.f
      rw [if_neg hn, if_pos (by omega)]
theorem rGo_bad (key : ByteArray) : ∀ (us : List Nat) (n : Nat), (∃ u ∈ us, u < 48 ∨ 57 < u) → rGo key us n = -1
  | [], n, h => by obtain ⟨u, hu, _⟩ := h; cases hu
  | u :: t, n, h => by
    unfold rGo
    by_cases c1 : u < 48
    · rw [if_pos c1]
    · rw [if_neg c1]
      by_cases c2 : u > 57
      · rw [if_pos c2]
      · rw [if_neg c2]
        obtain ⟨v, hv, hb⟩ := h
        rcases List.mem_cons.1 hv with e | e
        · omega
        · exact rGo_bad key t _ ⟨v, e, hb⟩
theorem idxGo_bad : ∀ (us : List Nat) (n : Nat) (f : Bool), (∃ u ∈ us, u < 48 ∨ 57 < u) → idxGo us n f = (0, false)
  | [], n, f, h => by obtain ⟨u, hu, _⟩ := h; cases hu
  | u :: t, n, f, h => by
    unfold idxGo
    by_cases c1 : u < 48
    · rw [if_pos c1]
    · rw [if_neg c1]
      by_cases c2 : u > 57
      · rw [if_pos c2]
      · rw [if_neg c2]
        split
        · rfl
        · obtain ⟨v, hv, hb⟩ := h
          rcases List.mem_cons.1 hv with e | e
          · omega
          · exact idxGo_bad t _ _ ⟨v, e, hb⟩
def valF (us : List Nat) (n : Nat) : Nat := us.foldl (fun n u => n * 10 + (u - 48)) n
theorem rGo_good (key : ByteArray) : ∀ (us : List Nat) (n : Nat), (∀ u ∈ us, 48 ≤ u ∧ u ≤ 57) → rGo key us n = (if valF us n > 2147483647 then -1 else if (bytesOf (wideL (Lib.itoa (valF us n : Int)))).toList = key.toList then (valF us n : Int) else -1)
  | [], n, h => rfl
  | u :: t, n, h => by
    have hu := h u (List.mem_cons_self ..)
    unfold rGo
    rw [if_neg (by omega), if_neg (by omega), show n * 10 + u - 48 = n * 10 + (u - 48) by omega, rGo_good key t _ (fun v hv => h v (List.mem_cons_of_mem _ hv))]
    rfl
theorem idxGo_on : ∀ (us : List Nat) (n : Nat), 0 < n → (∀ u ∈ us, 48 ≤ u ∧ u ≤ 57) → idxGo us n false = (if valF us n > 2147483647 then (0, false) else ((valF us n : Int), true))
  | [], n, hn, h => rfl
  | u :: t, n, hn, h => by
    have hu := h u (List.mem_cons_self ..)
    unfold idxGo
    rw [if_neg (by omega), if_neg (by omega), if_neg (by omega), show n * 10 + u - 48 = n * 10 + (u - 48) by omega, idxGo_on t _ (by omega) (fun v hv => h v (List.mem_cons_of_mem _ hv))]
    rfl
theorem wideL_inj : ∀ {a b : List UInt8}, wideL a = wideL b → a = b
  | [], [], _ => rfl
  | [], y :: b, h => by simp [wideL] at h
  | x :: a, [], h => by simp [wideL] at h
  | x :: a, y :: b, h => by
    have h' : (0 : UInt8) :: x :: wideL a = 0 :: y :: wideL b := h
    simp only [List.cons.injEq, true_and] at h'
    rw [h'.1, wideL_inj h'.2]
theorem bytesOf_toList (l : List UInt8) : (bytesOf l).toList = l := by rw [Lib.toList_data]; rfl
theorem byte_eta (b : UInt8) (n : Nat) (h : b.toNat = n) : b = UInt8.ofNat n := by rw [← h, UInt8.ofNat_toNat]
/-- A key of digits is its units as bytes, wide. -/
theorem key_of_units (key : ByteArray) (he : key.size % 2 = 0) (hd : ∀ u ∈ units key, u < 256) : key.toList = wideL ((units key).map UInt8.ofNat) := by
  apply List.ext_getElem?
  intro j
  have hlen : (wideL ((units key).map UInt8.ofNat)).length = key.size := by rw [wideL_len, List.length_map]; unfold units; rw [List.length_map, List.length_range]; omega
  have hlk : key.toList.length = key.size := by rw [Lib.toList_data, Array.length_toList]; rfl
  by_cases hj : j < key.size
  · have hgk : key.toList[j]? = some (key.get! j) := by
      rw [Utf8W.get!_of_lt key j hj, List.getElem?_eq_getElem (by omega)]
      simp only [Lib.toList_data]
      rfl
    have hi : j / 2 < key.size / 2 := by omega
    have hul : (units key).length = key.size / 2 := by simp [units]
    obtain ⟨g0, g1⟩ := wideL_get ((units key).map UInt8.ofNat) (j / 2) (by rw [List.length_map, hul]; exact hi)
    have hu : (units key)[j / 2]? = some (U key (j / 2)) := by unfold units; rw [List.getElem?_map, List.getElem?_range hi]; rfl
    have hU := hd _ (List.mem_of_getElem? hu)
    rw [List.getElem?_map, hu] at g1
    have b0 := byte_lt key (2 * (j / 2)); have b1 := byte_lt key (2 * (j / 2) + 1)
    have hh : (key.get! (2 * (j / 2))).toNat = 0 ∧ (key.get! (2 * (j / 2) + 1)).toNat = U key (j / 2) := by unfold U at hU ⊢; omega
    by_cases c : j % 2 = 0
    · have ej : j = 2 * (j / 2) := by omega
      rw [hgk, ej, g0, byte_eta _ _ hh.1]
      rfl
    · have ej : j = 2 * (j / 2) + 1 := by omega
      rw [hgk, ej, g1, byte_eta _ _ hh.2]
      simp only [Option.map_some]
  · rw [List.getElem?_eq_none (by omega), List.getElem?_eq_none (by omega)]
theorem map_back (us : List Nat) (hd : ∀ u ∈ us, u < 256) : (us.map UInt8.ofNat).map UInt8.toNat = us := by
  rw [List.map_map]
  conv => rhs; rw [← List.map_id us]
  apply List.map_congr_left
  intro u hu
  have := hd u hu
  simp only [Function.comp_apply, id_eq, UInt8.toNat_ofNat']
  omega
theorem itoa_nat (n : Nat) : Lib.itoa (n : Int) = Lib.decDigits n := by
  unfold Lib.itoa
  rw [if_neg (by omega)]
  rfl
theorem rIdx_is (key : ByteArray) : (idxR key).1 = max (rIdx key) 0 ∧ (idxR key).2 = decide (0 ≤ rIdx key) := by
  unfold idxR rIdx
  by_cases c : key.size % 2 = 0 ∧ key.size ≠ 0 ∧ key.size ≤ 20
  · rw [if_pos c, if_pos c]
    by_cases b : ∃ u ∈ units key, u < 48 ∨ 57 < u
    · rw [rGo_bad key _ _ b, idxGo_bad _ _ _ b]; exact ⟨rfl, rfl⟩
    · have hd : ∀ u ∈ units key, 48 ≤ u ∧ u ≤ 57 := fun u hu => by
        by_cases e : u < 48 ∨ 57 < u
        · exact absurd ⟨u, hu, e⟩ b
        · omega
      have hk := key_of_units key c.1 (fun u hu => by have := hd u hu; omega)
      have hmb := map_back (units key) (fun u hu => by have := hd u hu; omega)
      have hne : units key ≠ [] := fun e => by
        have := congrArg List.length e
        simp [units] at this
        omega
      rw [rGo_good key _ 0 hd, itoa_nat, bytesOf_toList, hk]
      obtain ⟨u, t, hut⟩ := List.exists_cons_of_ne_nil hne
      have hval : valF (units key) 0 = valD (units key) := rfl
      by_cases lead : u = 48 ∧ t ≠ []
      · have hidx : idxGo (units key) 0 true = (0, false) := by
          obtain ⟨u2, t2, ht⟩ := List.exists_cons_of_ne_nil lead.2
          have h2 := hd u2 (by rw [hut, ht]; simp)
          rw [hut, ht, lead.1]
          unfold idxGo
          rw [if_neg (by omega), if_neg (by omega), if_neg (by simp)]
          unfold idxGo
          rw [if_neg (by omega), if_neg (by omega), if_pos (by simp)]
        rw [hidx]
        by_cases g : valF (units key) 0 > 2147483647
        · rw [if_pos g]; exact ⟨rfl, rfl⟩
        · rw [if_neg g]
          have hneq : ¬ wideL (Lib.decDigits (valF (units key) 0)) = wideL ((units key).map UInt8.ofNat) := fun e => by
            have e2 := wideL_inj e
            have e3 := congrArg (List.map UInt8.toNat) e2
            rw [hmb] at e3
            have e4 := idxGo_dec (valF (units key) 0) [] (.inl rfl)
            rw [List.append_nil, e3, hidx] at e4
            unfold idxGo at e4
            rw [if_neg g] at e4
            exact absurd (congrArg Prod.snd e4) (by simp)
          rw [if_neg hneq]; exact ⟨rfl, rfl⟩
      · have hlead : u ≠ 48 ∨ t = [] := by
          by_cases e : u = 48
          · right
            by_cases e2 : t = []
            · exact e2
            · exact absurd ⟨e, e2⟩ lead
          · exact .inl e
        have hdv := dec_val (units key) hd ⟨u, t, hut, hlead⟩
        have heq : wideL (Lib.decDigits (valF (units key) 0)) = wideL ((units key).map UInt8.ofNat) := by
          congr 1
          rw [hval, ← hdv, List.map_map]
          conv => lhs; rw [← List.map_id (Lib.decDigits _)]
          rw [hdv]
          apply List.map_congr_left
          intro b _
          simp
        have hidx : idxGo (units key) 0 true = (if valF (units key) 0 > 2147483647 then (0, false) else ((valF (units key) 0 : Int), true)) := by
          have hu := hd u (by rw [hut]; simp)
          rw [hut]
          unfold idxGo
          rw [if_neg (by omega), if_neg (by omega), if_neg (by simp)]
          rcases hlead with e | e
          · rw [idxGo_on t _ (by omega) (fun v hv => hd v (by rw [hut]; exact List.mem_cons_of_mem _ hv))]
            rw [show 0 * 10 + u - 48 = 0 * 10 + (u - 48) by omega]
            rfl
          · rw [e]
            unfold idxGo
            rw [show 0 * 10 + u - 48 = 0 * 10 + (u - 48) by omega]
            rfl
        rw [hidx, if_pos heq]
        by_cases g : valF (units key) 0 > 2147483647
        · rw [if_pos g, if_pos g]; exact ⟨rfl, rfl⟩
        · rw [if_neg g, if_neg g]
          refine ⟨by show (valF (units key) 0 : Int) = _; omega, (decide_eq_true (by omega)).symm⟩
  · rw [if_neg c, if_neg c]; exact ⟨rfl, rfl⟩
end Go.Proofs.YtnfobcedbfbbiaaDoor.Pure
