/- UtfBack, the plain law: what is UTF-8 comes back from its units; units that pair come back from UTF-8. -/
import Derived.Test.YtpclncikhlameaaDoorPureD
import Derived.Test.YtpclncikhlameaaDoorPureUtfTurns
import Derived.Test.YtpclncikhlameaaDoorPUtfx9
namespace Go.Proofs.YtpclncikhlameaaDoor.Pure
open Go.RowKit Go.Proofs.YtpclncikhlameaaDoor.PUtf Go.Proofs.YtpclncikhlameaaDoorW.PrintWords Go.Proofs.YtpclncikhlameaaDoorW.PrintLast Go.Proofs.YtpclncikhlameaaDoor.Hand
set_option linter.unusedVariables false

/-! ### units of a made text -/
/-- The units of a character, as numbers. -/
def unitsN (c : Nat) : List Nat := if 65536 ≤ c then [55296 + (c - 65536) / 1024, 56320 + (c - 65536) % 1024] else [c]
theorem units_N (c : Nat) : units c = (unitsN c).flatMap unit2 := by
  unfold units unitsN
  split
  · simp
  · simp
theorem flat_N (cs : List Nat) : cs.flatMap units = (cs.flatMap unitsN).flatMap unit2 := by
  induction cs with
  | nil => rfl
  | cons c cs ih => rw [List.flatMap_cons, List.flatMap_cons, List.flatMap_append, ih, units_N]
theorem unitsN_lt (c : Nat) (h : validC c) : ∀ u ∈ unitsN c, u < 65536 := by
  unfold validC at h
  unfold unitsN
  intro u hu
  split at hu
  · simp only [List.mem_cons, List.mem_nil_iff, or_false] at hu
    rcases hu with hu | hu <;> (rw [hu]; omega)
  · simp only [List.mem_cons, List.mem_nil_iff, or_false] at hu
    rw [hu]; omega
theorem unitsN_len (c : Nat) : 1 ≤ (unitsN c).length ∧ (unitsN c).length ≤ 2 := by unfold unitsN; split <;> simp
theorem flatN_len (l : List Nat) : l.length ≤ (l.flatMap unitsN).length ∧ (l.flatMap unitsN).length ≤ 2 * l.length := by
  induction l with
  | nil => simp
  | cons c l ih =>
    have := unitsN_len c
    rw [List.flatMap_cons, List.length_append, List.length_cons]; omega
theorem empty_list : (⟨#[]⟩ : ByteArray).toList = [] := by rw [Lib.toList_data]
theorem flat_lt (cs : List Nat) (h : ∀ c ∈ cs, validC c) : ∀ u ∈ cs.flatMap unitsN, u < 65536 := by
  intro u hu
  obtain ⟨c, hc, h2⟩ := List.mem_flatMap.1 hu
  exact unitsN_lt c (h c hc) u h2
theorem unit2_is (u : Nat) (h : u < 65536) : IsBytes (unit2 u) := by
  intro x hx
  unfold unit2 at hx
  simp only [List.mem_cons, List.mem_nil_iff, or_false] at hx
  rcases hx with rfl | rfl <;> omega
theorem flat2_is (us : List Nat) (h : ∀ u ∈ us, u < 65536) : IsBytes (us.flatMap unit2) := by
  intro x hx
  obtain ⟨u, hu, h2⟩ := List.mem_flatMap.1 hx
  exact unit2_is u (h u hu) x h2
theorem flat2_len (us : List Nat) : (us.flatMap unit2).length = 2 * us.length := by
  induction us with
  | nil => rfl
  | cons u us ih => rw [List.flatMap_cons, List.length_append, ih]; simp [unit2]; omega
/-- The wide text of units. -/
def ofU (us : List Nat) : ByteArray := strOfNums (us.flatMap unit2)
theorem ofU_size (us : List Nat) : (ofU us).size = 2 * us.length := by unfold ofU; rw [strOfNums_len, flat2_len]
theorem get_nums (xs : List Int) (h : IsBytes xs) (j : Nat) (hj : j < xs.length) : (((strOfNums xs).get! j).toNat : Int) = xs[j] := by
  have h1 : j < (strOfNums xs).size := by rw [strOfNums_len]; exact hj
  have h2 := bytesOf_get (strOfNums xs) j h1
  rw [bytesOf_strOfNums xs h, List.getElem?_eq_getElem hj] at h2
  exact (Option.some.inj h2).symm
theorem flat2_get : ∀ (us : List Nat) (i : Nat) (u : Nat), us[i]? = some u → (us.flatMap unit2)[2 * i]? = some ((u / 256 : Nat) : Int) ∧ (us.flatMap unit2)[2 * i + 1]? = some ((u % 256 : Nat) : Int)
  | [], i, u, h => by simp at h
  | v :: us, 0, u, h => by
    simp at h; subst h
    simp [unit2]
  | v :: us, i + 1, u, h => by
    have := flat2_get us i u (by simpa using h)
    rw [List.flatMap_cons, show 2 * (i + 1) = 2 + 2 * i from by omega, show 2 + 2 * i + 1 = 2 + (2 * i + 1) from by omega]
    simp only [unit2, List.cons_append, List.nil_append]
    rw [show ∀ (a b : Int) (l : List Int) (n : Nat), (a :: b :: l)[2 + n]? = l[n]? from fun a b l n => by rw [Nat.add_comm]; rfl, show ∀ (a b : Int) (l : List Int) (n : Nat), (a :: b :: l)[2 + n]? = l[n]? from fun a b l n => by rw [Nat.add_comm]; rfl]
    exact this
theorem U_of (us : List Nat) (h : ∀ u ∈ us, u < 65536) (i u : Nat) (hi : us[i]? = some u) : U (ofU us) i = u := by
  obtain ⟨h1, h2⟩ := flat2_get us i u hi
  obtain ⟨g1, e1⟩ := List.getElem?_eq_some_iff.1 h1
  obtain ⟨g2, e2⟩ := List.getElem?_eq_some_iff.1 h2
  have hb := flat2_is us h
  have a1 := get_nums _ hb _ g1
  have a2 := get_nums _ hb _ g2
  rw [e1] at a1
  rw [e2] at a2
  unfold U ofU
  omega
/-- A text of even length is the text of its units. -/
def unitsOf (w : ByteArray) : List Nat := (List.range (w.size / 2)).map (U w)
theorem unitsOf_len (w : ByteArray) : (unitsOf w).length = w.size / 2 := by simp [unitsOf]
theorem unitsOf_get (w : ByteArray) (i : Nat) (h : i < w.size / 2) : (unitsOf w)[i]? = some (U w i) := by simp [unitsOf, h]

/-! ### units to characters, on lists -/
def nwL : List Nat → List Nat
  | [] => []
  | [u] => [lone u]
  | u :: v :: r => if hiS u ∧ loS v then pairC u v :: nwL r else lone u :: nwL (v :: r)
theorem nw_list (w : ByteArray) (n : Nat) (us : List Nat) (hn : us.length = n) (hu : ∀ i, i < n → us[i]? = some (U w i)) : ∀ f i, n - i < f → nw w n f i = nwL (us.drop i) := by
  intro f
  induction f with
  | zero => intro i h; exact absurd h (by omega)
  | succ f ih =>
    intro i hf
    by_cases c1 : i < n
    · have e1 : us.drop i = U w i :: us.drop (i + 1) := by
        rw [List.drop_eq_getElem_cons (by omega)]
        have := hu i c1
        rw [List.getElem?_eq_getElem (by omega)] at this
        rw [Option.some.inj this]
      by_cases c2 : i + 1 < n
      · have e2 : us.drop (i + 1) = U w (i + 1) :: us.drop (i + 2) := by
          rw [List.drop_eq_getElem_cons (by omega)]
          have := hu (i + 1) c2
          rw [List.getElem?_eq_getElem (by omega)] at this
          rw [Option.some.inj this]
        by_cases c3 : hiS (U w i) ∧ loS (U w (i + 1))
        · rw [nw_pair c2 c3.1 c3.2, ih (i + 2) (by omega), e1, e2, nwL, if_pos c3]
        · rw [nw_lone c1 (fun h => c3 h.2), ih (i + 1) (by omega), e1, e2, nwL, if_neg c3]
      · have e2 : us.drop (i + 1) = [] := List.drop_eq_nil_of_le (by omega)
        have e3 := ih (i + 1) (by omega)
        rw [nw_lone c1 (fun h => c2 h.1), e3, e1, e2]; rfl
    · rw [nw_end c1, List.drop_eq_nil_of_le (by omega)]; rfl
theorem narrow_list (w : ByteArray) (hs : w.size ≤ 1000000) (k : Nat) (hk : w.size + 4 ≤ k) (he : w.size % 2 = 0) : utf_Narrow.f k w = some (strOfNums ((nwL (unitsOf w)).flatMap enc8), 0) := by
  rw [narrow_is w hs k hk, if_pos he, nw_list w (w.size / 2) (unitsOf w) (unitsOf_len w) (fun i h => unitsOf_get w i h) _ 0 (by omega), List.drop_zero]
theorem nwL_valid : ∀ (us : List Nat), (∀ u ∈ us, u < 65536) → ∀ c ∈ nwL us, validC c
  | [], _, c, h => by cases h
  | [u], hu, c, h => by
    simp only [nwL, List.mem_cons, List.mem_nil_iff, or_false] at h
    rw [h]; exact lone_valid u (hu u (by simp))
  | u :: v :: r, hu, c, h => by
    simp only [nwL] at h
    split at h
    · rename_i h2
      rcases List.mem_cons.1 h with h | h
      · rw [h]; exact pair_valid u v h2.1 h2.2
      · exact nwL_valid r (fun x hx => hu x (by simp [hx])) c h
    · rcases List.mem_cons.1 h with h | h
      · rw [h]; exact lone_valid u (hu u (by simp))
      · exact nwL_valid (v :: r) (fun x hx => hu x (List.mem_cons_of_mem _ hx)) c h
theorem nwL_lone_cons (c : Nat) (h : validC c) (hc : ¬ 65536 ≤ c) (r : List Nat) : nwL (c :: r) = c :: nwL r := by
  unfold validC at h
  have hl : lone c = c := lone_out (by omega)
  cases r with
  | nil => simp only [nwL]; rw [hl]
  | cons v r => simp only [nwL]; rw [if_neg (fun hh => by have := hh.1; unfold hiS at this; omega), hl]
theorem nwL_back : ∀ cs : List Nat, (∀ c ∈ cs, validC c) → nwL (cs.flatMap unitsN) = cs
  | [], _ => rfl
  | c :: cs, h => by
    have hv := h c (by simp)
    have ih := nwL_back cs (fun x hx => h x (by simp [hx]))
    rw [List.flatMap_cons]
    by_cases c1 : 65536 ≤ c
    · have e : unitsN c = [55296 + (c - 65536) / 1024, 56320 + (c - 65536) % 1024] := by unfold unitsN; rw [if_pos c1]
      unfold validC at hv
      have g1 : hiS (55296 + (c - 65536) / 1024) := by unfold hiS; omega
      have g2 : loS (56320 + (c - 65536) % 1024) := by unfold loS; omega
      have g3 : pairC (55296 + (c - 65536) / 1024) (56320 + (c - 65536) % 1024) = c := by unfold pairC; omega
      rw [e]
      simp only [List.cons_append, List.nil_append, nwL]
      rw [if_pos ⟨g1, g2⟩, g3, ih]
    · have e : unitsN c = [c] := by unfold unitsN; rw [if_neg c1]
      rw [e]
      simp only [List.cons_append, List.nil_append]
      rw [nwL_lone_cons c hv c1, ih]
/-- What comes back of units: the unit itself, or FFFD for a lone half. -/
def R (x u : Nat) : Prop := x = u ∨ (x = 65533 ∧ 55296 ≤ u ∧ u < 57344)
inductive Rel : List Nat → List Nat → Prop
  | nil : Rel [] []
  | cons {x u : Nat} {xs us : List Nat} : R x u → Rel xs us → Rel (x :: xs) (u :: us)
theorem R_lone (u : Nat) (h : u < 65536) : Rel (unitsN (lone u)) [u] ∧ ∀ xs us, Rel xs us → Rel (unitsN (lone u) ++ xs) (u :: us) := by
  have e : unitsN (lone u) = [lone u] := by
    unfold unitsN; rw [if_neg]
    unfold lone; split <;> omega
  have r : R (lone u) u := by
    unfold R
    by_cases c : 55296 ≤ u ∧ u < 57344
    · rw [lone_in c]; exact .inr ⟨rfl, c.1, c.2⟩
    · rw [lone_out c]; exact .inl rfl
  rw [e]
  exact ⟨.cons r .nil, fun xs us h => .cons r h⟩
theorem nwL_rel : ∀ us : List Nat, (∀ u ∈ us, u < 65536) → Rel ((nwL us).flatMap unitsN) us
  | [], _ => .nil
  | [u], h => by
    have := (R_lone u (h u (by simp))).1
    simp only [nwL, List.flatMap_cons, List.flatMap_nil, List.append_nil]
    exact this
  | u :: v :: r, h => by
    simp only [nwL]
    split
    · rename_i h2
      have ih := nwL_rel r (fun x hx => h x (by simp [hx]))
      have g1 := h2.1; have g2 := h2.2
      unfold hiS at g1; unfold loS at g2
      have e : unitsN (pairC u v) = [u, v] := by
        unfold unitsN; rw [if_pos (by unfold pairC; omega)]
        have a1 : 55296 + (pairC u v - 65536) / 1024 = u := by unfold pairC; omega
        have a2 : 56320 + (pairC u v - 65536) % 1024 = v := by unfold pairC; omega
        rw [a1, a2]
      rw [List.flatMap_cons, e]
      exact .cons (.inl rfl) (.cons (.inl rfl) ih)
    · have ih := nwL_rel (v :: r) (fun x hx => h x (List.mem_cons_of_mem _ hx))
      rw [List.flatMap_cons]
      exact (R_lone u (h u (by simp))).2 _ _ ih
theorem Rel.len {xs us : List Nat} (h : Rel xs us) : xs.length = us.length := by
  induction h with
  | nil => rfl
  | cons _ _ ih => simp [ih]
theorem Rel.get {xs us : List Nat} (h : Rel xs us) : ∀ (i u : Nat), us[i]? = some u → ∃ x, xs[i]? = some x ∧ R x u := by
  induction h with
  | nil => intro i u h; simp at h
  | cons r _ ih =>
    intro i u h
    cases i with
    | zero => simp at h; subst h; exact ⟨_, rfl, r⟩
    | succ i => obtain ⟨x, h1, h2⟩ := ih i u (by simpa using h); exact ⟨x, by simpa using h1, h2⟩
theorem unitsOf_ofU (us : List Nat) (h : ∀ u ∈ us, u < 65536) : unitsOf (ofU us) = us := by
  apply List.ext_getElem?
  intro i
  by_cases c : i < us.length
  · rw [unitsOf_get _ i (by rw [ofU_size]; omega), List.getElem?_eq_getElem c, U_of us h i _ (List.getElem?_eq_getElem c)]
  · rw [List.getElem?_eq_none (by rw [unitsOf_len, ofU_size]; omega), List.getElem?_eq_none (by omega)]
theorem enc_flat_len (ds : List Nat) : ds.length ≤ (ds.flatMap enc8).length ∧ (ds.flatMap enc8).length ≤ 4 * ds.length := by
  induction ds with
  | nil => simp
  | cons d ds ih =>
    have := enc8_len d
    rw [List.flatMap_cons, List.length_append, List.length_cons]
    omega
theorem enc_flat_is (ds : List Nat) (h : ∀ d ∈ ds, validC d) : IsBytes (ds.flatMap enc8) := by
  intro x hx
  obtain ⟨d, hd, h2⟩ := List.mem_flatMap.1 hx
  have hv := h d hd
  unfold validC at hv
  exact enc8_is d (by omega) x h2
/-- Wide of a made text. -/
theorem wide_of (ds : List Nat) (hv : ∀ d ∈ ds, validC d) (hl : ds.length ≤ 200000) (k : Nat) (hk : 4 * ds.length + 2 ≤ k) : utf_Wide.f k (strOfNums (ds.flatMap enc8)) = some (ofU (ds.flatMap unitsN), 0, 0) := by
  have h1 := enc_flat_len ds
  have h2 : (strOfNums (ds.flatMap enc8)).size = (ds.flatMap enc8).length := strOfNums_len _
  rw [wide_is _ (by omega) k (by omega), wd_ok _ ds _ 0 [] hv (by rw [List.drop_zero, bytesOf_strOfNums _ (enc_flat_is ds hv)]) (by omega), List.nil_append, flat_N]
  rfl
theorem back_loop (w y : ByteArray) (n : Nat) (hw : w.size ≤ 4000) (hn : w.size / 2 = n) (hy : y.size = 2 * n) (hr : ∀ i, i < n → R (U y i) (U w i)) : ∀ (d k i : Nat), n - i < d → d ≤ k → i ≤ n → pennantlaw01_UtfBack.l0 k w y i = some true := by
  intro d
  induction d with
  | zero => intro k i h; exact absurd h (by omega)
  | succ d ih =>
    intro k i hd hk hi
    obtain ⟨k, rfl⟩ : ∃ m, k = m + 1 := ⟨k - 1, by omega⟩
    simp only [pennantlaw01_UtfBack.l0]
    rw [len_is w (by omega), hn]
    simp only [bsome]
    by_cases c : i < n
    · have e1 := Aside0.mk (show wrap64 ((i : Int) + 1) = ((i + 1 : Nat) : Int) from wrap_add i 1 (by omega))
      rw [if_pos (by omega), at_in w i (by omega) (by omega)]
      simp only [bsome]
      rw [at_in y i (by omega) (by omega)]
      simp only [bsome]
      have next := ih k (i + 1) (by omega) (by omega) (by omega)
      by_cases c2 : (U w i : Int) = (U y i : Int)
      · rw [if_pos c2, e1.out]; exact next
      · rcases hr i c with h | ⟨h1, h2, h3⟩
        · exact absurd (by rw [h]) c2
        · rw [if_neg c2, if_pos (by omega), if_neg (by omega), if_neg (by omega), e1.out]; exact next
    · rw [if_neg (by omega)]
theorem back_second (w : ByteArray) (hw : w.size ≤ 4000) (k : Nat) (hk : 30000 ≤ k) : pennantlaw01_UtfBack.j1 k w = some true := by
  obtain ⟨k, rfl⟩ : ∃ m, k = m + 1 + 1 := ⟨k - 2, by omega⟩
  simp only [pennantlaw01_UtfBack.j1]
  by_cases he : w.size % 2 = 0
  · have hu : ∀ u ∈ unitsOf w, u < 65536 := by
      intro u hu
      obtain ⟨i, _, rfl⟩ := List.mem_map.1 hu
      exact U_lt w i
    have hv := nwL_valid (unitsOf w) hu
    have hrel := nwL_rel (unitsOf w) hu
    have hul := unitsOf_len w
    have hlen := hrel.len
    have hle := (flatN_len (nwL (unitsOf w))).1
    rw [narrow_list w (by omega) (k + 1) (by omega) he]
    simp only [bsome, if_true]
    rw [wide_of _ hv (by omega) (k + 1) (by omega)]
    simp only [bsome, if_true]
    have hy : (ofU ((nwL (unitsOf w)).flatMap unitsN)).size = 2 * (w.size / 2) := by rw [ofU_size, hlen, hul]
    rw [len_is _ (by omega), len_is w (by omega), hy, show 2 * (w.size / 2) / 2 = w.size / 2 from by omega]
    simp only [bsome]
    have hj : pennantlaw01_UtfBack.j2 (k + 1) w (ofU ((nwL (unitsOf w)).flatMap unitsN)) false = some true := by
      simp only [pennantlaw01_UtfBack.j2, Bool.false_eq_true, if_false]
      exact back_loop w _ (w.size / 2) hw rfl hy (fun i hi => by
        obtain ⟨x, h1, h2⟩ := hrel.get i _ (unitsOf_get w i hi)
        rw [U_of _ (flat_lt _ hv) i x h1]
        exact h2) (w.size / 2 + 1) k 0 (by omega) (by omega) (by omega)
    have hb : (((w.size / 2 : Nat) : Int) != ((w.size / 2 : Nat) : Int)) = false := by simp
    rw [hb]
    exact hj
  · rw [narrow_is w (by omega) (k + 1) (by omega), if_neg he]
    simp only [bsome]
    rw [if_neg (by omega), if_pos empty_list]
    have h1 : (((w.size : Int) % 2) == 1) = true := by simp; omega
    rw [h1]
theorem UtfBack : pennantlaw01_UtfBack.Pure := by
  intro a w ha hw
  refine ⟨40000 + 1, ?_⟩
  have hj : a.size ≤ 4000 → ∀ b : Bool, (b = false → w.size ≤ 4000) → pennantlaw01_UtfBack.j0 (40000 + 1) a w b = some true := by
    intro hs b hb
    cases b with
    | true => simp only [pennantlaw01_UtfBack.j0, if_true]
    | false =>
      have hw4 := hb rfl
      simp only [pennantlaw01_UtfBack.j0, Bool.false_eq_true, if_false]
      rw [wide_is a (by omega) 40000 (by omega)]
      simp only [bsome]
      rcases wd_cases a (a.size + 1) 0 [] (by omega) (by omega) with ⟨cs, hv, hd, he⟩ | ⟨j, h1, h2, he⟩
      · have hlen : cs.length ≤ 4000 := by
          have g1 := enc_flat_len cs
          have g2 := congrArg List.length hd
          rw [List.drop_zero, bytesOf_length] at g2
          omega
        have hx : strOfNums (cs.flatMap units) = ofU (cs.flatMap unitsN) := by rw [flat_N]; rfl
        have hsz := ofU_size (cs.flatMap unitsN)
        have := (flatN_len cs).2
        rw [he, List.nil_append, hx]
        simp only [if_true]
        rw [narrow_list _ (by omega) 40000 (by omega) (by omega), unitsOf_ofU _ (flat_lt cs hv), nwL_back cs hv]
        simp only [bsome, if_true]
        have hb : strOfNums (cs.flatMap enc8) = a := by rw [← hd, List.drop_zero, strOfNums_bytesOf]
        rw [hb, if_pos rfl, if_pos (by omega)]
        exact back_second w hw4 40000 (by omega)
      · rw [he]
        simp only
        rw [if_neg (by omega), next_in a j h1 (by omega) 40000 (by omega)]
        have e : nxt a j = (0, 0, false) := by unfold nxt; rw [if_pos h2]
        rw [e]
        simp only [bsome, Bool.false_eq_true, if_false]
        rw [if_pos empty_list]
        simp only [if_true]
        exact back_second w hw4 40000 (by omega)
  unfold pennantlaw01_UtfBack.f
  rw [awake_true _ (by omega)]
  simp only [bsome, if_true]
  by_cases c1 : (a.size : Int) > 4000
  · rw [if_pos c1]
    simp only [pennantlaw01_UtfBack.j0, if_true]
  · rw [if_neg c1]
    exact hj (by omega) _ (fun h => by have := of_decide_eq_false h; omega)
end Go.Proofs.YtpclncikhlameaaDoor.Pure
