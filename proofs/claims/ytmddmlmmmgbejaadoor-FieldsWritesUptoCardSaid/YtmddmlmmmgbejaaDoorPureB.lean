/- A form that is read: both texts' functions give what the lists of bytes give. -/
import Derived.Test.YtmddmlmmmgbejaaDoorPureA
import Derived.Test.YtmddmlmmmgbejaaDoorPFldx2
namespace Go.Proofs.YtmddmlmmmgbejaaDoor.Pure
open Go.RowKit Go.Proofs.YtmddmlmmmgbejaaDoor.PFld Go.Proofs.YtmddmlmmmgbejaaDoorW.PrintWords Go.Proofs.YtmddmlmmmgbejaaDoorW.PrintLast Go.Proofs.YtmddmlmmmgbejaaDoorW.PrintMore Go.Proofs.YtmddmlmmmgbejaaDoor.Hand
set_option linter.unusedVariables false

theorem Ev.eq {α : Type} {g f : Nat → Option α} {r r' : α} (h : ∀ k, g k = f k) (e : r = r') (k : Ev f r) : Ev g r' := e ▸ Ev.congr h k
abbrev Fl := List UInt8 × List UInt8
def toS (f : Fl) : S34 := ⟨⟨f.1.toArray⟩, ⟨f.2.toArray⟩⟩
theorem mk_list (s : ByteArray) : (⟨s.data.toList.toArray⟩ : ByteArray) = s := rfl
theorem toL_data (s : ByteArray) : s.toList = s.data.toList := Lib.toList_data s
theorem told_1 (o : Option (List UInt8)) : (told o).2 = o.isSome := by cases o <;> rfl
theorem told_some (l : List UInt8) : told (some l) = (⟨l.toArray⟩, true) := rfl
theorem told_none : told none = (⟨#[]⟩, false) := rfl
/-- What is told of a form. -/
def done (o : Option (List Fl)) : List S34 × Int := match o with
  | none => ([], 210)
  | some r => if 32 < r.length then ([], 4) else (r.map toS, 0)
theorem done_end (acc : List Fl) : done ((some []).map (acc ++ ·)) = if 32 < acc.length then ([], 4) else (acc.map toS, 0) := by simp [done]
theorem fit_snoc (acc : List Fl) (f : Fl) : acc.map toS ++ [toS f] = (acc ++ [f]).map toS := by simp
theorem pcs_small (l p : List UInt8) (h : p ∈ pcs l) : p.length ≤ l.length := by
  have h1 := pcs_len l
  have h2 : 1 ≤ (pcs l).length := List.length_pos_iff.2 (pcs_ne l)
  have h3 : p.length ≤ ((pcs l).map (·.length)).sum := by
    generalize pcs l = q at h
    clear h1 h2
    induction q with
    | nil => cases h
    | cons a t ih =>
      simp only [List.map_cons, List.sum_cons]
      rcases List.mem_cons.1 h with rfl | h
      · omega
      · have := ih h; omega
  omega
theorem field_some (p : List UInt8) (n v : List UInt8) (h1 : decL (cutE p).1 = some n) (h2 : decL (cutE p).2 = some v) : fieldL p = some (n, v) := by unfold fieldL; rw [h1, h2]
theorem field_no1 (p : List UInt8) (h1 : decL (cutE p).1 = none) : fieldL p = none := by unfold fieldL; rw [h1]
theorem field_no2 (p : List UInt8) (h2 : decL (cutE p).2 = none) : fieldL p = none := by
  unfold fieldL; rw [h2]; cases decL (cutE p).1 <;> rfl
theorem done_bad : done none = ([], 210) := rfl

/-- One piece more: what the rest comes to, by the piece's field. -/
theorem done_field (p : List UInt8) (q : List (List UInt8)) (acc : List Fl) (hp : p ≠ []) (f : Fl) (hf : fieldL p = some f) :
    done ((fieldsL (p :: q)).map (acc ++ ·)) = done ((fieldsL q).map ((acc ++ [f]) ++ ·)) := by
  rw [fieldsL_cons p q hp f hf]
  cases fieldsL q <;> simp
theorem plain_ev (s : ByteArray) (hs : s.size ≤ 140737488351232) : Ev (fun k => fields_plain.f k s) (told (decL s.data.toList)) := ⟨s.size + 1, fun k hk => plain_told s hs k (by omega)⟩
theorem said_ev (s : ByteArray) (hs : s.size ≤ 140737488351232) : Ev (fun k => pennantref21_Said.f k s) (told (decL s.data.toList)) := ⟨s.size + 9, fun k hk => said_told s hs k (by omega)⟩
theorem list_mk (l : List UInt8) : (⟨l.toArray⟩ : ByteArray).data.toList = l := rfl
theorem cut_in (p : ByteArray) (hp : p.size ≤ 4096) : ∃ b, strings_Cut.f p (⟨#[61]⟩ : ByteArray) = some (⟨(cutE p.data.toList).1.toArray⟩, ⟨(cutE p.data.toList).2.toArray⟩, b) := by
  have h := cut_cutE p.data.toList
  refine ⟨(Lib.cut p.data.toList [61]).2.2, ?_⟩
  unfold strings_Cut.f
  rw [if_pos (by omega), ← h]
theorem ite_told {α : Type} (o1 o2 : Option (List UInt8)) (x y : α) : (if (told o1).2 = true then (if (told o2).2 = true then x else y) else y) = (match o1, o2 with | some _, some _ => x | _, _ => y) := by
  cases o1 <;> cases o2 <;> rfl
theorem rdOf_drop {α : Type} {d : α} {all : List α} {i : Nat} {p : α} {t : List α} (h : all.drop i = p :: t) : i < all.length ∧ rdOf d all (i : Int) = p ∧ all.drop (i + 1) = t := by
  have hl : i < all.length := by
    apply Nat.lt_of_not_le
    intro hn
    rw [List.drop_eq_nil_of_le hn] at h; cases h
  rw [List.drop_eq_getElem_cons hl] at h
  obtain ⟨h1, h2⟩ := List.cons.inj h
  refine ⟨hl, ?_, h2⟩
  unfold rdOf
  rw [Int.toNat_natCast, List.getD_eq_getElem?_getD, List.getElem?_eq_getElem hl, ← h1]; rfl
theorem parse_loop (all : List ByteArray) (hall : all.length ≤ 5000) (hsz : ∀ p ∈ all, p.size ≤ 4096) : ∀ (rest : List ByteArray) (acc : List Fl) (i : Nat), all.drop i = rest → i ≤ all.length → acc.length ≤ i →
    Ev (fun k => fields_Parse.l0 k (acc.map toS) all (all.length : Int) (i : Int)) (done ((fieldsL (rest.map (·.data.toList))).map (acc ++ ·)))
  | [], acc, i, hd, hi, ha => by
    have hl := List.drop_eq_nil_iff.1 hd
    rw [show (fieldsL (([] : List ByteArray).map (·.data.toList))) = some [] from rfl, done_end]
    refine Ev.step (f := fun _ => some (if 32 < acc.length then ([], 4) else (acc.map toS, 0))) (fun k => ?_) (Ev.now _)
    rw [fields_Parse.l0, if_neg (by omega)]
    by_cases h : 32 < acc.length
    · rw [if_pos (by simp; omega), if_pos h]
    · rw [if_neg (by simp; omega), if_neg h]
  | p :: t, acc, i, hd, hi, ha => by
    obtain ⟨h1, h2, h3⟩ := rdOf_drop (d := ByteArray.empty) hd
    have e1 : wrap64 ((i : Int) + 1) = ((i + 1 : Nat) : Int) := by unfold wrap64; omega
    have hp4 : p.size ≤ 4096 := hsz p (List.mem_of_mem_drop (hd ▸ List.mem_cons_self ..))
    rw [List.map_cons]
    by_cases hp : p.data.toList = []
    · rw [hp, fieldsL_skip]
      refine Ev.step (fun k => ?_) (parse_loop all hall hsz t acc (i + 1) h3 (by omega) (by omega))
      rw [fields_Parse.l0, if_pos (by omega), if_pos (by omega), if_pos (by omega), h2, if_pos (by rw [toL_data]; exact hp), e1]
    · obtain ⟨b, hcut⟩ := cut_in p hp4
      have hl := cutE_len p.data.toList
      rw [size_list] at hl
      have p1 := plain_ev ⟨(cutE p.data.toList).1.toArray⟩ (by rw [size_mk]; omega)
      have p2 := plain_ev ⟨(cutE p.data.toList).2.toArray⟩ (by rw [size_mk]; omega)
      rw [list_mk] at p1 p2
      refine Ev.step (fun k => ?_) (Ev.bind p1 (f := fun k bt110 => (fields_plain.f k ⟨(cutE p.data.toList).2.toArray⟩).bind fun bt112 => (if bt110.2 = true then (if bt112.2 = true then (if (acc.map toS).length < 4398046511104 then (fields_Parse.l0 k (acc.map toS ++ [(⟨bt110.1, bt112.1⟩ : S34)]) all (all.length : Int) (wrap64 ((i : Int) + 1))) else (none)) else (some (([] : List (S34)), 210))) else (some (([] : List (S34)), 210)))) (Ev.bind p2 (f := fun k bt112 => (if (told (decL (cutE p.data.toList).1)).2 = true then (if bt112.2 = true then (if (acc.map toS).length < 4398046511104 then (fields_Parse.l0 k (acc.map toS ++ [(⟨(told (decL (cutE p.data.toList).1)).1, bt112.1⟩ : S34)]) all (all.length : Int) (wrap64 ((i : Int) + 1))) else (none)) else (some (([] : List (S34)), 210))) else (some (([] : List (S34)), 210)))) ?_))
      · rw [fields_Parse.l0, if_pos (by omega), if_pos (by omega), if_pos (by omega), h2, if_neg (by rw [toL_data]; exact hp), hcut, bsome]
      · refine Ev.eq (fun k => ite_told _ _ _ _) rfl ?_
        cases d1 : decL (cutE p.data.toList).1 with
        | none => rw [fieldsL_bad _ _ hp (field_no1 _ d1)]; exact Ev.now _
        | some n =>
          cases d2 : decL (cutE p.data.toList).2 with
          | none => rw [fieldsL_bad _ _ hp (field_no2 _ d2)]; exact Ev.now _
          | some v =>
            rw [done_field _ _ _ hp _ (field_some _ _ _ d1 d2)]
            refine Ev.congr (fun k => ?_) (parse_loop all hall hsz t (acc ++ [(n, v)]) (i + 1) h3 (by omega) (by simp; omega))
            simp only
            rw [if_pos (by simp; omega), e1, ← fit_snoc]; rfl
theorem parse_told (s : ByteArray) (hs : s.size ≤ 140737488351232) : Ev (fun k => fields_Parse.f k s) (if 4096 < s.size then ([], 2) else done (formL s.data.toList)) := by
  by_cases h : 4096 < s.size
  · rw [if_pos h]
    refine Ev.congr (fun k => ?_) (Ev.now _)
    unfold fields_Parse.f
    rw [if_pos (by omega)]
  · rw [if_neg h]
    have hsp := Lib.splitB_data (⟨#[38]⟩ : ByteArray) 0 (Lib.countB s ⟨#[38]⟩) s
    rw [show (⟨#[38]⟩ : ByteArray).data.toList = [38] from rfl] at hsp
    have hsp2 : (Lib.splitB (⟨#[38]⟩ : ByteArray) 0 (Lib.countB s ⟨#[38]⟩) s).map (·.data.toList) = pcs s.data.toList := hsp.trans (split_pcs _)
    have hlen := pcs_len s.data.toList
    rw [size_list] at hlen
    have hl2 : (Lib.splitB (⟨#[38]⟩ : ByteArray) 0 (Lib.countB s ⟨#[38]⟩) s).length = (pcs s.data.toList).length := by rw [← hsp2, List.length_map]
    have hm : ∀ p ∈ Lib.splitB (⟨#[38]⟩ : ByteArray) 0 (Lib.countB s ⟨#[38]⟩) s, p.size ≤ 4096 := by
      intro p hp
      have : p.data.toList ∈ pcs s.data.toList := by rw [← hsp2]; exact List.mem_map.2 ⟨p, hp, rfl⟩
      have := pcs_small _ _ this
      rw [size_list, size_list] at this
      omega
    have h0 := parse_loop (Lib.splitB (⟨#[38]⟩ : ByteArray) 0 (Lib.countB s ⟨#[38]⟩) s) (by omega) hm _ [] 0 rfl (Nat.zero_le _) (Nat.zero_le _)
    rw [List.drop_zero, hsp2] at h0
    refine Ev.eq (fun k => ?_) ?_ h0
    · unfold fields_Parse.f strings_Split.f
      rw [if_neg (by omega), if_pos (by constructor; omega; decide), bsome]; rfl
    · unfold formL
      cases fieldsL (pcs s.data.toList) <;> simp
/-- Where = stands. -/
def eqIx : List UInt8 → Nat
  | [] => 0
  | c :: l => if c = 61 then 0 else eqIx l + 1
theorem cutE_ix : ∀ l, cutE l = (l.take (eqIx l), l.drop (eqIx l + 1))
  | [] => by simp [cutE, eqIx]
  | c :: l => by
    have ih := cutE_ix l
    unfold cutE eqIx
    by_cases h : c = 61
    · rw [if_pos h, if_pos h]; rfl
    · rw [if_neg h, if_neg h, ih]; rfl
theorem eqIx_le : ∀ l, eqIx l ≤ l.length
  | [] => Nat.le_refl _
  | c :: l => by
    have := eqIx_le l
    unfold eqIx
    split <;> simp; omega
theorem data_extract (s : ByteArray) (a b : Nat) : (s.extract a b).data.toList = (s.data.toList.take b).drop a := by
  rw [Lib.extract_data]; simp [List.drop_take]
theorem ref_find (s P : ByteArray) (hP : P.size ≤ 4096) (acc : List S34) (x5 x6 : Int) (R : List S34 × Int) : ∀ (l : List UInt8) (x : Nat), P.data.toList.drop x = l → x ≤ P.size →
    Ev (fun k => pennantref21_Parse.j3 k s acc x5 x6 P ((x + eqIx l : Nat) : Int)) R → Ev (fun k => pennantref21_Parse.l1 k s acc x5 x6 P (x : Int)) R
  | [], x, hd, hx, h => by
    have := drop_none hd
    refine Ev.step (fun k => ?_) h
    rw [pennantref21_Parse.l1, if_neg (by omega)]; rfl
  | c :: t, x, hd, hx, h => by
    obtain ⟨h1, h2, h3, h4⟩ := bt_drop hd
    have e1 : wrap64 ((x : Int) + 1) = ((x + 1 : Nat) : Int) := by unfold wrap64; omega
    have hc := c.toNat_lt
    unfold eqIx at h
    by_cases c1 : c = 61
    · rw [if_pos c1] at h
      refine Ev.step (fun k => ?_) h
      rw [pennantref21_Parse.l1, if_pos (by omega), if_pos (by omega), h2, if_pos (by rw [c1]; rfl)]; rfl
    · rw [if_neg c1] at h
      have d1 : ¬ ((c.toNat : Int) = 61) := fun h => c1 (UInt8.toNat_inj.1 (by rw [show c.toNat = 61 by omega]; rfl))
      refine Ev.step (fun k => ?_) (ref_find s P hP acc x5 x6 R t (x + 1) h3 (by omega) ?_)
      · rw [pennantref21_Parse.l1, if_pos (by omega), if_pos (by omega), h2, if_neg d1, e1]
      · rw [show x + 1 + eqIx t = x + (eqIx t + 1) by omega]; exact h
theorem ref_piece (s : ByteArray) (hs : s.size ≤ 4096) (acc : List Fl) (ha : acc.length ≤ 5000) (x5 x6 : Nat) (h5 : x5 ≤ x6) (h6 : x6 ≤ s.size) (p : List UInt8) (hp : (s.data.toList.take x6).drop x5 = p) (q : List (List UInt8))
    (h : ∀ acc' : List Fl, acc'.length ≤ acc.length + 1 → Ev (fun k => pennantref21_Parse.l0 k s (acc'.map toS) ((x6 + 1 : Nat) : Int) ((x6 + 1 : Nat) : Int)) (done ((fieldsL q).map (acc' ++ ·)))) :
    Ev (fun k => pennantref21_Parse.j1 k s (acc.map toS) (x5 : Int) (x6 : Int) false) (done ((fieldsL (p :: q)).map (acc ++ ·))) := by
  have e1 : wrap64 ((x6 : Int) + 1) = ((x6 + 1 : Nat) : Int) := by unfold wrap64; omega
  have hP : (s.extract ((x5 : Int)).toNat ((x6 : Int)).toNat).data.toList = p := by rw [Int.toNat_natCast, Int.toNat_natCast, data_extract]; exact hp
  have hPs : (s.extract ((x5 : Int)).toNat ((x6 : Int)).toNat).size = p.length := by rw [← hP, size_list]
  have hpl : p.length ≤ 4096 := by
    rw [← hp, List.length_drop, List.length_take, size_list]; omega
  by_cases hpe : p = []
  · subst hpe
    rw [fieldsL_skip]
    refine Ev.step (fun k => ?_) (h acc (by omega))
    rw [pennantref21_Parse.j1, if_neg (by simp), if_pos (by omega), if_pos (by omega), if_pos (by omega), if_pos (by rw [toL_data]; exact hP), e1]
  · generalize hX : s.extract ((x5 : Int)).toNat ((x6 : Int)).toNat = P at *
    have hix := eqIx_le p
    have hcut := cutE_ix p
    have n1 : (P.extract 0 ((eqIx p : Nat) : Int).toNat).data.toList = (cutE p).1 := by
      rw [Int.toNat_natCast, data_extract, hP, hcut]; simp
    have e2 : wrap64 (((eqIx p : Nat) : Int) + 1) = ((eqIx p + 1 : Nat) : Int) := by unfold wrap64; omega
    have e3 : mn ((eqIx p + 1 : Nat) : Int) (P.size : Int) = ((min (eqIx p + 1) p.length : Nat) : Int) := by unfold mn; rw [hPs]; split <;> omega
    have n2 : (P.extract ((min (eqIx p + 1) p.length : Nat) : Int).toNat P.size).data.toList = (cutE p).2 := by
      rw [Int.toNat_natCast, data_extract, hP, hcut, hPs, List.take_length]
      by_cases hq : eqIx p + 1 ≤ p.length
      · rw [Nat.min_eq_left hq]
      · rw [Nat.min_eq_right (by omega), List.drop_length, List.drop_eq_nil_of_le (by omega)]
    have s1 := said_ev (P.extract 0 ((eqIx p : Nat) : Int).toNat) (by rw [ByteArray.size_extract]; omega)
    have s2 := said_ev (P.extract ((min (eqIx p + 1) p.length : Nat) : Int).toNat P.size) (by rw [ByteArray.size_extract]; omega)
    rw [n1] at s1
    rw [n2] at s2
    refine Ev.step (f := fun k => pennantref21_Parse.l1 k s (acc.map toS) ((x6 + 1 : Nat) : Int) (x6 : Int) P ((0 : Nat) : Int)) (fun k => ?_) (ref_find s P (by omega) _ _ _ _ p 0 (by rw [List.drop_zero]; exact hP) (Nat.zero_le _) ?_)
    · rw [pennantref21_Parse.j1, if_neg (by simp), if_pos (by omega), if_pos (by omega), if_pos (by omega), hX, if_neg (by rw [toL_data, hP]; exact hpe), e1]; rfl
    · rw [Nat.zero_add]
      refine Ev.step (fun k => ?_) (Ev.bind s1 (f := fun k bt153 => (pennantref21_Said.f k (P.extract ((min (eqIx p + 1) p.length : Nat) : Int).toNat P.size)).bind fun bt155 => (if bt153.2 = true then (if bt155.2 = true then (if (acc.map toS).length < 4398046511104 then (pennantref21_Parse.l0 k s (acc.map toS ++ [(⟨bt153.1, bt155.1⟩ : S34)]) ((x6 + 1 : Nat) : Int) (wrap64 ((x6 : Int) + 1))) else (none)) else (some (([] : List (S34)), 210))) else (some (([] : List (S34)), 210)))) (Ev.bind s2 (f := fun k bt155 => (if (told (decL (cutE p).1)).2 = true then (if bt155.2 = true then (if (acc.map toS).length < 4398046511104 then (pennantref21_Parse.l0 k s (acc.map toS ++ [(⟨(told (decL (cutE p).1)).1, bt155.1⟩ : S34)]) ((x6 + 1 : Nat) : Int) (wrap64 ((x6 : Int) + 1))) else (none)) else (some (([] : List (S34)), 210))) else (some (([] : List (S34)), 210)))) ?_))
      · rw [pennantref21_Parse.j3, if_pos (by omega), if_pos (by omega), e2, e3]
        congr 1
        funext bt153
        rw [if_pos (by omega), if_pos (by omega)]
      · refine Ev.eq (fun k => ite_told _ _ _ _) rfl ?_
        cases d1 : decL (cutE p).1 with
        | none => rw [fieldsL_bad _ _ hpe (field_no1 _ d1)]; exact Ev.now _
        | some n =>
          cases d2 : decL (cutE p).2 with
          | none => rw [fieldsL_bad _ _ hpe (field_no2 _ d2)]; exact Ev.now _
          | some v =>
            rw [done_field _ _ _ hpe _ (field_some _ _ _ d1 d2)]
            refine Ev.congr (fun k => ?_) (h (acc ++ [(n, v)]) (by simp))
            simp only
            rw [if_pos (by simp; omega), e1, ← fit_snoc]; rfl
theorem ref_loop (s : ByteArray) (hs : s.size ≤ 4096) : ∀ (rest p : List UInt8) (acc : List Fl) (x5 x6 : Nat), s.data.toList.drop x6 = rest → x5 ≤ x6 → x6 ≤ s.size → (s.data.toList.take x6).drop x5 = p → (∀ x ∈ p, x ≠ 38) → acc.length ≤ x6 →
    Ev (fun k => pennantref21_Parse.l0 k s (acc.map toS) (x5 : Int) (x6 : Int)) (done ((fieldsL (pcs (p ++ rest))).map (acc ++ ·)))
  | [], p, acc, x5, x6, hd, h5, h6, hp, hf, ha => by
    have hl := drop_none hd
    rw [List.append_nil, pcs_free p hf]
    refine Ev.step (fun k => ?_) (ref_piece s hs acc (by omega) x5 x6 h5 h6 p hp [] fun acc' ha' => ?_)
    · rw [pennantref21_Parse.l0, if_pos (by omega), if_neg (by omega)]
    · rw [show fieldsL [] = some [] from rfl, done_end]
      refine Ev.step (f := fun _ => some (if 32 < acc'.length then ([], 4) else (acc'.map toS, 0))) (fun k => ?_) (Ev.now _)
      rw [pennantref21_Parse.l0, if_neg (by omega)]
      by_cases h : 32 < acc'.length
      · rw [if_pos (by simp; omega), if_pos h]
      · rw [if_neg (by simp; omega), if_neg h]
  | c :: t, p, acc, x5, x6, hd, h5, h6, hp, hf, ha => by
    obtain ⟨h1, h2, h3, h4⟩ := bt_drop hd
    have e1 : wrap64 ((x6 : Int) + 1) = ((x6 + 1 : Nat) : Int) := by unfold wrap64; omega
    have hc := c.toNat_lt
    by_cases c1 : c = 38
    · subst c1
      rw [pcs_join, pcs_free p hf]
      refine Ev.step (fun k => ?_) (ref_piece s hs acc (by omega) x5 x6 h5 h6 p hp (pcs t) fun acc' ha' => ?_)
      · rw [pennantref21_Parse.l0, if_pos (by omega), if_pos (by omega), if_pos (by omega), h2]; rfl
      · exact ref_loop s hs t [] acc' (x6 + 1) (x6 + 1) h3 (Nat.le_refl _) (by omega) (by rw [List.drop_eq_nil_of_le]; rw [List.length_take]; omega) (fun _ h => by cases h) (by omega)
    · have d1 : ((c.toNat : Int) != 38) = true := bne_iff_ne.2 (fun h => c1 (UInt8.toNat_inj.1 (by rw [show c.toNat = 38 by omega]; rfl)))
      rw [show p ++ c :: t = (p ++ [c]) ++ t by simp]
      have hx : x6 < s.data.toList.length := by rw [size_list]; omega
      have hg : s.data.toList[x6]'hx = c := by
        rw [List.drop_eq_getElem_cons hx] at hd
        exact (List.cons.inj hd).1
      have ih := ref_loop s hs t (p ++ [c]) acc x5 (x6 + 1) h3 (by omega) (by omega) (by
        rw [List.take_succ_eq_append_getElem hx, List.drop_append_of_le_length (by rw [List.length_take]; omega), hp, hg]) (fun x hx => by
        rcases List.mem_append.1 hx with h | h
        · exact hf x h
        · rw [List.mem_singleton.1 h]; exact c1) (by omega)
      refine Ev.step (fun k => ?_) (Ev.step (f := fun k => pennantref21_Parse.l0 k s (acc.map toS) (x5 : Int) ((x6 + 1 : Nat) : Int)) (g := fun k => pennantref21_Parse.j1 k s (acc.map toS) (x5 : Int) (x6 : Int) true) (fun k => ?_) ih)
      · rw [pennantref21_Parse.l0, if_pos (by omega), if_pos (by omega), if_pos (by omega), h2, d1]
      · rw [pennantref21_Parse.j1, if_pos rfl, e1]
theorem ref_told (s : ByteArray) (hs : s.size ≤ 140737488351232) : Ev (fun k => pennantref21_Parse.f k s) (if 4096 < s.size then ([], 2) else done (formL s.data.toList)) := by
  by_cases h : 4096 < s.size
  · rw [if_pos h]
    refine Ev.congr (fun k => ?_) (Ev.now _)
    unfold pennantref21_Parse.f
    rw [if_pos (by omega)]
  · rw [if_neg h]
    have h0 := ref_loop s (by omega) _ [] [] 0 0 rfl (Nat.le_refl _) (Nat.zero_le _) rfl (fun _ h => by cases h) (Nat.zero_le _)
    rw [List.drop_zero, List.nil_append] at h0
    refine Ev.eq (fun k => ?_) ?_ h0
    · unfold pennantref21_Parse.f
      rw [if_neg (by omega)]; rfl
    · unfold formL
      cases fieldsL (pcs s.data.toList) <;> simp
end Go.Proofs.YtmddmlmmmgbejaaDoor.Pure
