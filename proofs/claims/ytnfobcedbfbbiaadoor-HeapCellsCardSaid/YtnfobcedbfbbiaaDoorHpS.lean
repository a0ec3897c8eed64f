/- What every call keeps of a heap's state. -/
import Derived.Test.YtnfobcedbfbbiaaDoorHpP
namespace Go.Proofs.YtnfobcedbfbbiaaDoor.Hp
open Go.RowKit Go.Proofs.YtnfobcedbfbbiaaDoorW.PrintWords Go.Proofs.YtnfobcedbfbbiaaDoorW.PrintLast Go.Proofs.YtnfobcedbfbbiaaDoorW.PrintMore Go.Proofs.YtnfobcedbfbbiaaDoor.Hand Go.Proofs.YtnfobcedbfbbiaaDoor.PIx Go.Proofs.YtnfobcedbfbbiaaDoor.Pure
set_option linter.unusedVariables false
set_option linter.unusedSimpArgs false
/-- An object's cells. -/
def wt (o : OSt) : Nat := 1 + o.items.length + o.keys.length
def takenL : List OSt → Nat
  | [] => 0
  | o :: t => wt o + takenL t
theorem takenL_append (a b : List OSt) : takenL (a ++ b) = takenL a + takenL b := by
  induction a with
  | nil => simp [takenL]
  | cons o t ih => simp only [List.cons_append, takenL, ih]; omega
theorem takenL_set : ∀ (l : List OSt) (i : Nat) (o o' : OSt), l[i]? = some o → takenL (l.set i o') + wt o = takenL l + wt o'
  | [], i, o, o', h => by simp at h
  | x :: t, 0, o, o', h => by
    obtain rfl : x = o := by simpa using h
    simp only [List.set_cons_zero, takenL]
    omega
  | x :: t, i + 1, o, o', h => by
    have := takenL_set t i o o' (by simpa using h)
    simp only [List.set_cons_succ, takenL]
    omega
theorem takenL_len : ∀ l : List OSt, l.length ≤ takenL l
  | [] => Nat.le_refl _
  | o :: t => by
    have := takenL_len t
    simp only [List.length_cons, takenL, wt]
    omega
theorem takenL_mem : ∀ (l : List OSt) (o : OSt), o ∈ l → wt o ≤ takenL l
  | [], o, h => by cases h
  | x :: t, o, h => by
    rcases List.mem_cons.1 h with rfl | h
    · simp only [takenL]; omega
    · have := takenL_mem t o h
      simp only [takenL]
      omega
/-- Names, and properties. -/
def Named (o : OSt) : Prop := o.keys = o.props.map (·.1) ∧ o.keys.Nodup
structure Inv (G : Int) (σ : HSt) : Prop where
  g1 : G ≤ 10000
  left : 0 ≤ σ.left
  sum : σ.left + takenL σ.objs = G
  desc : Desc σ
  named : ∀ o ∈ σ.objs, Named o
theorem Inv.fine {G : Int} {σ : HSt} (h : Inv G σ) : Fine σ := by
  have h1 := h.g1
  have h2 := h.left
  have h3 := h.sum
  have h4 := takenL_len σ.objs
  refine ⟨⟨h2, by omega, by omega⟩, fun o ho => ?_, fun o ho => ?_⟩
  · have := takenL_mem σ.objs o ho
    unfold wt at this
    omega
  · have := takenL_mem σ.objs o ho
    unfold wt at this
    omega
theorem Inv.none {G : Int} {σ : HSt} (h : Inv G σ) : Inv G σ := h
theorem Inv.add {G : Int} {σ : HSt} (h : Inv G σ) (o : OSt) (hp : o.proto < σ.objs.length) (hn : Named o) : Inv G (addS σ o (wt o)).2.2 := by
  unfold addS
  split
  · exact h
  · rename_i c
    refine ⟨h.g1, by show (0 : Int) ≤ σ.left - (wt o : Nat); omega, ?_, ?_, ?_⟩
    · show σ.left - (wt o : Nat) + (takenL (σ.objs ++ [o]) : Nat) = G
      rw [takenL_append]
      have := h.sum
      simp only [takenL]
      omega
    · intro i x hx
      simp only at hx
      by_cases c2 : i < σ.objs.length
      · rw [List.getElem?_append_left c2] at hx
        exact h.desc i x hx
      · rw [List.getElem?_append_right (by omega)] at hx
        have hz : i - σ.objs.length = 0 := by
          have := (List.getElem?_eq_some_iff.1 hx).1
          simpa using this
        rw [hz] at hx
        obtain rfl : o = x := by simpa using hx
        omega
    · intro x hx
      rcases List.mem_append.1 hx with hx | hx
      · exact h.named x hx
      · obtain rfl := List.mem_singleton.1 hx
        exact hn
/-- One object turned. -/
theorem Inv.turn {G : Int} {σ : HSt} (h : Inv G σ) {i : Nat} {o o' : OSt} (ho : σ.objs[i]? = some o) (l : Int) (hl : 0 ≤ l) (hs : l + wt o' = σ.left + wt o) (hp : o'.proto = o.proto) (hn : Named o') : Inv G ⟨σ.objs.set i o', l⟩ := by
  have hset := takenL_set σ.objs i o o' ho
  have hil := (List.getElem?_eq_some_iff.1 ho).1
  refine ⟨h.g1, hl, ?_, ?_, ?_⟩
  · show l + (takenL (σ.objs.set i o') : Nat) = G
    have := h.sum
    omega
  · intro j x hx
    simp only at hx
    by_cases e : i = j
    · subst e
      rw [List.getElem?_set_self hil] at hx
      obtain rfl := Option.some.inj hx
      rw [hp]
      exact h.desc i o ho
    · rw [List.getElem?_set_ne e] at hx
      exact h.desc j x hx
  · intro x hx
    rcases List.mem_or_eq_of_mem_set hx with hx | rfl
    · exact h.named x hx
    · exact hn
theorem Inv.plain {G : Int} {σ : HSt} (h : Inv G σ) (pr : Int) : Inv G (plainS σ pr).2.2 := by
  by_cases c : pr ≠ -1 ∧ ¬ Has σ pr
  · have : plainS σ pr = (0, 3, σ) := by unfold plainS; rw [if_pos c]
    rw [this]; exact h
  · have : plainS σ pr = addS σ ⟨1, pr, 0, 0, 0, [], [], []⟩ (wt ⟨1, pr, 0, 0, 0, [], [], []⟩) := by unfold plainS addS; rw [if_neg c]; rfl
    rw [this]
    refine h.add _ ?_ ⟨rfl, List.nodup_nil⟩
    show pr < σ.objs.length
    by_cases e : pr = -1
    · omega
    · by_cases e2 : Has σ pr
      · exact e2.2
      · exact absurd ⟨e, e2⟩ c
theorem Inv.func {G : Int} {σ : HSt} (h : Inv G σ) (a b sc : Int) : Inv G (funcS σ a b sc).2.2 := by
  unfold funcS
  split
  · exact h
  · exact h.add ⟨3, -1, a, b, sc, [], [], []⟩ (by show (-1 : Int) < σ.objs.length; omega) ⟨rfl, List.nodup_nil⟩
theorem Inv.arr {G : Int} {σ : HSt} (h : Inv G σ) (its : List Val) : Inv G (arrS σ its).2.2 := by
  unfold arrS
  split
  · have := h.add ⟨2, -1, 0, 0, 0, [], [], its⟩ (by show (-1 : Int) < σ.objs.length; omega) ⟨rfl, List.nodup_nil⟩
    have e : ((wt ⟨2, -1, 0, 0, 0, [], [], its⟩ : Nat) : Int) = 1 + its.length := by unfold wt; simp
    rwa [e] at this
  · exact h
theorem lookS_none {ps : List (ByteArray × Val)} {key : ByteArray} (h : (lookS ps key).isSome = false) : key ∉ ps.map (·.1) := by
  induction ps with
  | nil => simp
  | cons x t ih =>
    unfold lookS at h
    split at h
    · cases h
    · rename_i c
      simp only [List.map_cons, List.mem_cons, not_or]
      exact ⟨c, ih h⟩
theorem lookS_some {ps : List (ByteArray × Val)} {key : ByteArray} (h : (lookS ps key).isSome = true) : key ∈ ps.map (·.1) := by
  induction ps with
  | nil => cases h
  | cons x t ih =>
    unfold lookS at h
    split at h
    · rename_i c
      simp [c]
    · exact List.mem_cons_of_mem _ (ih h)
open Classical in
theorem putS_keys {ps : List (ByteArray × Val)} {key : ByteArray} {v : Val} : (putS ps key v).map (·.1) = if key ∈ ps.map (·.1) then ps.map (·.1) else ps.map (·.1) ++ [key] := by
  induction ps with
  | nil => simp [putS]
  | cons x t ih =>
    unfold putS
    by_cases c : key = x.1
    · rw [if_pos c, if_pos (by simp [c])]
      simp
    · rw [if_neg c, List.map_cons, ih]
      by_cases c2 : key ∈ t.map (·.1)
      · rw [if_pos c2, if_pos (show key ∈ (x :: t).map (·.1) from List.mem_cons_of_mem _ c2)]
        rfl
      · rw [if_neg c2, if_neg (by simp only [List.map_cons, List.mem_cons, not_or]; exact ⟨c, c2⟩)]
        rfl
theorem delS_keys {ps : List (ByteArray × Val)} {key : ByteArray} (hn : (ps.map (·.1)).Nodup) : (delS ps key).map (·.1) = lessK (ps.map (·.1)) key := by
  induction ps with
  | nil => rfl
  | cons x t ih =>
    rw [List.map_cons, List.nodup_cons] at hn
    unfold delS
    by_cases c : key = x.1
    · rw [if_pos c]
      subst c
      unfold lessK
      rw [List.map_cons, List.filter_cons_of_neg (by simp)]
      rw [List.filter_eq_self.2]
      intro a ha
      have : a ≠ x.1 := fun e => hn.1 (e ▸ ha)
      simp only [Bool.not_eq_true', beq_eq_false_iff_ne]
      exact fun e => this (toList_inj e)
    · rw [if_neg c, List.map_cons, ih hn.2]
      unfold lessK
      rw [List.map_cons, List.filter_cons_of_pos]
      simp only [Bool.not_eq_true', beq_eq_false_iff_ne]
      exact fun e => c (toList_inj e).symm
theorem lessK_len {ks : List ByteArray} {key : ByteArray} (hn : ks.Nodup) (hm : key ∈ ks) : (lessK ks key).length + 1 = ks.length := by
  induction ks with
  | nil => cases hm
  | cons x t ih =>
    rw [List.nodup_cons] at hn
    unfold lessK
    by_cases c : x = key
    · subst c
      rw [List.filter_cons_of_neg (by simp), List.filter_eq_self.2]
      · simp
      · intro a ha
        simp only [Bool.not_eq_true', beq_eq_false_iff_ne]
        intro e
        exact hn.1 (toList_inj e ▸ ha)
    · rw [List.filter_cons_of_pos (by simp only [Bool.not_eq_true', beq_eq_false_iff_ne]; exact fun e => c (toList_inj e))]
      have : key ∈ t := by
        rcases List.mem_cons.1 hm with e | e
        · exact absurd e.symm c
        · exact e
      have := ih hn.2 this
      unfold lessK at this
      simp only [List.length_cons]
      omega
theorem Inv.obj {G : Int} {σ : HSt} (h : Inv G σ) {i : Int} {o : OSt} (ho : objS σ i = some o) : Named o := h.named o (List.mem_of_getElem? (objS_some ho).2.2)
theorem Inv.map {G : Int} {σ : HSt} (h : Inv G σ) {i : Int} {o : OSt} (ho : objS σ i = some o) (key : ByteArray) (v : Val) : Inv G (mapS σ i o key v).2 := by
  have hn := h.obj ho
  have h3 := (objS_some ho).2.2
  unfold mapS
  by_cases c1 : (lookS o.props key).isSome = true
  · rw [if_pos c1]
    refine h.turn h3 σ.left h.left rfl rfl ⟨?_, hn.2⟩
    show o.keys = (putS o.props key v).map (·.1)
    rw [putS_keys, if_pos (lookS_some c1)]
    exact hn.1
  · rw [if_neg c1]
    have c2 := lookS_none (Bool.eq_false_iff.2 c1)
    split
    · exact h
    · rename_i c3
      refine h.turn h3 (σ.left - 1) (by omega) ?_ rfl ⟨?_, ?_⟩
      · unfold wt
        simp only [List.length_append, List.length_cons, List.length_nil]
        omega
      · show o.keys ++ [key] = (putS o.props key v).map (·.1)
        rw [putS_keys, if_neg c2, hn.1]
      · show (o.keys ++ [key]).Nodup
        rw [hn.1, List.nodup_append]
        refine ⟨by rw [← hn.1]; exact hn.2, by simp, fun a ha b hb e => ?_⟩
        obtain rfl := List.mem_singleton.1 hb
        exact c2 (e ▸ ha)
theorem Inv.resize {G : Int} {σ : HSt} (h : Inv G σ) {i : Nat} {o : OSt} (ho : σ.objs[i]? = some o) (n : Nat) : Inv G (resizeS σ i o n).2 := by
  have hn := h.named o (List.mem_of_getElem? ho)
  unfold resizeS
  split
  · exact h
  · rename_i c
    refine h.turn ho _ (by omega) ?_ rfl hn
    unfold wt
    simp only [fitI_len]
    omega
theorem Inv.item {G : Int} {σ : HSt} (h : Inv G σ) {i : Nat} {o : OSt} (ho : σ.objs[i]? = some o) (n : Nat) (v : Val) : Inv G (itemS σ i o n v).2 := by
  have hn := h.named o (List.mem_of_getElem? ho)
  unfold itemS
  split
  · refine h.turn ho _ h.left ?_ rfl hn
    unfold wt
    simp only [List.length_set]
  · split
    · exact h
    · rename_i c
      refine h.turn ho _ (by omega) ?_ rfl hn
      unfold wt
      simp only [List.length_set, fitI_len]
      omega
theorem Inv.put {G : Int} {σ : HSt} (h : Inv G σ) (i : Int) (key : ByteArray) (v : Val) : Inv G (putH σ i key v).2 := by
  unfold putH
  cases ho : objS σ i with
  | none => exact h
  | some o =>
    simp only
    unfold putO
    split
    · exact h
    · split
      · split
        · exact h.resize (objS_some ho).2.2 _
        · exact h
      · split
        · exact h.item (objS_some ho).2.2 _ v
        · exact h.map ho key v
theorem Inv.set {G : Int} {σ : HSt} (h : Inv G σ) (i : Int) (key : ByteArray) (v : Val) : Inv G (setH σ i key v).2.2 := by
  unfold setH
  split
  · split
    · exact h
    · exact h.put _ key v
  · exact h
theorem Inv.drop {G : Int} {σ : HSt} (h : Inv G σ) (i : Int) (key : ByteArray) : Inv G (dropH σ i key).2 := by
  unfold dropH
  cases ho : objS σ i with
  | none => exact h
  | some o =>
    have hn := h.obj ho
    simp only
    split
    · split
      · refine h.turn (objS_some ho).2.2 _ h.left ?_ rfl hn
        unfold wt
        simp only [List.length_set]
      · exact h
    · split
      · rename_i c
        have hm := lookS_some c
        rw [← hn.1] at hm
        have hl := lessK_len hn.2 hm
        have := h.left
        refine h.turn (objS_some ho).2.2 (σ.left + 1) (by omega) ?_ rfl ⟨?_, ?_⟩
        · unfold wt
          simp only
          omega
        · show lessK o.keys key = (delS o.props key).map (·.1)
          rw [delS_keys (by rw [← hn.1]; exact hn.2), ← hn.1]
        · exact List.Pairwise.filter _ hn.2
      · exact h
theorem Inv.dropNe {G : Int} {σ : HSt} (h : Inv G σ) (i : Int) (key : ByteArray) : ∀ o, objS σ i = some o → (lookS o.props key).isSome = true → o.keys ≠ [] := by
  intro o ho hl e
  have hm := lookS_some hl
  rw [← (h.obj ho).1, e] at hm
  cases hm
end Go.Proofs.YtnfobcedbfbbiaaDoor.Hp
