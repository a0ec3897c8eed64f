/- Put and Drop, whole. -/
import Derived.Test.YtnfobcedbfbbiaaDoorHpN
namespace Go.Proofs.YtnfobcedbfbbiaaDoor.Hp
open Go.RowKit Go.Proofs.YtnfobcedbfbbiaaDoorW.PrintWords Go.Proofs.YtnfobcedbfbbiaaDoorW.PrintLast Go.Proofs.YtnfobcedbfbbiaaDoorW.PrintMore Go.Proofs.YtnfobcedbfbbiaaDoor.Hand Go.Proofs.YtnfobcedbfbbiaaDoor.PIx Go.Proofs.YtnfobcedbfbbiaaDoor.Pure
set_option linter.unusedVariables false
set_option linter.unusedSimpArgs false
/-- The integer of a number. -/
def cutN (x : Nat) : Nat := (((FloatKind.f64.decode x).toInt .zero).getD 0).toNat
open Classical in
noncomputable def putO (σ : HSt) (i : Int) (key : ByteArray) (v : Val) (o : OSt) : Int × HSt :=
  if rightV σ.objs.length v = false then (1, σ)
  else if o.kind = 2 ∧ key = lengthKey then (if LenOk v then resizeS σ i.toNat o (cutN v.num) else (1, σ))
  else if o.kind = 2 ∧ (idxR key).2 = true then itemS σ i.toNat o (idxR key).1.toNat v
  else mapS σ i o key v
/-- What Put does. -/
noncomputable def putH (σ : HSt) (i : Int) (key : ByteArray) (v : Val) : Int × HSt := match objS σ i with | none => (3, σ) | some o => putO σ i key v o
theorem feq_nan {x : Nat} (h : feq x x = false) (y : Nat) : feq y x = false := by
  have hd : ∃ s t, FloatKind.f64.decode x = .nan s t := by
    cases hd : FloatKind.f64.decode x with
    | nan s t => exact ⟨s, t, rfl⟩
    | infinity s =>
      have e : feq x x = true := by
        unfold feq
        show ((FloatKind.f64.decode x).order (FloatKind.f64.decode x) == some Ordering.eq) = true
        rw [hd]
        cases s <;> rfl
      rw [e] at h; cases h
    | number s m i =>
      have e : feq x x = true := by
        unfold feq
        show ((FloatKind.f64.decode x).order (FloatKind.f64.decode x) == some Ordering.eq) = true
        rw [hd]
        simp [Ieee.Datum.order]
      rw [e] at h; cases h
  obtain ⟨s, t, hd⟩ := hd
  unfold feq
  show ((FloatKind.f64.decode y).order (FloatKind.f64.decode x) == some Ordering.eq) = false
  rw [hd]
  cases FloatKind.f64.decode y <;> rfl
theorem put_map {w : World} {B p : Nat} {K : List (Nat × Obj)} {σ : HSt} {ov : Value} {Ls : List Lay} (h : HeapAt w B K p σ ov Ls) (hf : Fit σ) (i : Int) (key : ByteArray) (v : Val) (hks : key.size ≤ 140737488351232) (o : OSt) (ho : objS σ i = some o) (hk : o.kind = 2 → key ≠ lengthKey ∧ (idxR key).2 = false) (hts : v.text.size ≤ 140737488351232) (hr : rightV σ.objs.length v = true) (hkeys : o.keys.length ≤ 100000) :
    Calls Tryd.prog 16 #[.pointer (some ⟨p, 0, none⟩), .int .i64 i, .string key, v.agg] w (Left B K p (.int .i64 (mapS σ i o key v).1) (mapS σ i o key v).2 w) := by
  have HR : ∀ w1, HeapAt w1 B K p σ ov Ls → Calls Tryd.prog 37 #[.pointer (some ⟨p, 0, none⟩), v.agg] w1 fun e w' => e = .returned (.bool true) ∧ Below w1.heap.size w1 w' := by
    intro w1 h1
    have := right_calls h1 (by have := hf.objs; omega) v hts
    rwa [hr] at this
  unfold mapS
  by_cases c1 : (lookS o.props key).isSome = true
  · rw [if_pos c1]
    exact put_there h hf i key v hks o ho hk HR c1
  · rw [if_neg c1]
    have c2 := Bool.eq_false_iff.2 c1
    by_cases c3 : σ.left < 1
    · rw [if_pos c3]
      exact put_full h hf i key v hks o ho hk HR c2 c3
    · rw [if_neg c3]
      exact put_room h hf i key v hks o ho hk HR c2 c3 hkeys
/-- Bounds that every heap here keeps. -/
structure Fine (σ : HSt) : Prop where
  fit : Fit σ
  items : ∀ o ∈ σ.objs, o.items.length ≤ 100000
  keys : ∀ o ∈ σ.objs, o.keys.length ≤ 100000
theorem put_calls {w : World} {B p : Nat} {K : List (Nat × Obj)} {σ : HSt} (hok : HeapOk w B K p σ) (hf : Fine σ) (i : Int) (key : ByteArray) (v : Val) (hks : key.size ≤ 140737488351232) (hts : v.text.size ≤ 140737488351232) :
    Calls Tryd.prog 16 #[.pointer (some ⟨p, 0, none⟩), .int .i64 i, .string key, v.agg] w (Left B K p (.int .i64 (putH σ i key v).1) (putH σ i key v).2 w) := by
  obtain ⟨ov, Ls, h⟩ := hok
  unfold putH
  cases ho : objS σ i with
  | none => exact put_none h hf.fit i key v ho
  | some o =>
    have hmem := List.mem_of_getElem? (objS_some ho).2.2
    have hil := hf.items o hmem
    have hkl := hf.keys o hmem
    simp only
    unfold putO
    cases hr : rightV σ.objs.length v with
    | false => rw [if_pos rfl]; exact put_bad h hf.fit i key v o ho hts hr
    | true =>
      rw [if_neg (by decide)]
      by_cases c1 : o.kind = 2 ∧ key = lengthKey
      · rw [if_pos c1]
        obtain ⟨c1, rfl⟩ := c1
        by_cases c2 : LenOk v
        · rw [if_pos c2]
          have hx : feq v.num v.num = true := by
            have := c2.low
            cases hxx : feq v.num v.num with
            | true => rfl
            | false =>
              have hw := c2.whole
              unfold wholeV at hw
              rw [hxx, if_neg (by decide)] at hw
              exact absurd (feq_nan hxx 0) (by rw [hw]; decide)
          obtain ⟨n, hn, hnm⟩ := toInt_of hx c2.low c2.high
          have hc : cutN v.num = n := by unfold cutN; rw [hn]; rfl
          rw [hc]
          exact put_len h hf.fit i v o ho c1 hts hr hil c2 n hn hnm
        · rw [if_neg c2]
          exact put_lenbad h hf.fit i v o ho c1 hts hr c2
      · rw [if_neg c1]
        by_cases c2 : o.kind = 2 ∧ (idxR key).2 = true
        · rw [if_pos c2]
          obtain ⟨m, hm, hm2⟩ := idxR_nat key c2.2
          rw [hm, Int.toNat_natCast]
          exact put_index h hf.fit i key v hks o ho c2.1 hts hr hil (fun e => c1 ⟨c2.1, e⟩) m hm hm2
        · rw [if_neg c2]
          exact put_map h hf.fit i key v hks o ho (fun e => ⟨fun e2 => c1 ⟨e, e2⟩, Bool.eq_false_iff.2 (fun e2 => c2 ⟨e, e2⟩)⟩) hts hr hkl
/-- What Drop does. -/
def dropH (σ : HSt) (i : Int) (key : ByteArray) : Bool × HSt :=
  match objS σ i with
  | none => (false, σ)
  | some o =>
    if o.kind = 2 ∧ (idxR key).2 = true then (if (idxR key).1.toNat < o.items.length then (true, ⟨σ.objs.set i.toNat { o with items := o.items.set (idxR key).1.toNat Val.zero }, σ.left⟩) else (false, σ))
    else if (lookS o.props key).isSome = true then (true, ⟨σ.objs.set i.toNat { o with keys := lessK o.keys key, props := delS o.props key }, σ.left + 1⟩) else (false, σ)
theorem drop_calls {w : World} {B p : Nat} {K : List (Nat × Obj)} {σ : HSt} (hok : HeapOk w B K p σ) (hf : Fine σ) (i : Int) (key : ByteArray) (hks : key.size ≤ 140737488351232) (hne : ∀ o, objS σ i = some o → (lookS o.props key).isSome = true → o.keys ≠ []) :
    Calls Tryd.prog 24 #[.pointer (some ⟨p, 0, none⟩), .int .i64 i, .string key] w (Left B K p (.bool (dropH σ i key).1) (dropH σ i key).2 w) := by
  obtain ⟨ov, Ls, h⟩ := hok
  unfold dropH
  cases ho : objS σ i with
  | none =>
    refine (drop_none h hf.fit i key ho).mono ?_
    rintro e w' ⟨rfl, hb⟩
    exact Left.same h hb
  | some o =>
    have hmem := List.mem_of_getElem? (objS_some ho).2.2
    simp only
    by_cases c2 : o.kind = 2 ∧ (idxR key).2 = true
    · rw [if_pos c2]
      obtain ⟨m, hm, hm2⟩ := idxR_nat key c2.2
      rw [hm, Int.toNat_natCast]
      by_cases c3 : m < o.items.length
      · rw [if_pos c3]
        exact drop_item h hf.fit i key hks o ho c2.1 m hm c3 (hf.items o hmem)
      · rw [if_neg c3]
        exact drop_past h hf.fit i key hks o ho c2.1 m hm (by omega)
    · rw [if_neg c2]
      by_cases c3 : (lookS o.props key).isSome = true
      · rw [if_pos c3]
        exact drop_there h hf.fit i key hks o ho (fun e => Bool.eq_false_iff.2 (fun e2 => c2 ⟨e, e2⟩)) c3 (hne o ho c3)
      · rw [if_neg c3]
        exact drop_missing h hf.fit i key hks o ho (fun e => Bool.eq_false_iff.2 (fun e2 => c2 ⟨e, e2⟩)) (Bool.eq_false_iff.2 c3)
end Go.Proofs.YtnfobcedbfbbiaaDoor.Hp
