/- Maps of the heap; Own, holder, Get. -/
import Derived.Test.YtnfobcedbfbbiaaDoorHpA
import Derived.MapKept
import Derived.Maps.OwnSet
namespace Go.Proofs.YtnfobcedbfbbiaaDoor.Hp
open Go.RowKit Go.Proofs.YtnfobcedbfbbiaaDoorW.PrintWords Go.Proofs.YtnfobcedbfbbiaaDoorW.PrintLast Go.Proofs.YtnfobcedbfbbiaaDoorW.PrintMore Go.Proofs.YtnfobcedbfbbiaaDoor.Hand Go.Proofs.YtnfobcedbfbbiaaDoor.PIx Go.Proofs.YtnfobcedbfbbiaaDoor.Pure
set_option linter.unusedVariables false
set_option linter.unusedSimpArgs false
section
open Go.ChangeMaps (setBlock heap_setBlock_same heap_setBlock_other)
/-- What stands at a key, and its place. -/
def findS (key : ByteArray) : List (ByteArray × Val) → Nat → Option (Nat × Val)
  | [], _ => none
  | x :: t, i => if key = x.1 then some (i, x.2) else findS key t (i + 1)
def lookS : List (ByteArray × Val) → ByteArray → Option Val
  | [], _ => none
  | x :: t, key => if key = x.1 then some x.2 else lookS t key
def putS : List (ByteArray × Val) → ByteArray → Val → List (ByteArray × Val)
  | [], key, v => [(key, v)]
  | x :: t, key, v => if key = x.1 then (x.1, v) :: t else x :: putS t key v
def delS : List (ByteArray × Val) → ByteArray → List (ByteArray × Val)
  | [], _ => []
  | x :: t, key => if key = x.1 then t else x :: delS t key
abbrev kvOf (e : MapEntry) : Value × Value := (e.key, e.val)
abbrev kvS (x : ByteArray × Val) : Value × Value := (Value.string x.1, x.2.agg)
theorem ba_beq (a b : ByteArray) : (a == b) = decide (a = b) := by
  rw [Bool.eq_iff_iff, decide_eq_true_iff]
  exact MapKept.bytes_beq a b
theorem find_now (key : ByteArray) : ∀ (es : List MapEntry) (ps : List (ByteArray × Val)) (i : Nat), es.map kvOf = ps.map kvS →
    Instr.findNow .string (.string key) es i = some ((findS key ps i).map fun x => (x.1, x.2.agg))
  | [], [], i, _ => rfl
  | [], x :: t, i, h => by simp at h
  | e :: es, [], i, h => by simp at h
  | e :: es, x :: t, i, h => by
    simp only [List.map_cons, List.cons.injEq] at h
    obtain ⟨h1, h2⟩ := h
    have h3 : e.key = .string x.1 := congrArg Prod.fst h1
    have h4 : e.val = x.2.agg := congrArg Prod.snd h1
    unfold Instr.findNow findS
    rw [h3]
    by_cases c : key = x.1
    · rw [if_pos c]
      subst c
      have : (x.1 == x.1) = true := by rw [ba_beq]; exact decide_eq_true rfl
      simp [Instr.sameNow, h4, this]
    · rw [if_neg c]
      have : (key == x.1) = false := by rw [ba_beq]; exact decide_eq_false c
      simp only [Instr.sameNow, this]
      exact find_now key es t (i + 1) h2
theorem find_run (key : ByteArray) (es : List MapEntry) (ps : List (ByteArray × Val)) (h : es.map kvOf = ps.map kvS) (w : World) :
    (Instr.findKey 9 (.string key) es).run Tryd.prog w = .ok ((findS key ps 0).map fun x => (x.1, x.2.agg)) w := by
  unfold Instr.findKey
  simp [run_underlying Tryd.underlying9, find_now key es ps 0 h, Result.andThen]
theorem check_run (em : Bool) (key : ByteArray) (w : World) : (Instr.checkKey em 10000 9 (.string key)).run Tryd.prog w = .ok () w := by
  show (Instr.checkKey em (9999 + 1) 9 (.string key)).run Tryd.prog w = .ok () w
  rw [Instr.checkKey]
  simp [run_underlying Tryd.underlying9, Result.andThen]
theorem find_look (key : ByteArray) : ∀ (ps : List (ByteArray × Val)) (i : Nat), (findS key ps i).map (·.2) = lookS ps key
  | [], _ => rfl
  | x :: t, i => by
    unfold findS lookS
    split
    · rfl
    · exact find_look key t (i + 1)
theorem zero_run (w : World) : (zeroValue 33).run Tryd.prog w = .ok Val.zero.agg w := by kernel_rfl
theorem look_run {w : World} {m : Nat} {ps : List (ByteArray × Val)} (h : MapAt w m ps) (key : ByteArray) :
    (Instr.lookup 76 (.map (some m)) (.string key) true).run Tryd.prog w = .ok (.tuple #[((lookS ps key).getD Val.zero).agg, .bool (lookS ps key).isSome]) w := by
  obtain ⟨es, c, hb, he⟩ := h
  have hf := find_run key es.toList ps he w
  have hl := find_look key ps 0
  unfold Instr.lookup
  simp [run_underlying Tryd.underlying76, MapKept.run_getObj_map hb, check_run, hf, Result.andThen]
  cases e : findS key ps 0 with
  | none => rw [e] at hl; rw [← hl]; simp [zero_run, Result.andThen]; exact ⟨rfl, rfl, rfl, rfl⟩
  | some x => rw [e] at hl; rw [← hl]; simp [Result.andThen]
theorem find_at (key : ByteArray) : ∀ (ps : List (ByteArray × Val)) (i j : Nat) (v : Val), findS key ps i = some (j, v) → ∃ d, j = i + d ∧ ps[d]? = some (key, v)
  | [], i, j, v, h => by cases h
  | x :: t, i, j, v, h => by
    unfold findS at h
    split at h
    · rename_i c
      simp only [Option.some.injEq, Prod.mk.injEq] at h
      obtain ⟨rfl, rfl⟩ := h
      exact ⟨0, rfl, by rw [c]; rfl⟩
    · obtain ⟨d, hd, hg⟩ := find_at key t (i + 1) j v h
      exact ⟨d + 1, by omega, by simpa using hg⟩
theorem put_at (key : ByteArray) (v : Val) : ∀ (ps : List (ByteArray × Val)) (i : Nat), putS ps key v = (match findS key ps i with | some (j, _) => ps.modify (j - i) (fun x => (x.1, v)) | none => ps ++ [(key, v)])
  | [], i => rfl
  | x :: t, i => by
    unfold putS findS
    by_cases c : key = x.1
    · rw [if_pos c, if_pos c]
      simp
    · rw [if_neg c, if_neg c, put_at key v t (i + 1)]
      cases e : findS key t (i + 1) with
      | none => rfl
      | some q =>
        obtain ⟨j, u⟩ := q
        obtain ⟨d, hd, _⟩ := find_at key t (i + 1) j u e
        simp only
        rw [show j - i = (j - (i + 1)) + 1 by omega, List.modify_succ_cons]
theorem del_at (key : ByteArray) : ∀ (ps : List (ByteArray × Val)) (i : Nat), delS ps key = (match findS key ps i with | some (j, _) => ps.eraseIdx (j - i) | none => ps)
  | [], i => rfl
  | x :: t, i => by
    unfold delS findS
    by_cases c : key = x.1
    · rw [if_pos c, if_pos c]
      simp
    · rw [if_neg c, if_neg c, del_at key t (i + 1)]
      cases e : findS key t (i + 1) with
      | none => rfl
      | some q =>
        obtain ⟨j, u⟩ := q
        obtain ⟨d, hd, _⟩ := find_at key t (i + 1) j u e
        simp only
        rw [show j - i = (j - (i + 1)) + 1 by omega, List.eraseIdx_cons_succ]
theorem stays_run (key : ByteArray) (w : World) : (Instr.keyThatStays (.string key) (.string key)).run Tryd.prog w = .ok (.string key) w := by
  unfold Instr.keyThatStays
  have : Instr.sameBits 10000 (.string key) (.string key) = true := by
    show (key == key) = true
    rw [ba_beq]; exact decide_eq_true rfl
  simp [this]
theorem map_turn {w : World} {m : Nat} {es : Array MapEntry} {c : Nat} (hb : w.heap[m]? = some (.map es c)) (es' : Array MapEntry) (c' : Nat) {ps : List (ByteArray × Val)} (h : es'.toList.map kvOf = ps.map kvS) :
    MapAt (setBlock w m (.map es' c')) m ps ∧ w.grownBy (setBlock w m (.map es' c')) (some m) :=
  ⟨⟨es', c', heap_setBlock_same hb _, h⟩, ⟨rfl, rfl, rfl, by simp [setBlock], fun i _ hi => heap_setBlock_other hb _ (fun e => hi (by rw [e]))⟩⟩
theorem modify_map {α β : Type} (f : α → β) (g : α → α) (g' : β → β) (hg : ∀ x, f (g x) = g' (f x)) : ∀ (l : List α) (j : Nat), (l.modify j g).map f = (l.map f).modify j g'
  | [], j => by simp
  | x :: t, 0 => by simp [hg]
  | x :: t, j + 1 => by simp [modify_map f g g' hg t j]
theorem put_run {w : World} {m : Nat} {ps : List (ByteArray × Val)} (h : MapAt w m ps) (key : ByteArray) (v : Val) :
    ∃ w', (Instr.mapUpdate 76 (.map (some m)) (.string key) v.agg).run Tryd.prog w = .ok () w' ∧ MapAt w' m (putS ps key v) ∧ w.grownBy w' (some m) := by
  obtain ⟨es, c, hb, he⟩ := h
  have hf := find_run key es.toList ps he w
  have hp := put_at key v ps 0
  cases e : findS key ps 0 with
  | none =>
    rw [e] at hp hf
    simp only [Option.map_none] at hf
    have ht := map_turn hb (es.push ⟨.string key, v.agg, c⟩) (c + 1) (ps := ps ++ [(key, v)]) (by rw [Array.toList_push, List.map_append, List.map_append]; exact congrArg (· ++ [kvS (key, v)]) he)
    refine ⟨_, ?_, by rw [hp]; exact ht.1, ht.2⟩
    simp [Instr.mapUpdate, run_underlying Tryd.underlying76, MapKept.run_getObj_map hb, check_run, hf, MapKept.run_setObj_map _ hb, Result.andThen, setBlock]
  | some q =>
    obtain ⟨j, u⟩ := q
    rw [e] at hp hf
    simp only [Option.map_some] at hf
    obtain ⟨d, hd, hg⟩ := find_at key ps 0 j u e
    obtain rfl : d = j := by omega
    have hlen : es.size = ps.length := by
      have := congrArg List.length he
      simpa using this
    have hjl : d < es.size := by
      have := (List.getElem?_eq_some_iff.1 hg).1
      omega
    have hkey : (es[d]'hjl).key = .string key := by
      have h1 : (es.toList.map kvOf)[d]? = some (kvOf (es[d]'hjl)) := by
        rw [List.getElem?_map, Array.getElem?_toList, Array.getElem?_eq_getElem hjl]; rfl
      have h2 : (es.toList.map kvOf)[d]? = some (kvS (key, u)) := by
        have : es.toList.map kvOf = ps.map kvS := he
        rw [this, List.getElem?_map, hg]; rfl
      exact congrArg Prod.fst (Option.some.inj (h1.symm.trans h2))
    have hj : es[d]? = some (es[d]'hjl) := Array.getElem?_eq_getElem hjl
    have ht := map_turn hb (es.modify d (fun e' => { e' with key := .string key, val := v.agg })) c (ps := ps.modify d (fun x => (x.1, v))) (by
      rw [Array.toList_modify]
      apply List.ext_getElem?
      intro n
      have hn : (es.toList.map kvOf)[n]? = (ps.map kvS)[n]? := by
        have : es.toList.map kvOf = ps.map kvS := he
        rw [this]
      rw [List.getElem?_map, List.getElem?_map] at hn
      rw [List.getElem?_map, List.getElem?_map, List.getElem?_modify, List.getElem?_modify]
      by_cases c : d = n
      · subst c
        rw [hg, Array.getElem?_toList, hj]
        simp
      · simp only [if_neg c]
        cases h3 : es.toList[n]? with
        | none => cases h4 : ps[n]? with
          | none => rfl
          | some y => rw [h3, h4] at hn; cases hn
        | some x => cases h4 : ps[n]? with
          | none => rw [h3, h4] at hn; cases hn
          | some y => rw [h3, h4] at hn; exact hn)
    refine ⟨_, ?_, by rw [hp]; exact ht.1, ht.2⟩
    simp [Instr.mapUpdate, run_underlying Tryd.underlying76, MapKept.run_getObj_map hb, check_run, hf, hj, hkey, stays_run, MapKept.run_setObj_map _ hb, Result.andThen, setBlock]
theorem del_run {w : World} {m : Nat} {ps : List (ByteArray × Val)} (h : MapAt w m ps) (key : ByteArray) (ty : TypeId) :
    ∃ w', (Builtin.delete_ #[76, 9] ty #[.map (some m), .string key]).run Tryd.prog w = .ok (.tuple #[]) w' ∧ MapAt w' m (delS ps key) ∧ w.grownBy w' (some m) := by
  obtain ⟨es, c, hb, he⟩ := h
  have hf := find_run key es.toList ps he w
  have hp := del_at key ps 0
  cases e : findS key ps 0 with
  | none =>
    rw [e] at hp hf
    simp only [Option.map_none] at hf
    have ht := map_turn hb es c (ps := ps) he
    refine ⟨_, ?_, by rw [hp]; exact ht.1, ht.2⟩
    simp [Builtin.delete_, run_underlying Tryd.underlying76, MapKept.run_getObj_map hb, check_run, hf, MapKept.run_setObj_map _ hb, Result.andThen, setBlock]
  | some q =>
    obtain ⟨j, u⟩ := q
    rw [e] at hp hf
    simp only [Option.map_some] at hf
    obtain ⟨d, hd, hg⟩ := find_at key ps 0 j u e
    obtain rfl : d = j := by omega
    have ht := map_turn hb (es.eraseIdxIfInBounds d) c (ps := ps.eraseIdx d) (by
      have h0 : es.toList.map kvOf = ps.map kvS := he
      rw [Array.toList_eraseIdxIfInBounds, Go.ChangeMaps.map_eraseIdx, Go.ChangeMaps.map_eraseIdx, h0])
    refine ⟨_, ?_, by rw [hp]; exact ht.1, ht.2⟩
    simp [Builtin.delete_, run_underlying Tryd.underlying76, MapKept.run_getObj_map hb, check_run, hf, MapKept.run_setObj_map _ hb, Result.andThen, setBlock]
/-! ### at the operation, for the walk -/
section
variable {ops : Array Oper} {rest : List Oper} {o : Oper} {a : Act} {Q : Exit → Act → World → Prop}
theorem wpList_look (w : World) (hg : o.guard = none) (m x : Operand) (hop : o.op = Op.lookup 76 m x true) (mb : Nat) (key : ByteArray) (ps : List (ByteArray × Val)) (hm : a.eval m = .map (some mb)) (hx : a.eval x = .string key) (h : MapAt w mb ps)
    (hK : wpList Tryd.prog ops Q rest (a.put o.dst (.tuple #[((lookS ps key).getD Val.zero).agg, .bool (lookS ps key).isSome])) w) : wpList Tryd.prog ops Q (o :: rest) a w := by
  refine wpList_plain hg fun K' hK' => ?_
  have hr := look_run h key
  unfold Oper.wp
  simp only [execOp, hop, hm, hx, Sem.run_bind, hr, Result.andThen_ok, Sem.run_pure]
  exact hK' _ _ hK
theorem wpList_put (w : World) (hg : o.guard = none) (m x y : Operand) (hop : o.op = Op.mapUpdate 76 m x y) (mb : Nat) (key : ByteArray) (v : Val) (ps : List (ByteArray × Val)) (hm : a.eval m = .map (some mb)) (hx : a.eval x = .string key) (hy : a.eval y = v.agg) (h : MapAt w mb ps)
    (hK : ∀ w', MapAt w' mb (putS ps key v) → w.grownBy w' (some mb) → wpList Tryd.prog ops Q rest (a.put o.dst undef) w') : wpList Tryd.prog ops Q (o :: rest) a w := by
  refine wpList_plain hg fun K' hK' => ?_
  obtain ⟨w', hr, h1, h2⟩ := put_run h key v
  unfold Oper.wp
  simp [execOp, hop, hm, hx, hy, hr, Result.andThen]
  exact hK' _ _ (hK w' h1 h2)
theorem wpList_del (w : World) (hg : o.guard = none) (m x : Operand) (hop : o.op = Op.call { callee := Callee.builtin Builtin.delete, args := #[m, x], argTypes := #[76, 9] }) (mb : Nat) (key : ByteArray) (ps : List (ByteArray × Val)) (hm : a.eval m = .map (some mb)) (hx : a.eval x = .string key) (h : MapAt w mb ps)
    (hK : ∀ w', MapAt w' mb (delS ps key) → w.grownBy w' (some mb) → wpList Tryd.prog ops Q rest (a.put o.dst (.tuple #[])) w') : wpList Tryd.prog ops Q (o :: rest) a w := by
  refine wpList_plain hg fun K' hK' => ?_
  obtain ⟨w', hr, h1, h2⟩ := del_run h key o.type
  unfold Oper.wp
  simp [execOp, hop, resolve, invoke, builtin, hm, hx, hr, Result.andThen]
  exact hK' _ _ (hK w' h1 h2)
end
end
section
theorem below_set0 {B : Nat} {a w : World} (h : Below B a w) (j : Nat) (u : Value) : Below B a (w.setCell ⟨B, j, none⟩ u) := h.setCell (Nat.le_refl _) u
theorem below_setk {B : Nat} {a w : World} (h : Below B a w) (k j : Nat) (u : Value) : Below B a (w.setCell ⟨B + k, j, none⟩ u) := h.setCell (Nat.le_add_right _ _) u
def lengthKey : ByteArray := ⟨#[0, 108, 0, 101, 0, 110, 0, 103, 0, 116, 0, 104]⟩
/-- An object by its number. -/
def objS (σ : HSt) (i : Int) : Option OSt := if 0 ≤ i then σ.objs[i.toNat]? else none
theorem objS_some {σ : HSt} {i : Int} {o : OSt} (h : objS σ i = some o) : 0 ≤ i ∧ i < σ.objs.length ∧ σ.objs[i.toNat]? = some o := by
  unfold objS at h
  split at h
  · have := (List.getElem?_eq_some_iff.1 h).1
    exact ⟨by assumption, by omega, h⟩
  · cases h
theorem objS_none {σ : HSt} {i : Int} (h : objS σ i = none) : ¬ Has σ i := by
  unfold objS at h
  intro ⟨h0, h1⟩
  rw [if_pos h0] at h
  have := List.getElem?_eq_none_iff.1 h
  omega
/-- An object's place, and what its cells say. -/
theorem HeapAt.obj {w : World} {B p : Nat} {K : List (Nat × Obj)} {σ : HSt} {ov : Value} {Ls : List Lay} (h : HeapAt w B K p σ ov Ls) {i : Int} {o : OSt} (ho : objS σ i = some o) : ∃ L, Ls[i.toNat]? = some L ∧ 0 ≤ i ∧ ObjAt w B L o := by
  obtain ⟨h0, h1, h2⟩ := objS_some ho
  have hl : i.toNat < Ls.length := by rw [h.len]; omega
  exact ⟨_, List.getElem?_eq_getElem hl, h0, h.objs _ _ _ (List.getElem?_eq_getElem hl) h2⟩
theorem ObjAt.cell {w : World} {B : Nat} {L : Lay} {o : OSt} (h : ObjAt w B L o) : w.cell? ⟨L.ob, 0, none⟩ = some (.int .i64 o.kind) ∧ w.cell? ⟨L.ob, 1, none⟩ = some (.int .i64 o.proto) ∧ w.cell? ⟨L.ob, 5, none⟩ = some L.kv ∧ w.cell? ⟨L.ob, 6, none⟩ = some (.map (some L.mb)) ∧ w.cell? ⟨L.ob, 7, none⟩ = some L.iv := by
  refine ⟨?_, ?_, ?_, ?_, ?_⟩ <;> rw [cell_in h.block] <;> rfl
def lookV (o : OSt) (key : ByteArray) : Val × Bool := ((lookS o.props key).getD Val.zero, (lookS o.props key).isSome)
theorem own_none {w : World} {B p : Nat} {K : List (Nat × Obj)} {σ : HSt} {ov : Value} {Ls : List Lay} (h : HeapAt w B K p σ ov Ls) (hf : Fit σ) (i : Int) (key : ByteArray) (ho : objS σ i = none) :
    Calls Tryd.prog 20 #[.pointer (some ⟨p, 0, none⟩), .int .i64 i, .string key] w fun e w' => e = .returned (.tuple #[Val.zero.agg, .bool false]) ∧ Below w.heap.size w w' := by
  have h1 := h.alloc (.cells #[.int .i64 0, .float .f64 0, .string ⟨#[]⟩, .int .i64 0] 33)
  have HC := Aside0.mk (at_nil h1 (by have := hf.objs; have := h.len; omega) i (by rw [h.len]; exact objS_none ho))
  clear h h1 hf ho
  go_enter Tryd.func20, Tryd.ntmps20
  go_wp2_with (go_at_call 40; refine (HC.out).mono ?_; rintro e w' ⟨rfl, rfl⟩)
  exact bodyPost_ret (v := .tuple #[Val.zero.agg, .bool false]) (by simp [results, Tryd.results20, go_sem, Val.zero]) rfl ⟨rfl, by repeat (with_reducible first | exact Below.refl _ _ | apply below_alloc | apply pw_below_drewN | apply below_drew1 | apply below_set0 | apply below_setk)⟩
theorem own_look {w : World} {B p : Nat} {K : List (Nat × Obj)} {σ : HSt} {ov : Value} {Ls : List Lay} (h : HeapAt w B K p σ ov Ls) (hf : Fit σ) (i : Int) (key : ByteArray) (o : OSt) (ho : objS σ i = some o) (hk : o.kind ≠ 2) :
    Calls Tryd.prog 20 #[.pointer (some ⟨p, 0, none⟩), .int .i64 i, .string key] w fun e w' => e = .returned (.tuple #[(lookV o key).1.agg, .bool (lookV o key).2]) ∧ Below w.heap.size w w' := by
  have h1 := h.alloc (.cells #[.int .i64 0, .float .f64 0, .string ⟨#[]⟩, .int .i64 0] 33)
  obtain ⟨L, hL, h0, hobj⟩ := h1.obj ho
  have HC := Aside0.mk (at_obj h1 (by have := hf.objs; have := h.len; omega) i h0 hL)
  have d1 : (o.kind == 2) = false := beq_eq_false_iff_ne.mpr hk
  obtain ⟨x0, x1, x5, x6, x7⟩ := hobj.cell
  have HM := Aside0.mk hobj.props
  obtain ⟨V, hV⟩ : ∃ V, lookV o key = V := ⟨_, rfl⟩
  have HV := Aside0.mk (show ((lookS o.props key).getD Val.zero, (lookS o.props key).isSome) = V from hV)
  rw [hV]
  clear h h1 hf ho hL h0 hobj hk x1 x5 x7 hV
  go_enter Tryd.func20, Tryd.ntmps20
  go_wp2_with (first | (go_at_call 40; refine (HC.out).mono ?_; rintro e w' ⟨rfl, rfl⟩) | (at_lookup; refine wpList_look _ rfl _ _ rfl L.mb key o.props rfl rfl HM.out ?_))
  refine bodyPost_ret (v := .tuple #[((lookS o.props key).getD Val.zero).agg, .bool (lookS o.props key).isSome]) (by simp [results, Tryd.results20, go_sem]) rfl ⟨by rw [← HV.out], by repeat (with_reducible first | exact Below.refl _ _ | apply below_alloc | apply pw_below_drewN | apply below_drew1 | apply below_set0 | apply below_setk)⟩
theorem own_len {w : World} {B p : Nat} {K : List (Nat × Obj)} {σ : HSt} {ov : Value} {Ls : List Lay} (h : HeapAt w B K p σ ov Ls) (hf : Fit σ) (i : Int) (o : OSt) (ho : objS σ i = some o) (hk : o.kind = 2) (hi : o.items.length ≤ 100000) :
    Calls Tryd.prog 20 #[.pointer (some ⟨p, 0, none⟩), .int .i64 i, .string lengthKey] w fun e w' => e = .returned (.tuple #[(numV (floatOfInt .f64 o.items.length)).agg, .bool true]) ∧ Below w.heap.size w w' := by
  have h1 := h.alloc (.cells #[.int .i64 0, .float .f64 0, .string ⟨#[]⟩, .int .i64 0] 33)
  obtain ⟨L, hL, h0, hobj⟩ := h1.obj ho
  have HC := Aside0.mk (at_obj h1 (by have := hf.objs; have := h.len; omega) i h0 hL)
  have d1 : (o.kind == 2) = true := beq_iff_eq.mpr hk
  obtain ⟨x0, x1, x5, x6, x7⟩ := hobj.cell
  obtain ⟨A, c, hiv⟩ := own_slice hobj.items
  rw [hiv] at x7
  unfold lengthKey
  clear h h1 hf ho hL h0 hobj hk x1 x5 x6 hiv
  go_enter Tryd.func20, Tryd.ntmps20
  go_wp2_with (first | (go_at_call 40; refine (HC.out).mono ?_; rintro e w' ⟨rfl, rfl⟩))
  exact bodyPost_ret (v := .tuple #[(numV (floatOfInt .f64 o.items.length)).agg, .bool true]) (by simp [results, Tryd.results20, go_sem]) rfl ⟨rfl, by repeat (with_reducible first | exact Below.refl _ _ | apply below_alloc | apply pw_below_drewN | apply below_drew1 | apply below_set0 | apply below_setk)⟩
/-- A key of an array that is no index. -/
theorem own_look2 {w : World} {B p : Nat} {K : List (Nat × Obj)} {σ : HSt} {ov : Value} {Ls : List Lay} (h : HeapAt w B K p σ ov Ls) (hf : Fit σ) (i : Int) (key : ByteArray) (hks : key.size ≤ 140737488351232) (o : OSt) (ho : objS σ i = some o) (hk : o.kind = 2) (hl : key ≠ lengthKey) (hx : (idxR key).2 = false) :
    Calls Tryd.prog 20 #[.pointer (some ⟨p, 0, none⟩), .int .i64 i, .string key] w fun e w' => e = .returned (.tuple #[(lookV o key).1.agg, .bool (lookV o key).2]) ∧ Below w.heap.size w w' := by
  have h1 := h.alloc (.cells #[.int .i64 0, .float .f64 0, .string ⟨#[]⟩, .int .i64 0] 33)
  obtain ⟨L, hL, h0, hobj⟩ := h1.obj ho
  have HC := Aside0.mk (at_obj h1 (by have := hf.objs; have := h.len; omega) i h0 hL)
  have HX := fun w => Aside0.mk (index_calls key hks w)
  rw [hx] at HX
  have d1 : (o.kind == 2) = true := beq_iff_eq.mpr hk
  have d2 : (key.toList == ([0, 108, 0, 101, 0, 110, 0, 103, 0, 116, 0, 104] : List UInt8)) = false := by
    rw [Lib.toList_data]
    refine beq_eq_false_iff_ne.2 (fun e => hl ?_)
    apply ByteArray.ext
    exact Array.toList_inj.1 e
  obtain ⟨x0, x1, x5, x6, x7⟩ := hobj.cell
  have HM := Aside0.mk (fun n => MapAt.move (w' := (w.alloc (.cells #[.int .i64 0, .float .f64 0, .string ⟨#[]⟩, .int .i64 0] 33)).drewN n) hobj.props rfl)
  obtain ⟨V, hV⟩ : ∃ V, lookV o key = V := ⟨_, rfl⟩
  have HV := Aside0.mk (show ((lookS o.props key).getD Val.zero, (lookS o.props key).isSome) = V from hV)
  rw [hV]
  clear h h1 hf ho hL h0 hobj hk x1 x5 x7 hV hl hx
  go_enter Tryd.func20, Tryd.ntmps20
  go_wp2_with (first | (go_at_call 40; refine (HC.out).mono ?_; rintro e w' ⟨rfl, rfl⟩) | (go_at_call 9; refine ((HX _).out).mono ?_; rintro e w' ⟨rfl, ⟨nd, rfl⟩⟩) | (at_lookup; refine wpList_look _ rfl _ _ rfl L.mb key o.props rfl rfl (HM.out _) ?_))
  refine bodyPost_ret (v := .tuple #[((lookS o.props key).getD Val.zero).agg, .bool (lookS o.props key).isSome]) (by simp [results, Tryd.results20, go_sem]) rfl ⟨by rw [← HV.out], by repeat (with_reducible first | exact Below.refl _ _ | apply below_alloc | apply pw_below_drewN | apply below_drew1 | apply below_set0 | apply below_setk)⟩
end
section
theorem flat_at : ∀ (its : List Val) (n j : Nat) (v : Val), its[n]? = some v → j < 4 → (its.flatMap Val.vs)[n * 4 + j]? = v.vs[j]?
  | [], n, j, v, h, _ => by simp at h
  | x :: t, 0, j, v, h, hj => by
    obtain rfl : x = v := by simpa using h
    rw [List.flatMap_cons, Nat.zero_mul, Nat.zero_add, List.getElem?_append_left (by simpa [Val.vs] using hj)]
  | x :: t, n + 1, j, v, h, hj => by
    have ih := flat_at t n j v (by simpa using h) hj
    rw [List.flatMap_cons, List.getElem?_append_right (by simp [Val.vs]; omega)]
    rw [show (n + 1) * 4 + j - x.vs.length = n * 4 + j by simp [Val.vs]; omega]
    exact ih
theorem items_at {w : World} {B : Nat} {iv : Value} {its : List Val} (h : w.ownsRow B 33 4 iv its.length (its.flatMap Val.vs)) {n : Nat} {v : Val} (hv : its[n]? = some v) :
    ∃ g c, iv = .slice (some ⟨g, 0, none⟩) its.length c ∧ B ≤ g ∧ w.cell? ⟨g, n * 4, none⟩ = some (.int .i64 v.kind) ∧ w.cell? ⟨g, n * 4 + 1, none⟩ = some (.float .f64 v.num) ∧ w.cell? ⟨g, n * 4 + 2, none⟩ = some (.string v.text) ∧ w.cell? ⟨g, n * 4 + 3, none⟩ = some (.int .i64 v.ref) ∧
      (∀ j, w.frozen? ⟨g, j, none⟩ = false) := by
  have hn : n < its.length := (List.getElem?_eq_some_iff.1 hv).1
  obtain ⟨h1, h2⟩ := h
  rcases h2 with ⟨rfl, h0⟩ | ⟨g, cap, cur, rfl, hb, hg, hc, hm, hs, ht⟩
  · omega
  · have key : ∀ j, j < 4 → w.cell? ⟨g, n * 4 + j, none⟩ = v.vs[j]? := by
      intro j hj
      rw [cell_in hg, ← flat_at its n j v hv hj, ← ht, List.getElem?_take_of_lt (by omega)]
      simp
    exact ⟨g, cap, rfl, hb, key 0 (by omega), key 1 (by omega), key 2 (by omega), key 3 (by omega), fun j => free_in hg⟩
set_option maxHeartbeats 1000000 in
theorem own_item {w : World} {B p : Nat} {K : List (Nat × Obj)} {σ : HSt} {ov : Value} {Ls : List Lay} (h : HeapAt w B K p σ ov Ls) (hf : Fit σ) (i : Int) (key : ByteArray) (hks : key.size ≤ 140737488351232) (o : OSt) (ho : objS σ i = some o) (hk : o.kind = 2) (hl : key ≠ lengthKey) (n : Nat) (v : Val) (hx : idxR key = ((n : Int), true)) (hv : o.items[n]? = some v) (hi : o.items.length ≤ 100000) :
    Calls Tryd.prog 20 #[.pointer (some ⟨p, 0, none⟩), .int .i64 i, .string key] w fun e w' => e = .returned (.tuple #[v.agg, .bool true]) ∧ Below w.heap.size w w' := by
  have h1 := h.alloc (.cells #[.int .i64 0, .float .f64 0, .string ⟨#[]⟩, .int .i64 0] 33)
  obtain ⟨L, hL, h0, hobj⟩ := h1.obj ho
  have HC := Aside0.mk (at_obj h1 (by have := hf.objs; have := h.len; omega) i h0 hL)
  have HX := fun w => Aside0.mk (index_calls key hks w)
  rw [hx] at HX
  have d1 : (o.kind == 2) = true := beq_iff_eq.mpr hk
  have d2 : (key.toList == ([0, 108, 0, 101, 0, 110, 0, 103, 0, 116, 0, 104] : List UInt8)) = false := by
    rw [Lib.toList_data]
    refine beq_eq_false_iff_ne.2 (fun e => hl ?_)
    apply ByteArray.ext
    exact Array.toList_inj.1 e
  obtain ⟨x0, x1, x5, x6, x7⟩ := hobj.cell
  obtain ⟨g, c, hiv, hg, y0, y1, y2, y3, yf⟩ := items_at hobj.items hv
  rw [hiv] at x7
  have hn : n < o.items.length := (List.getElem?_eq_some_iff.1 hv).1
  have d3 : decide (o.items.length ≤ n) = false := decide_eq_false (by omega)
  clear h h1 hf ho hL h0 hobj hk x1 x5 x6 hl hx hiv hv
  go_enter Tryd.func20, Tryd.ntmps20
  go_wp2_with (first | (go_at_call 40; refine (HC.out).mono ?_; rintro e w' ⟨rfl, rfl⟩) | (go_at_call 9; refine ((HX _).out).mono ?_; rintro e w' ⟨rfl, ⟨nd, rfl⟩⟩))
  exact bodyPost_ret (v := .tuple #[v.agg, .bool true]) (by simp [results, Tryd.results20, go_sem]) rfl ⟨rfl, by repeat (with_reducible first | exact Below.refl _ _ | apply below_alloc | apply pw_below_drewN | apply below_drew1 | apply below_set0 | apply below_setk)⟩
set_option maxHeartbeats 1000000 in
theorem own_past {w : World} {B p : Nat} {K : List (Nat × Obj)} {σ : HSt} {ov : Value} {Ls : List Lay} (h : HeapAt w B K p σ ov Ls) (hf : Fit σ) (i : Int) (key : ByteArray) (hks : key.size ≤ 140737488351232) (o : OSt) (ho : objS σ i = some o) (hk : o.kind = 2) (hl : key ≠ lengthKey) (n : Nat) (hx : idxR key = ((n : Int), true)) (hv : o.items.length ≤ n) (hi : o.items.length ≤ 100000) :
    Calls Tryd.prog 20 #[.pointer (some ⟨p, 0, none⟩), .int .i64 i, .string key] w fun e w' => e = .returned (.tuple #[Val.zero.agg, .bool false]) ∧ Below w.heap.size w w' := by
  have h1 := h.alloc (.cells #[.int .i64 0, .float .f64 0, .string ⟨#[]⟩, .int .i64 0] 33)
  obtain ⟨L, hL, h0, hobj⟩ := h1.obj ho
  have HC := Aside0.mk (at_obj h1 (by have := hf.objs; have := h.len; omega) i h0 hL)
  have HX := fun w => Aside0.mk (index_calls key hks w)
  rw [hx] at HX
  have d1 : (o.kind == 2) = true := beq_iff_eq.mpr hk
  have d2 : (key.toList == ([0, 108, 0, 101, 0, 110, 0, 103, 0, 116, 0, 104] : List UInt8)) = false := by
    rw [Lib.toList_data]
    refine beq_eq_false_iff_ne.2 (fun e => hl ?_)
    apply ByteArray.ext
    exact Array.toList_inj.1 e
  obtain ⟨x0, x1, x5, x6, x7⟩ := hobj.cell
  obtain ⟨A, c, hiv⟩ := own_slice hobj.items
  rw [hiv] at x7
  have d3 : decide (o.items.length ≤ n) = true := decide_eq_true hv
  clear h h1 hf ho hL h0 hobj hk x1 x5 x6 hl hx hiv hv
  go_enter Tryd.func20, Tryd.ntmps20
  go_wp2_with (first | (go_at_call 40; refine (HC.out).mono ?_; rintro e w' ⟨rfl, rfl⟩) | (go_at_call 9; refine ((HX _).out).mono ?_; rintro e w' ⟨rfl, ⟨nd, rfl⟩⟩))
  exact bodyPost_ret (v := .tuple #[Val.zero.agg, .bool false]) (by simp [results, Tryd.results20, go_sem, Val.zero]) rfl ⟨rfl, by repeat (with_reducible first | exact Below.refl _ _ | apply below_alloc | apply pw_below_drewN | apply below_drew1 | apply below_set0 | apply below_setk)⟩
theorem idx_nat (us : List Nat) : ∀ (n : Nat) (f : Bool), (idxGo us n f).2 = true → ∃ m : Nat, idxGo us n f = ((m : Int), true) ∧ m ≤ 2147483647 := by
  induction us with
  | nil =>
    intro n f h
    unfold idxGo at h ⊢
    split at h
    · cases h
    · rename_i hc
      rw [if_neg hc]
      exact ⟨n, rfl, by omega⟩
  | cons u t ih =>
    intro n f h
    unfold idxGo at h ⊢
    split at h
    · cases h
    · rename_i c1
      rw [if_neg c1]
      split at h
      · cases h
      · rename_i c2
        rw [if_neg c2]
        split at h
        · cases h
        · rename_i c3
          rw [if_neg c3]
          exact ih _ _ h
theorem idxR_nat (key : ByteArray) (h : (idxR key).2 = true) : ∃ m : Nat, idxR key = ((m : Int), true) ∧ m ≤ 2147483647 := by
  unfold idxR at h ⊢
  split at h
  · rename_i c
    rw [if_pos c]
    exact idx_nat _ _ _ h
  · cases h
/-- What Own tells. -/
def ownO (o : OSt) (key : ByteArray) : Val × Bool :=
  if o.kind = 2 then (if key = lengthKey then (numV (floatOfInt .f64 o.items.length), true) else if (idxR key).2 = true then (match o.items[(idxR key).1.toNat]? with | some v => (v, true) | none => (Val.zero, false)) else lookV o key)
  else lookV o key
def ownS (σ : HSt) (i : Int) (key : ByteArray) : Val × Bool := match objS σ i with | some o => ownO o key | none => (Val.zero, false)
theorem own_calls {w : World} {B p : Nat} {K : List (Nat × Obj)} {σ : HSt} (hok : HeapOk w B K p σ) (hf : Fit σ) (i : Int) (key : ByteArray) (hks : key.size ≤ 140737488351232) (hit : ∀ o ∈ σ.objs, o.items.length ≤ 100000) :
    Calls Tryd.prog 20 #[.pointer (some ⟨p, 0, none⟩), .int .i64 i, .string key] w fun e w' => e = .returned (.tuple #[(ownS σ i key).1.agg, .bool (ownS σ i key).2]) ∧ Below w.heap.size w w' := by
  obtain ⟨ov, Ls, h⟩ := hok
  unfold ownS
  cases ho : objS σ i with
  | none => exact own_none h hf i key ho
  | some o =>
    have hi := hit o (List.mem_of_getElem? (objS_some ho).2.2)
    simp only
    unfold ownO
    by_cases c1 : o.kind = 2
    · rw [if_pos c1]
      by_cases c2 : key = lengthKey
      · rw [if_pos c2]
        subst c2
        exact own_len h hf i o ho c1 hi
      · rw [if_neg c2]
        by_cases c3 : (idxR key).2 = true
        · rw [if_pos c3]
          obtain ⟨m, hm, _⟩ := idxR_nat key c3
          rw [hm, Int.toNat_natCast]
          cases hv : o.items[m]? with
          | none => exact own_past h hf i key hks o ho c1 c2 m hm (List.getElem?_eq_none_iff.1 hv) hi
          | some v => exact own_item h hf i key hks o ho c1 c2 m v hm hv hi
        · rw [if_neg c3]
          exact own_look2 h hf i key hks o ho c1 c2 (Bool.eq_false_iff.2 c3)
    · rw [if_neg c1]
      exact own_look h hf i key o ho c1
end
section
def holdS (σ : HSt) (key : ByteArray) : Nat → Int → Option Int
  | 0, _ => none
  | k + 1, i => match objS σ i with | none => some (-1) | some o => if (ownS σ i key).2 = true then some i else holdS σ key k o.proto
/-- A prototype is older than its children. -/
def Desc (σ : HSt) : Prop := ∀ (i : Nat) o, σ.objs[i]? = some o → o.proto < i
theorem holdS_some {σ : HSt} (hd : Desc σ) (key : ByteArray) : ∀ (k : Nat) (i : Int), i < k → ∃ r, holdS σ key (k + 1) i = some r := by
  intro k
  induction k with
  | zero =>
    intro i hi
    unfold holdS
    have : objS σ i = none := by unfold objS; rw [if_neg (by omega)]
    rw [this]
    exact ⟨_, rfl⟩
  | succ k ih =>
    intro i hi
    unfold holdS
    cases ho : objS σ i with
    | none => exact ⟨_, rfl⟩
    | some o =>
      simp only
      split
      · exact ⟨_, rfl⟩
      · obtain ⟨h0, h1, h2⟩ := objS_some ho
        exact ih _ (by have := hd _ _ h2; omega)
/-- The holder, whole. -/
def holderS (σ : HSt) (i : Int) (key : ByteArray) : Int := (holdS σ key (σ.objs.length + 1) (if Has σ i then i else -1)).getD (-1)
theorem HeapAt.facts {w : World} {B p : Nat} {K : List (Nat × Obj)} {σ : HSt} {ov : Value} {Ls : List Lay} (h : HeapAt w B K p σ ov Ls) {i : Int} {o : OSt} (ho : objS σ i = some o) :
    ∃ g c ob, ov = .slice (some ⟨g, 0, none⟩) Ls.length c ∧ w.cell? ⟨p, 0, none⟩ = some (.slice (some ⟨g, 0, none⟩) Ls.length c) ∧ w.cell? ⟨g, i.toNat, none⟩ = some (.pointer (some ⟨ob, 0, none⟩)) ∧ w.cell? ⟨ob, 1, none⟩ = some (.int .i64 o.proto) ∧ p < w.heap.size ∧ g < w.heap.size ∧ ob < w.heap.size := by
  obtain ⟨L, hL, h0, hobj⟩ := h.obj ho
  obtain ⟨A, c, rfl, hs⟩ := h.slice
  obtain ⟨g, rfl, hg⟩ := hs _ _ hL
  refine ⟨g, c, L.ob, rfl, h.cell0, hg, hobj.cell.2.1, h.top_lt, ?_, ?_⟩
  · unfold World.cell? at hg
    cases hh : w.heap[g]? with
    | none => simp [hh] at hg
    | some x => exact (Array.getElem?_eq_some_iff.1 hh).1
  · exact (Array.getElem?_eq_some_iff.1 hobj.block).1
set_option maxHeartbeats 4000000 in
set_option maxRecDepth 100000 in
theorem hold_calls (k : Nat) {w : World} {B p : Nat} {K : List (Nat × Obj)} {σ : HSt} (hok : HeapOk w B K p σ) (hf : Fit σ) (i : Int) (key : ByteArray) (hks : key.size ≤ 140737488351232) (hit : ∀ o ∈ σ.objs, o.items.length ≤ 100000) (r : Int) (hr : holdS σ key k i = some r) :
    Calls Tryd.prog 44 #[.pointer (some ⟨p, 0, none⟩), .int .i64 i, .string key] w fun e w' => e = .returned (.int .i64 r) ∧ Below w.heap.size w w' := by
  obtain ⟨ov, Ls, h⟩ := hok
  have H := Aside0.mk h
  have HH := Aside0.mk hr
  have HF := Aside0.mk hf
  have HI := Aside0.mk hit
  have HKS := Aside0.mk hks
  have HB := Aside0.mk (Below.refl w.heap.size w)
  clear h hf hit hr hks
  go_enter Tryd.func44, Tryd.ntmps44
  go_wp2
  go_loopg [1] k (fun kq v1 w' => ∃ (x : Int), v1 = .int .i64 x ∧ Aside0 (holdS σ key kq x = some r) ∧ Aside0 (kq ≤ k) ∧ Aside0 (Below w.heap.size w w'))
  case atStart => exact ⟨i, rfl, HH, ⟨Nat.le_refl _⟩, HB⟩
  case round =>
    clear HH HB
    obtain ⟨x, rfl, HA, HK, HB⟩ := hrel
    cases gk with
    | zero => exact absurd HA.out (by simp [holdS])
    | succ k1 =>
      have HA1 := HA.out
      clear HA
      unfold holdS at HA1
      have h1 := Aside0.mk (H.out.below HB.out)
      cases ho : objS σ x with
      | none =>
        rw [ho] at HA1
        simp only [Option.some.injEq] at HA1
        subst HA1
        have HC := Aside0.mk (at_nil h1.out (by have := HF.out.objs; have := h1.out.len; omega) x (by rw [h1.out.len]; exact objS_none ho))
        clear ho
        go_wp2_with (go_at_call 40; refine (HC.out).mono ?_; rintro e w' ⟨rfl, rfl⟩)
        go_ret
        exact ⟨rfl, HB.out⟩
      | some o =>
        rw [ho] at HA1
        simp only at HA1
        obtain ⟨L, hL, h0, hobj⟩ := h1.out.obj ho
        have HC := Aside0.mk (at_obj h1.out (by have := HF.out.objs; have := h1.out.len; omega) x h0 hL)
        have HO := Aside0.mk (own_calls ⟨ov, Ls, h1.out⟩ HF.out x key HKS.out HI.out)
        have hlt : x < Ls.length := by have := (objS_some ho).2.1; have := h1.out.len; omega
        have hlen : Ls.length ≤ 100000 := by have := HF.out.objs; have := h1.out.len; omega
        generalize ownS σ x key = R at *
        obtain ⟨v, b⟩ := R
        cases b with
        | true =>
          simp only [if_pos] at HA1
          obtain rfl := Option.some.inj HA1
          clear hobj hL ho h0 hlt hlen
          go_wp2_with (first | (go_at_call 40; refine (HC.out).mono ?_; rintro e w' ⟨rfl, rfl⟩) | (go_at_call 20; refine (HO.out).mono ?_; rintro e w5 ⟨rfl, hb⟩; have n0_ := Aside0.mk (below_step HB.out hb); clear HB hb))
          go_ret
          exact ⟨rfl, by repeat (with_reducible first | exact n0_.out | apply below_alloc | apply pw_below_drewN | apply below_drew1 | apply below_set0 | apply below_setk)⟩
        | false =>
          simp only [if_neg, Bool.false_eq_true, if_false] at HA1
          have HA2 := Aside0.mk HA1
          clear HA1
          have HX := Aside0.mk ho
          have q0 := eq_true h0
          have q1 := eq_true hlt
          clear hobj hL ho h0 hlt
          go_wp2_with (first | (go_at_call 40; refine (HC.out).mono ?_; rintro e w' ⟨rfl, rfl⟩) | (go_at_call 20; refine (HO.out).mono ?_; rintro e w5 ⟨rfl, hb⟩; have n0_ := Aside0.mk (below_step HB.out hb); obtain ⟨g, c, ob, f0, f1, f2, f3, f4, f5, f6⟩ := ((H.out.below n0_.out).alloc (.cells #[.int .i64 v.kind, .float .f64 v.num, .string v.text, .int .i64 v.ref] 33)).facts HX.out; clear f4 f5 f6; clear HB hb h1 HC HO f0))
          go_roundg k1
          case measure => have := HK.out; omega
          case rel => exact ⟨_, rfl, HA2, ⟨by have := HK.out; omega⟩, ⟨by repeat (with_reducible first | exact n0_.out | apply below_alloc | apply pw_below_drewN | apply below_drew1 | apply below_set0 | apply below_setk)⟩⟩
theorem holder_calls {w : World} {B p : Nat} {K : List (Nat × Obj)} {σ : HSt} (hok : HeapOk w B K p σ) (hf : Fit σ) (hd : Desc σ) (i : Int) (key : ByteArray) (hks : key.size ≤ 140737488351232) (hit : ∀ o ∈ σ.objs, o.items.length ≤ 100000) :
    Calls Tryd.prog 44 #[.pointer (some ⟨p, 0, none⟩), .int .i64 i, .string key] w fun e w' => e = .returned (.int .i64 (holderS σ i key)) ∧ Below w.heap.size w w' := by
  by_cases hi : Has σ i
  · obtain ⟨r, hr⟩ := holdS_some hd key σ.objs.length i hi.2
    have : holderS σ i key = r := by unfold holderS; rw [if_pos hi, hr]; rfl
    rw [this]
    exact hold_calls _ hok hf i key hks hit r hr
  · have e0 : objS σ i = none := by
      unfold objS
      split
      · exact List.getElem?_eq_none (by unfold Has at hi; omega)
      · rfl
    have h0 : holdS σ key 1 i = some (-1) := by unfold holdS; rw [e0]
    have h1 : holderS σ i key = -1 := by
      unfold holderS
      rw [if_neg hi]
      unfold holdS
      rw [show objS σ (-1) = none by unfold objS; rw [if_neg (by omega)]]
      rfl
    rw [h1]
    exact hold_calls _ hok hf i key hks hit _ h0
theorem four_set {w : World} {b : Nat} {a0 a1 a2 a3 : Value} (y0 : w.cell? ⟨b, 0, none⟩ = some a0) (y1 : w.cell? ⟨b, 1, none⟩ = some a1) (y2 : w.cell? ⟨b, 2, none⟩ = some a2) (y3 : w.cell? ⟨b, 3, none⟩ = some a3) (u0 u1 u2 u3 : Value) :
    ((((w.setCell ⟨b, 0, none⟩ u0).setCell ⟨b, 1, none⟩ u1).setCell ⟨b, 2, none⟩ u2).setCell ⟨b, 3, none⟩ u3).cell? ⟨b, 0, none⟩ = some u0 ∧ ((((w.setCell ⟨b, 0, none⟩ u0).setCell ⟨b, 1, none⟩ u1).setCell ⟨b, 2, none⟩ u2).setCell ⟨b, 3, none⟩ u3).cell? ⟨b, 1, none⟩ = some u1 ∧ ((((w.setCell ⟨b, 0, none⟩ u0).setCell ⟨b, 1, none⟩ u1).setCell ⟨b, 2, none⟩ u2).setCell ⟨b, 3, none⟩ u3).cell? ⟨b, 2, none⟩ = some u2 ∧ ((((w.setCell ⟨b, 0, none⟩ u0).setCell ⟨b, 1, none⟩ u1).setCell ⟨b, 2, none⟩ u2).setCell ⟨b, 3, none⟩ u3).cell? ⟨b, 3, none⟩ = some u3 := by
  have ne : ∀ i j : Nat, i ≠ j → (⟨b, i, none⟩ : Addr) ≠ ⟨b, j, none⟩ := fun i j h e => h (by injection e)
  refine ⟨?_, ?_, ?_, ?_⟩
  · rw [World.cell?_setCell_other _ _ _ _ (ne 3 0 (by decide)), World.cell?_setCell_other _ _ _ _ (ne 2 0 (by decide)), World.cell?_setCell_other _ _ _ _ (ne 1 0 (by decide))]
    exact World.cell?_setCell_same _ _ _ y0
  · rw [World.cell?_setCell_other _ _ _ _ (ne 3 1 (by decide)), World.cell?_setCell_other _ _ _ _ (ne 2 1 (by decide))]
    exact World.cell?_setCell_same _ _ _ ((World.cell?_setCell_other _ _ _ _ (ne 0 1 (by decide))).trans y1)
  · rw [World.cell?_setCell_other _ _ _ _ (ne 3 2 (by decide))]
    exact World.cell?_setCell_same _ _ _ ((World.cell?_setCell_other _ _ _ _ (ne 1 2 (by decide))).trans ((World.cell?_setCell_other _ _ _ _ (ne 0 2 (by decide))).trans y2))
  · exact World.cell?_setCell_same _ _ _ ((World.cell?_setCell_other _ _ _ _ (ne 2 3 (by decide))).trans ((World.cell?_setCell_other _ _ _ _ (ne 1 3 (by decide))).trans ((World.cell?_setCell_other _ _ _ _ (ne 0 3 (by decide))).trans y3)))
/-- What Get tells. -/
def getS (σ : HSt) (i : Int) (key : ByteArray) : Val × Bool := ownS σ (holderS σ i key) key
set_option maxHeartbeats 1000000 in
theorem get_calls {w : World} {B p : Nat} {K : List (Nat × Obj)} {σ : HSt} (hok : HeapOk w B K p σ) (hf : Fit σ) (hd : Desc σ) (i : Int) (key : ByteArray) (hks : key.size ≤ 140737488351232) (hit : ∀ o ∈ σ.objs, o.items.length ≤ 100000) :
    Calls Tryd.prog 22 #[.pointer (some ⟨p, 0, none⟩), .int .i64 i, .string key] w fun e w' => e = .returned (.tuple #[(getS σ i key).1.agg, .bool (getS σ i key).2]) ∧ Below w.heap.size w w' := by
  obtain ⟨ov, Ls, h⟩ := hok
  have hw := h.alloc (.cells #[.int .i64 0, .float .f64 0, .string ⟨#[]⟩, .int .i64 0] 33)
  have HH := Aside0.mk (holder_calls ⟨ov, Ls, hw⟩ hf hd i key hks hit)
  have HO := fun w2 hb => Aside0.mk (own_calls (w := w2) ⟨ov, Ls, hw.below hb⟩ hf (holderS σ i key) key hks hit)
  unfold getS
  generalize ownS σ (holderS σ i key) key = R at *
  obtain ⟨v, b⟩ := R
  generalize holderS σ i key = j at *
  clear h hw hf hd hit hks
  go_enter Tryd.func22, Tryd.ntmps22
  go_wp2_with (first | (go_at_call 44; refine (HH.out).mono ?_; rintro e w4 ⟨rfl, hb⟩; have HB1 := Aside0.mk hb; clear hb) | (go_at_call 20; go_must (refine ((HO _ HB1.out).out).mono ?_; rintro e w5 ⟨rfl, hb⟩; have n1_ := below_step HB1.out hb; have hblk := (n1_.block w.heap.size (by rw [World.size_alloc]; exact Nat.lt_succ_self _)).trans (heap_alloc_new w _); have y0 : w5.cell? ⟨w.heap.size, 0, none⟩ = some (.int .i64 0) := (cell_in hblk).trans rfl; have y1 : w5.cell? ⟨w.heap.size, 1, none⟩ = some (.float .f64 0) := (cell_in hblk).trans rfl; have y2 : w5.cell? ⟨w.heap.size, 2, none⟩ = some (.string ⟨#[]⟩) := (cell_in hblk).trans rfl; have y3 : w5.cell? ⟨w.heap.size, 3, none⟩ = some (.int .i64 0) := (cell_in hblk).trans rfl; have yf : ∀ j, w5.frozen? ⟨w.heap.size, j, none⟩ = false := fun j => free_in hblk; have n0_ := Aside0.mk (below_step ((Below.refl w.heap.size w).alloc (Nat.le_refl _) _) n1_); clear hb HB1 HO HH hblk n1_)))
  obtain ⟨z0, z1, z2, z3⟩ := four_set y0 y1 y2 y3 (.int .i64 v.kind) (.float .f64 v.num) (.string v.text) (.int .i64 v.ref)
  exact bodyPost_ret (v := .tuple #[v.agg, .bool b]) (by simp [results, Tryd.results22, go_sem, z0, z1, z2, z3]) rfl ⟨rfl, by repeat (with_reducible first | exact n0_.out | exact Below.refl _ _ | apply below_alloc | apply pw_below_drewN | apply below_drew1 | apply below_set0 | apply below_setk)⟩
end
end Go.Proofs.YtnfobcedbfbbiaaDoor.Hp
