/- A map of the heap's own, by its string keys: what is found there, what is put there, what is taken away. -/
import Derived.Test.YtnfobcedbfbbiaaDoorHeapE
import Derived.MapKept
import Derived.Maps.OwnSet
namespace Go.Proofs.YtnfobcedbfbbiaaDoor.Hp
open Go.ChangeMaps (setBlock heap_setBlock_same heap_setBlock_other)
open Go.RowKit Go.Proofs.YtnfobcedbfbbiaaDoorW.PrintWords Go.Proofs.YtnfobcedbfbbiaaDoorW.PrintLast Go.Proofs.YtnfobcedbfbbiaaDoorW.PrintMore Go.Proofs.YtnfobcedbfbbiaaDoor.Hand Go.Proofs.YtnfobcedbfbbiaaDoor.PIx
set_option linter.unusedVariables false
set_option linter.unusedSimpArgs false
/-- What stands at a key, and its place. -/
def findS (key : ByteArray) : List (ByteArray × Val) → Nat → Option (Nat × Val)
  | [], _ => none
  | x :: t, i => if key = x.1 then some (i, x.2) else findS key t (i + 1)
def lookS : List (ByteArray × Val) → ByteArray → Option Val
  | [], _ => none
  | x :: t, key => if key = x.1 then some x.2 else lookS t key
def putS : List (ByteArray × Val) → ByteArray → Val → List (ByteArray × Val)
  | [], key, v => [(key, v)]
  | x :: t, key, v => if key = x.1 then (x.1, v) :: t else x :: putS t key v
def delS : List (ByteArray × Val) → ByteArray → List (ByteArray × Val)
  | [], _ => []
  | x :: t, key => if key = x.1 then t else x :: delS t key
abbrev kvOf (e : MapEntry) : Value × Value := (e.key, e.val)
abbrev kvS (x : ByteArray × Val) : Value × Value := (Value.string x.1, x.2.agg)
theorem ba_beq (a b : ByteArray) : (a == b) = decide (a = b) := by
  rw [Bool.eq_iff_iff, decide_eq_true_iff]
  exact MapKept.bytes_beq a b
theorem find_now (key : ByteArray) : ∀ (es : List MapEntry) (ps : List (ByteArray × Val)) (i : Nat), es.map kvOf = ps.map kvS →
    Instr.findNow .string (.string key) es i = some ((findS key ps i).map fun x => (x.1, x.2.agg))
  | [], [], i, _ => rfl
  | [], x :: t, i, h => by simp at h
  | e :: es, [], i, h => by simp at h
  | e :: es, x :: t, i, h => by
    simp only [List.map_cons, List.cons.injEq] at h
    obtain ⟨h1, h2⟩ := h
    have h3 : e.key = .string x.1 := congrArg Prod.fst h1
    have h4 : e.val = x.2.agg := congrArg Prod.snd h1
    unfold Instr.findNow findS
    rw [h3]
    by_cases c : key = x.1
    · rw [if_pos c]
      subst c
      have : (x.1 == x.1) = true := by rw [ba_beq]; exact decide_eq_true rfl
      simp [Instr.sameNow, h4, this]
    · rw [if_neg c]
      have : (key == x.1) = false := by rw [ba_beq]; exact decide_eq_false c
      simp only [Instr.sameNow, this]
      exact find_now key es t (i + 1) h2
theorem find_run (key : ByteArray) (es : List MapEntry) (ps : List (ByteArray × Val)) (h : es.map kvOf = ps.map kvS) (w : World) :
    (Instr.findKey 9 (.string key) es).run Tryd.prog w = .ok ((findS key ps 0).map fun x => (x.1, x.2.agg)) w := by
  unfold Instr.findKey
  simp [run_underlying Tryd.underlying9, find_now key es ps 0 h, Result.andThen]
theorem check_run (em : Bool) (key : ByteArray) (w : World) : (Instr.checkKey em 10000 9 (.string key)).run Tryd.prog w = .ok () w := by
  show (Instr.checkKey em (9999 + 1) 9 (.string key)).run Tryd.prog w = .ok () w
  rw [Instr.checkKey]
  simp [run_underlying Tryd.underlying9, Result.andThen]
theorem find_look (key : ByteArray) : ∀ (ps : List (ByteArray × Val)) (i : Nat), (findS key ps i).map (·.2) = lookS ps key
  | [], _ => rfl
  | x :: t, i => by
    unfold findS lookS
    split
    · rfl
    · exact find_look key t (i + 1)
theorem zero_run (w : World) : (zeroValue 33).run Tryd.prog w = .ok Val.zero.agg w := by kernel_rfl
theorem look_run {w : World} {m : Nat} {ps : List (ByteArray × Val)} (h : MapAt w m ps) (key : ByteArray) :
    (Instr.lookup 76 (.map (some m)) (.string key) true).run Tryd.prog w = .ok (.tuple #[((lookS ps key).getD Val.zero).agg, .bool (lookS ps key).isSome]) w := by
  obtain ⟨es, c, hb, he⟩ := h
  have hf := find_run key es.toList ps he w
  have hl := find_look key ps 0
  unfold Instr.lookup
  simp [run_underlying Tryd.underlying76, MapKept.run_getObj_map hb, check_run, hf, Result.andThen]
  cases e : findS key ps 0 with
  | none => rw [e] at hl; rw [← hl]; simp [zero_run, Result.andThen]; exact ⟨rfl, rfl, rfl, rfl⟩
  | some x => rw [e] at hl; rw [← hl]; simp [Result.andThen]
theorem find_at (key : ByteArray) : ∀ (ps : List (ByteArray × Val)) (i j : Nat) (v : Val), findS key ps i = some (j, v) → ∃ d, j = i + d ∧ ps[d]? = some (key, v)
  | [], i, j, v, h => by cases h
  | x :: t, i, j, v, h => by
    unfold findS at h
    split at h
    · rename_i c
      simp only [Option.some.injEq, Prod.mk.injEq] at h
      obtain ⟨rfl, rfl⟩ := h
      exact ⟨0, rfl, by rw [c]; rfl⟩
    · obtain ⟨d, hd, hg⟩ := find_at key t (i + 1) j v h
      exact ⟨d + 1, by omega, by simpa using hg⟩
theorem put_at (key : ByteArray) (v : Val) : ∀ (ps : List (ByteArray × Val)) (i : Nat), putS ps key v = (match findS key ps i with | some (j, _) => ps.modify (j - i) (fun x => (x.1, v)) | none => ps ++ [(key, v)])
  | [], i => rfl
  | x :: t, i => by
    unfold putS findS
    by_cases c : key = x.1
    · rw [if_pos c, if_pos c]
      simp
    · rw [if_neg c, if_neg c, put_at key v t (i + 1)]
      cases e : findS key t (i + 1) with
      | none => rfl
      | some q =>
        obtain ⟨j, u⟩ := q
        obtain ⟨d, hd, _⟩ := find_at key t (i + 1) j u e
        simp only
        rw [show j - i = (j - (i + 1)) + 1 by omega, List.modify_succ_cons]
theorem del_at (key : ByteArray) : ∀ (ps : List (ByteArray × Val)) (i : Nat), delS ps key = (match findS key ps i with | some (j, _) => ps.eraseIdx (j - i) | none => ps)
  | [], i => rfl
  | x :: t, i => by
    unfold delS findS
    by_cases c : key = x.1
    · rw [if_pos c, if_pos c]
      simp
    · rw [if_neg c, if_neg c, del_at key t (i + 1)]
      cases e : findS key t (i + 1) with
      | none => rfl
      | some q =>
        obtain ⟨j, u⟩ := q
        obtain ⟨d, hd, _⟩ := find_at key t (i + 1) j u e
        simp only
        rw [show j - i = (j - (i + 1)) + 1 by omega, List.eraseIdx_cons_succ]
theorem stays_run (key : ByteArray) (w : World) : (Instr.keyThatStays (.string key) (.string key)).run Tryd.prog w = .ok (.string key) w := by
  unfold Instr.keyThatStays
  have : Instr.sameBits 10000 (.string key) (.string key) = true := by
    show (key == key) = true
    rw [ba_beq]; exact decide_eq_true rfl
  simp [this]
theorem map_turn {w : World} {m : Nat} {es : Array MapEntry} {c : Nat} (hb : w.heap[m]? = some (.map es c)) (es' : Array MapEntry) (c' : Nat) {ps : List (ByteArray × Val)} (h : es'.toList.map kvOf = ps.map kvS) :
    MapAt (setBlock w m (.map es' c')) m ps ∧ w.grownBy (setBlock w m (.map es' c')) (some m) :=
  ⟨⟨es', c', heap_setBlock_same hb _, h⟩, ⟨rfl, rfl, rfl, by simp [setBlock], fun i _ hi => heap_setBlock_other hb _ (fun e => hi (by rw [e]))⟩⟩
theorem modify_map {α β : Type} (f : α → β) (g : α → α) (g' : β → β) (hg : ∀ x, f (g x) = g' (f x)) : ∀ (l : List α) (j : Nat), (l.modify j g).map f = (l.map f).modify j g'
  | [], j => by simp
  | x :: t, 0 => by simp [hg]
  | x :: t, j + 1 => by simp [modify_map f g g' hg t j]
theorem put_run {w : World} {m : Nat} {ps : List (ByteArray × Val)} (h : MapAt w m ps) (key : ByteArray) (v : Val) :
    ∃ w', (Instr.mapUpdate 76 (.map (some m)) (.string key) v.agg).run Tryd.prog w = .ok () w' ∧ MapAt w' m (putS ps key v) ∧ w.grownBy w' (some m) := by
  obtain ⟨es, c, hb, he⟩ := h
  have hf := find_run key es.toList ps he w
  have hp := put_at key v ps 0
  cases e : findS key ps 0 with
  | none =>
    rw [e] at hp hf
    simp only [Option.map_none] at hf
    have ht := map_turn hb (es.push ⟨.string key, v.agg, c⟩) (c + 1) (ps := ps ++ [(key, v)]) (by rw [Array.toList_push, List.map_append, List.map_append]; exact congrArg (· ++ [kvS (key, v)]) he)
    refine ⟨_, ?_, by rw [hp]; exact ht.1, ht.2⟩
    simp [Instr.mapUpdate, run_underlying Tryd.underlying76, MapKept.run_getObj_map hb, check_run, hf, MapKept.run_setObj_map _ hb, Result.andThen, setBlock]
  | some q =>
    obtain ⟨j, u⟩ := q
    rw [e] at hp hf
    simp only [Option.map_some] at hf
    obtain ⟨d, hd, hg⟩ := find_at key ps 0 j u e
    obtain rfl : d = j := by omega
    have hlen : es.size = ps.length := by
      have := congrArg List.length he
      simpa using this
    have hjl : d < es.size := by
      have := (List.getElem?_eq_some_iff.1 hg).1
      omega
    have hkey : (es[d]'hjl).key = .string key := by
      have h1 : (es.toList.map kvOf)[d]? = some (kvOf (es[d]'hjl)) := by
        rw [List.getElem?_map, Array.getElem?_toList, Array.getElem?_eq_getElem hjl]; rfl
      have h2 : (es.toList.map kvOf)[d]? = some (kvS (key, u)) := by
        have : es.toList.map kvOf = ps.map kvS := he
        rw [this, List.getElem?_map, hg]; rfl
      exact congrArg Prod.fst (Option.some.inj (h1.symm.trans h2))
    have hj : es[d]? = some (es[d]'hjl) := Array.getElem?_eq_getElem hjl
    have ht := map_turn hb (es.modify d (fun e' => { e' with key := .string key, val := v.agg })) c (ps := ps.modify d (fun x => (x.1, v))) (by
      rw [Array.toList_modify]
      apply List.ext_getElem?
      intro n
      have hn : (es.toList.map kvOf)[n]? = (ps.map kvS)[n]? := by
        have : es.toList.map kvOf = ps.map kvS := he
        rw [this]
      rw [List.getElem?_map, List.getElem?_map] at hn
      rw [List.getElem?_map, List.getElem?_map, List.getElem?_modify, List.getElem?_modify]
      by_cases c : d = n
      · subst c
        rw [hg, Array.getElem?_toList, hj]
        simp
      · simp only [if_neg c]
        cases h3 : es.toList[n]? with
        | none => cases h4 : ps[n]? with
          | none => rfl
          | some y => rw [h3, h4] at hn; cases hn
        | some x => cases h4 : ps[n]? with
          | none => rw [h3, h4] at hn; cases hn
          | some y => rw [h3, h4] at hn; exact hn)
    refine ⟨_, ?_, by rw [hp]; exact ht.1, ht.2⟩
    simp [Instr.mapUpdate, run_underlying Tryd.underlying76, MapKept.run_getObj_map hb, check_run, hf, hj, hkey, stays_run, MapKept.run_setObj_map _ hb, Result.andThen, setBlock]
theorem del_run {w : World} {m : Nat} {ps : List (ByteArray × Val)} (h : MapAt w m ps) (key : ByteArray) (ty : TypeId) :
    ∃ w', (Builtin.delete_ #[76, 9] ty #[.map (some m), .string key]).run Tryd.prog w = .ok (.tuple #[]) w' ∧ MapAt w' m (delS ps key) ∧ w.grownBy w' (some m) := by
  obtain ⟨es, c, hb, he⟩ := h
  have hf := find_run key es.toList ps he w
  have hp := del_at key ps 0
  cases e : findS key ps 0 with
  | none =>
    rw [e] at hp hf
    simp only [Option.map_none] at hf
    have ht := map_turn hb es c (ps := ps) he
    refine ⟨_, ?_, by rw [hp]; exact ht.1, ht.2⟩
    simp [Builtin.delete_, run_underlying Tryd.underlying76, MapKept.run_getObj_map hb, check_run, hf, MapKept.run_setObj_map _ hb, Result.andThen, setBlock]
  | some q =>
    obtain ⟨j, u⟩ := q
    rw [e] at hp hf
    simp only [Option.map_some] at hf
    obtain ⟨d, hd, hg⟩ := find_at key ps 0 j u e
    obtain rfl : d = j := by omega
    have ht := map_turn hb (es.eraseIdxIfInBounds d) c (ps := ps.eraseIdx d) (by
      have h0 : es.toList.map kvOf = ps.map kvS := he
      rw [Array.toList_eraseIdxIfInBounds, Go.ChangeMaps.map_eraseIdx, Go.ChangeMaps.map_eraseIdx, h0])
    refine ⟨_, ?_, by rw [hp]; exact ht.1, ht.2⟩
    simp [Builtin.delete_, run_underlying Tryd.underlying76, MapKept.run_getObj_map hb, check_run, hf, MapKept.run_setObj_map _ hb, Result.andThen, setBlock]
/-! ### at the operation, for the walk -/
section
variable {ops : Array Oper} {rest : List Oper} {o : Oper} {a : Act} {Q : Exit → Act → World → Prop}
theorem wpList_look (w : World) (hg : o.guard = none) (m x : Operand) (hop : o.op = Op.lookup 76 m x true) (mb : Nat) (key : ByteArray) (ps : List (ByteArray × Val)) (hm : a.eval m = .map (some mb)) (hx : a.eval x = .string key) (h : MapAt w mb ps)
    (hK : wpList Tryd.prog ops Q rest (a.put o.dst (.tuple #[((lookS ps key).getD Val.zero).agg, .bool (lookS ps key).isSome])) w) : wpList Tryd.prog ops Q (o :: rest) a w := by
  refine wpList_plain hg fun K' hK' => ?_
  have hr := look_run h key
  unfold Oper.wp
  simp only [execOp, hop, hm, hx, Sem.run_bind, hr, Result.andThen_ok, Sem.run_pure]
  exact hK' _ _ hK
theorem wpList_put (w : World) (hg : o.guard = none) (m x y : Operand) (hop : o.op = Op.mapUpdate 76 m x y) (mb : Nat) (key : ByteArray) (v : Val) (ps : List (ByteArray × Val)) (hm : a.eval m = .map (some mb)) (hx : a.eval x = .string key) (hy : a.eval y = v.agg) (h : MapAt w mb ps)
    (hK : ∀ w', MapAt w' mb (putS ps key v) → w.grownBy w' (some mb) → wpList Tryd.prog ops Q rest (a.put o.dst undef) w') : wpList Tryd.prog ops Q (o :: rest) a w := by
  refine wpList_plain hg fun K' hK' => ?_
  obtain ⟨w', hr, h1, h2⟩ := put_run h key v
  unfold Oper.wp
  simp [execOp, hop, hm, hx, hy, hr, Result.andThen]
  exact hK' _ _ (hK w' h1 h2)
theorem wpList_del (w : World) (hg : o.guard = none) (m x : Operand) (hop : o.op = Op.call { callee := Callee.builtin Builtin.delete, args := #[m, x], argTypes := #[76, 9] }) (mb : Nat) (key : ByteArray) (ps : List (ByteArray × Val)) (hm : a.eval m = .map (some mb)) (hx : a.eval x = .string key) (h : MapAt w mb ps)
    (hK : ∀ w', MapAt w' mb (delS ps key) → w.grownBy w' (some mb) → wpList Tryd.prog ops Q rest (a.put o.dst (.tuple #[])) w') : wpList Tryd.prog ops Q (o :: rest) a w := by
  refine wpList_plain hg fun K' hK' => ?_
  obtain ⟨w', hr, h1, h2⟩ := del_run h key o.type
  unfold Oper.wp
  simp [execOp, hop, resolve, invoke, builtin, hm, hx, hr, Result.andThen]
  exact hK' _ _ (hK w' h1 h2)
end
end Go.Proofs.YtnfobcedbfbbiaaDoor.Hp
