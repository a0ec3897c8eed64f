/- The heap of objects in memory: what its blocks hold, as a plain state; what leaves it as it is; the contract of esheap.(*Heap).at. -/
import Derived.Test.YtnfobcedbfbbiaaDoorPIxx3
namespace Go.Proofs.YtnfobcedbfbbiaaDoor.Hp
open Go.RowKit Go.Proofs.YtnfobcedbfbbiaaDoorW.PrintWords Go.Proofs.YtnfobcedbfbbiaaDoorW.PrintLast Go.Proofs.YtnfobcedbfbbiaaDoorW.PrintMore Go.Proofs.YtnfobcedbfbbiaaDoor.Hand Go.Proofs.YtnfobcedbfbbiaaDoor.PIx
set_option linter.unusedVariables false
set_option linter.unusedSimpArgs false

/-- An api.Value. -/
structure Val where
  kind : Int
  num : Nat
  text : ByteArray
  ref : Int
def Val.vs (v : Val) : List Value := [.int .i64 v.kind, .float .f64 v.num, .string v.text, .int .i64 v.ref]
abbrev Val.agg (v : Val) : Value := .agg #[.int .i64 v.kind, .float .f64 v.num, .string v.text, .int .i64 v.ref]
def Val.zero : Val := ⟨0, 0, ⟨#[]⟩, 0⟩
/-- One object. -/
structure OSt where
  kind : Int
  proto : Int
  a : Int
  b : Int
  scope : Int
  keys : List ByteArray
  props : List (ByteArray × Val)
  items : List Val
/-- A heap: its objects, and the cells that are left. -/
structure HSt where
  objs : List OSt
  left : Int
/-- Where an object lies: its block, its keys' slice, its map's block, its items' slice. -/
structure Lay where
  ob : Nat
  kv : Value
  mb : Nat
  iv : Value
def Lay.blocks (L : Lay) : List Nat := L.ob :: L.mb :: (L.kv.ownBlock.toList ++ L.iv.ownBlock.toList)
def MapAt (w : World) (m : Nat) (ps : List (ByteArray × Val)) : Prop :=
  ∃ es clock, w.heap[m]? = some (.map es clock) ∧ es.toList.map (fun e => (e.key, e.val)) = ps.map (fun x => (Value.string x.1, x.2.agg))
structure ObjAt (w : World) (B : Nat) (L : Lay) (o : OSt) : Prop where
  block : w.heap[L.ob]? = some (.cells #[.int .i64 o.kind, .int .i64 o.proto, .int .i64 o.a, .int .i64 o.b, .int .i64 o.scope, L.kv, .map (some L.mb), L.iv] 78 (0, 0))
  keys : w.ownsRow B 9 1 L.kv o.keys.length (o.keys.map Value.string)
  props : MapAt w L.mb o.props
  items : w.ownsRow B 33 4 L.iv o.items.length (o.items.flatMap Val.vs)
def feet (p : Nat) (ov : Value) (Ls : List Lay) : List Nat := p :: (ov.ownBlock.toList ++ Ls.flatMap Lay.blocks)
def obPtr (L : Lay) : Value := .pointer (some ⟨L.ob, 0, none⟩)
structure HeapAt (w : World) (B p : Nat) (σ : HSt) (ov : Value) (Ls : List Lay) : Prop where
  top : w.heap[p]? = some (.cells #[ov, .int .i64 σ.left] 72 (0, 0))
  row : w.ownsRow B 74 1 ov Ls.length (Ls.map obPtr)
  len : Ls.length = σ.objs.length
  objs : ∀ (i : Nat) L o, Ls[i]? = some L → σ.objs[i]? = some o → ObjAt w B L o
  dis : (feet p ov Ls).Nodup
  low : ∀ b ∈ feet p ov Ls, B ≤ b
def HeapOk (w : World) (B p : Nat) (σ : HSt) : Prop := ∃ ov Ls, HeapAt w B p σ ov Ls

section
variable {w w' : World} {B p : Nat} {σ : HSt} {ov : Value} {Ls : List Lay}
theorem MapAt.move {m : Nat} {ps : List (ByteArray × Val)} (h : MapAt w m ps) (hm : w'.heap[m]? = w.heap[m]?) : MapAt w' m ps := by
  obtain ⟨es, c, h1, h2⟩ := h
  exact ⟨es, c, hm.trans h1, h2⟩
theorem MapAt.lt {m : Nat} {ps : List (ByteArray × Val)} (h : MapAt w m ps) : m < w.heap.size := by
  obtain ⟨es, c, h1, _⟩ := h
  exact (Array.getElem?_eq_some_iff.1 h1).1
theorem ObjAt.move {L : Lay} {o : OSt} (h : ObjAt w B L o) (hm : ∀ b ∈ L.blocks, w'.heap[b]? = w.heap[b]?) : ObjAt w' B L o := by
  refine ⟨(hm _ (by simp [Lay.blocks])).trans h.block, own_move h.keys (fun k hk => hm k ?_), h.props.move (hm _ (by simp [Lay.blocks])), own_move h.items (fun k hk => hm k ?_)⟩
  · simp [Lay.blocks, hk]
  · simp [Lay.blocks, hk]
theorem ObjAt.lt {L : Lay} {o : OSt} (h : ObjAt w B L o) : ∀ b ∈ L.blocks, b < w.heap.size := by
  intro b hb
  simp only [Lay.blocks, List.mem_cons, List.mem_append, Option.mem_toList] at hb
  rcases hb with rfl | rfl | hb | hb
  · exact (Array.getElem?_eq_some_iff.1 h.block).1
  · exact h.props.lt
  · exact own_lt h.keys b hb
  · exact own_lt h.items b hb
theorem HeapAt.feet_lt (h : HeapAt w B p σ ov Ls) : ∀ b ∈ feet p ov Ls, b < w.heap.size := by
  intro b hb
  simp only [feet, List.mem_cons, List.mem_append, Option.mem_toList, List.mem_flatMap] at hb
  rcases hb with rfl | hb | ⟨L, hL, hb⟩
  · exact (Array.getElem?_eq_some_iff.1 h.top).1
  · exact own_lt h.row b hb
  · obtain ⟨i, hi, hg⟩ := List.getElem_of_mem hL
    have h1 : Ls[i]? = some L := by rw [List.getElem?_eq_getElem hi, hg]
    have h2 : i < σ.objs.length := by rw [← h.len]; exact hi
    exact (h.objs i L _ h1 (List.getElem?_eq_getElem h2)).lt b hb
theorem mem_feet_lay {L : Lay} (hL : L ∈ Ls) {b : Nat} (hb : b ∈ L.blocks) : b ∈ feet p ov Ls := by
  simp only [feet, List.mem_cons, List.mem_append, List.mem_flatMap]
  exact .inr (.inr ⟨L, hL, hb⟩)
theorem mem_feet_top : p ∈ feet p ov Ls := by simp [feet]
/-- What leaves the heap's own blocks as they are leaves the heap. -/
theorem HeapAt.move (h : HeapAt w B p σ ov Ls) (hm : ∀ b ∈ feet p ov Ls, w'.heap[b]? = w.heap[b]?) : HeapAt w' B p σ ov Ls := by
  refine ⟨(hm p mem_feet_top).trans h.top, own_move h.row (fun k hk => hm k ?_), h.len, fun i L o hi ho => (h.objs i L o hi ho).move (fun b hb => hm b (mem_feet_lay (List.mem_of_getElem? hi) hb)), h.dis, h.low⟩
  simp [feet, hk]
theorem HeapAt.below (h : HeapAt w B p σ ov Ls) (hb : Below w.heap.size w w') : HeapAt w' B p σ ov Ls := h.move (fun b hm => hb.block b (h.feet_lt b hm))
theorem HeapAt.alloc (h : HeapAt w B p σ ov Ls) (o : Obj) : HeapAt (w.alloc o) B p σ ov Ls := h.below ((Below.refl _ _).alloc (Nat.le_refl _) o)
theorem HeapAt.drewN (h : HeapAt w B p σ ov Ls) (n : Nat) : HeapAt (w.drewN n) B p σ ov Ls := h.move (fun b _ => rfl)
theorem HeapAt.drew (h : HeapAt w B p σ ov Ls) : HeapAt w.drew B p σ ov Ls := h.move (fun b _ => rfl)
theorem HeapAt.other (h : HeapAt w B p σ ov Ls) {a : Addr} (ha : a.block ∉ feet p ov Ls) (u : Value) : HeapAt (w.setCell a u) B p σ ov Ls :=
  h.move (fun b hb => Below.heap_setCell w a u b (fun e => ha (e ▸ hb)))
theorem HeapOk.below (h : HeapOk w B p σ) (hb : Below w.heap.size w w') : HeapOk w' B p σ := by
  obtain ⟨ov, Ls, h⟩ := h
  exact ⟨ov, Ls, h.below hb⟩
theorem HeapAt.top_lt (h : HeapAt w B p σ ov Ls) : p < w.heap.size := h.feet_lt p mem_feet_top
theorem HeapAt.base (h : HeapAt w B p σ ov Ls) : B ≤ w.heap.size := Nat.le_of_lt (Nat.lt_of_le_of_lt (h.low p mem_feet_top) h.top_lt)
theorem cell_in {b j : Nat} {cs : Array Value} {t : TypeId} {f : Nat × Nat} (h : w.heap[b]? = some (.cells cs t f)) : w.cell? ⟨b, j, none⟩ = cs[j]? := by simp [World.cell?, h]
theorem free_in {b j : Nat} {cs : Array Value} {t : TypeId} (h : w.heap[b]? = some (.cells cs t (0, 0))) : w.frozen? ⟨b, j, none⟩ = false := by simp [World.frozen?, h]
theorem HeapAt.cell0 (h : HeapAt w B p σ ov Ls) : w.cell? ⟨p, 0, none⟩ = some ov := by rw [cell_in h.top]; rfl
theorem HeapAt.cell1 (h : HeapAt w B p σ ov Ls) : w.cell? ⟨p, 1, none⟩ = some (.int .i64 σ.left) := by rw [cell_in h.top]; rfl
theorem HeapAt.free (h : HeapAt w B p σ ov Ls) (j : Nat) : w.frozen? ⟨p, j, none⟩ = false := free_in h.top
/-- The slice of objects. -/
theorem HeapAt.slice (h : HeapAt w B p σ ov Ls) : ∃ A c, ov = .slice A Ls.length c ∧ ∀ (i : Nat) L, Ls[i]? = some L → ∃ g, A = some ⟨g, 0, none⟩ ∧ w.cell? ⟨g, i, none⟩ = some (obPtr L) := by
  obtain ⟨h1, h2⟩ := h.row
  rcases h2 with ⟨rfl, h0⟩ | ⟨g, cap, cur, rfl, hb, hg, hn, hm, hs, ht⟩
  · refine ⟨none, 0, by rw [h0], fun i L hi => ?_⟩
    have := (List.getElem?_eq_some_iff.1 hi).1
    omega
  · refine ⟨some ⟨g, 0, none⟩, cap, rfl, fun i L hi => ⟨g, rfl, ?_⟩⟩
    have hil := (List.getElem?_eq_some_iff.1 hi).1
    rw [cell_in hg]
    have e : (cur.toList.take (Ls.length * 1))[i]? = (Ls.map obPtr)[i]? := by rw [ht]
    rw [List.getElem?_take_of_lt (by omega), List.getElem?_map, hi] at e
    simpa using e
end

/-- The object's address. -/
def atV (Ls : List Lay) (i : Int) : Value := if 0 ≤ i then (match Ls[i.toNat]? with | some L => obPtr L | none => .pointer none) else .pointer none
theorem atV_some {Ls : List Lay} {i : Int} {L : Lay} (h0 : 0 ≤ i) (h : Ls[i.toNat]? = some L) : atV Ls i = obPtr L := by unfold atV; rw [if_pos h0, h]
theorem atV_none {Ls : List Lay} {i : Int} (h : ¬ (0 ≤ i ∧ i < Ls.length)) : atV Ls i = .pointer none := by
  unfold atV
  by_cases h0 : 0 ≤ i
  · rw [if_pos h0, List.getElem?_eq_none (by omega)]
  · rw [if_neg h0]
set_option maxHeartbeats 1000000 in
theorem at_calls {w : World} {B p : Nat} {σ : HSt} {ov : Value} {Ls : List Lay} (h : HeapAt w B p σ ov Ls) (hn : Ls.length ≤ 100000) (i : Int) :
    Calls Tryd.prog 40 #[.pointer (some ⟨p, 0, none⟩), .int .i64 i] w fun e w' => e = .returned (atV Ls i) ∧ w' = w := by
  obtain ⟨A, c, rfl, hs⟩ := h.slice
  have hc0 := h.cell0
  by_cases h0 : 0 ≤ i
  · have d0 : decide (i < 0) = false := decide_eq_false (by omega)
    by_cases h1 : i < Ls.length
    · have d1 : decide ((Ls.length : Int) ≤ i) = false := decide_eq_false (by omega)
      have hl : i.toNat < Ls.length := by omega
      obtain ⟨g, rfl, hg⟩ := hs i.toNat _ (List.getElem?_eq_getElem hl)
      have hv := Aside0.mk (atV_some h0 (List.getElem?_eq_getElem hl))
      have q0 := eq_true h0
      have q1 := eq_true h1
      obtain ⟨L, hL⟩ : ∃ L, L = Ls[i.toNat] := ⟨_, rfl⟩
      rw [← hL] at hg hv
      have HH := Aside0.mk h
      clear hs hL h0 h1 hl h
      unfold obPtr at hg
      go_enter Tryd.func40, Tryd.ntmps40
      go_wp2
      go_ret
      exact ⟨by rw [hv.out]; rfl, rfl⟩
    · have d1 : decide ((Ls.length : Int) ≤ i) = true := decide_eq_true (by omega)
      have hv := Aside0.mk (atV_none (Ls := Ls) (i := i) (by omega))
      clear hs h0 h1
      have HH := Aside0.mk h
      clear h
      go_enter Tryd.func40, Tryd.ntmps40
      go_wp2
      go_ret
      exact ⟨by rw [hv.out]; rfl, rfl⟩
  · have d0 : decide (i < 0) = true := decide_eq_true (by omega)
    have hv := Aside0.mk (atV_none (Ls := Ls) (i := i) (by omega))
    have HH := Aside0.mk h
    clear hs h0 h
    go_enter Tryd.func40, Tryd.ntmps40
    go_wp2
    go_ret
    exact ⟨by rw [hv.out]; rfl, rfl⟩
end Go.Proofs.YtnfobcedbfbbiaaDoor.Hp
