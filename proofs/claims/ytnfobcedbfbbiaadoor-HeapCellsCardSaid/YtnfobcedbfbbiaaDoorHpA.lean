/- The heap of objects in memory; its first contracts: at, right of numbers, add, New, Size, Plain. -/
import Derived.Test.YtnfobcedbfbbiaaDoorIx
import Derived.Test.YtnfobcedbfbbiaaDoorPIxx3
import Derived.WalkLawsBesides
import Derived.Laws.Externs
import Derived.StillTailTactics
namespace Go.Proofs.YtnfobcedbfbbiaaDoor.Hp
open Go.RowKit Go.Proofs.YtnfobcedbfbbiaaDoorW.PrintWords Go.Proofs.YtnfobcedbfbbiaaDoorW.PrintLast Go.Proofs.YtnfobcedbfbbiaaDoorW.PrintMore Go.Proofs.YtnfobcedbfbbiaaDoor.Hand Go.Proofs.YtnfobcedbfbbiaaDoor.PIx Go.Proofs.YtnfobcedbfbbiaaDoor.Pure
set_option linter.unusedVariables false
set_option linter.unusedSimpArgs false
section
/-- An api.Value. -/
structure Val where
  kind : Int
  num : Nat
  text : ByteArray
  ref : Int
def Val.vs (v : Val) : List Value := [.int .i64 v.kind, .float .f64 v.num, .string v.text, .int .i64 v.ref]
abbrev Val.agg (v : Val) : Value := .agg #[.int .i64 v.kind, .float .f64 v.num, .string v.text, .int .i64 v.ref]
def Val.zero : Val := ⟨0, 0, ⟨#[]⟩, 0⟩
/-- One object. -/
structure OSt where
  kind : Int
  proto : Int
  a : Int
  b : Int
  scope : Int
  keys : List ByteArray
  props : List (ByteArray × Val)
  items : List Val
/-- A heap: its objects, and the cells that are left. -/
structure HSt where
  objs : List OSt
  left : Int
/-- Where an object lies: its block, its keys' slice, its map's block, its items' slice. -/
structure Lay where
  ob : Nat
  kv : Value
  mb : Nat
  iv : Value
def Lay.blocks (L : Lay) : List Nat := L.ob :: L.mb :: (L.kv.ownBlock.toList ++ L.iv.ownBlock.toList)
def MapAt (w : World) (m : Nat) (ps : List (ByteArray × Val)) : Prop :=
  ∃ es clock, w.heap[m]? = some (.map es clock) ∧ es.toList.map (fun e => (e.key, e.val)) = ps.map (fun x => (Value.string x.1, x.2.agg))
structure ObjAt (w : World) (B : Nat) (L : Lay) (o : OSt) : Prop where
  block : w.heap[L.ob]? = some (.cells #[.int .i64 o.kind, .int .i64 o.proto, .int .i64 o.a, .int .i64 o.b, .int .i64 o.scope, L.kv, .map (some L.mb), L.iv] 78 (0, 0))
  keys : w.ownsRow B 9 1 L.kv o.keys.length (o.keys.map Value.string)
  props : MapAt w L.mb o.props
  items : w.ownsRow B 33 4 L.iv o.items.length (o.items.flatMap Val.vs)
def feet (p : Nat) (ov : Value) (Ls : List Lay) : List Nat := p :: (ov.ownBlock.toList ++ Ls.flatMap Lay.blocks)
def obPtr (L : Lay) : Value := .pointer (some ⟨L.ob, 0, none⟩)
/-- Blocks that are not the heap's, and what they hold. -/
def Kept (w : World) (K : List (Nat × Obj)) (F : List Nat) : Prop := ∀ x ∈ K, w.heap[x.1]? = some x.2 ∧ x.1 ∉ F
def Held (K : List (Nat × Obj)) (b : Nat) : Prop := ∃ x ∈ K, x.1 = b
structure HeapAt (w : World) (B : Nat) (K : List (Nat × Obj)) (p : Nat) (σ : HSt) (ov : Value) (Ls : List Lay) : Prop where
  top : w.heap[p]? = some (.cells #[ov, .int .i64 σ.left] 72 (0, 0))
  row : w.ownsRow B 74 1 ov Ls.length (Ls.map obPtr)
  len : Ls.length = σ.objs.length
  objs : ∀ (i : Nat) L o, Ls[i]? = some L → σ.objs[i]? = some o → ObjAt w B L o
  dis : (feet p ov Ls).Nodup
  low : ∀ b ∈ feet p ov Ls, B ≤ b
  aside : Kept w K (feet p ov Ls)
def HeapOk (w : World) (B : Nat) (K : List (Nat × Obj)) (p : Nat) (σ : HSt) : Prop := ∃ ov Ls, HeapAt w B K p σ ov Ls

section
variable {w w' : World} {B p : Nat} {K : List (Nat × Obj)} {σ : HSt} {ov : Value} {Ls : List Lay}
theorem MapAt.move {m : Nat} {ps : List (ByteArray × Val)} (h : MapAt w m ps) (hm : w'.heap[m]? = w.heap[m]?) : MapAt w' m ps := by
  obtain ⟨es, c, h1, h2⟩ := h
  exact ⟨es, c, hm.trans h1, h2⟩
theorem MapAt.lt {m : Nat} {ps : List (ByteArray × Val)} (h : MapAt w m ps) : m < w.heap.size := by
  obtain ⟨es, c, h1, _⟩ := h
  exact (Array.getElem?_eq_some_iff.1 h1).1
theorem ObjAt.move {L : Lay} {o : OSt} (h : ObjAt w B L o) (hm : ∀ b ∈ L.blocks, w'.heap[b]? = w.heap[b]?) : ObjAt w' B L o := by
  refine ⟨(hm _ (by simp [Lay.blocks])).trans h.block, own_move h.keys (fun k hk => hm k ?_), h.props.move (hm _ (by simp [Lay.blocks])), own_move h.items (fun k hk => hm k ?_)⟩
  · simp [Lay.blocks, hk]
  · simp [Lay.blocks, hk]
theorem ObjAt.lt {L : Lay} {o : OSt} (h : ObjAt w B L o) : ∀ b ∈ L.blocks, b < w.heap.size := by
  intro b hb
  simp only [Lay.blocks, List.mem_cons, List.mem_append, Option.mem_toList] at hb
  rcases hb with rfl | rfl | hb | hb
  · exact (Array.getElem?_eq_some_iff.1 h.block).1
  · exact h.props.lt
  · exact own_lt h.keys b hb
  · exact own_lt h.items b hb
theorem HeapAt.feet_lt (h : HeapAt w B K p σ ov Ls) : ∀ b ∈ feet p ov Ls, b < w.heap.size := by
  intro b hb
  simp only [feet, List.mem_cons, List.mem_append, Option.mem_toList, List.mem_flatMap] at hb
  rcases hb with rfl | hb | ⟨L, hL, hb⟩
  · exact (Array.getElem?_eq_some_iff.1 h.top).1
  · exact own_lt h.row b hb
  · obtain ⟨i, hi, hg⟩ := List.getElem_of_mem hL
    have h1 : Ls[i]? = some L := by rw [List.getElem?_eq_getElem hi, hg]
    have h2 : i < σ.objs.length := by rw [← h.len]; exact hi
    exact (h.objs i L _ h1 (List.getElem?_eq_getElem h2)).lt b hb
theorem mem_feet_lay {L : Lay} (hL : L ∈ Ls) {b : Nat} (hb : b ∈ L.blocks) : b ∈ feet p ov Ls := by
  simp only [feet, List.mem_cons, List.mem_append, List.mem_flatMap]
  exact .inr (.inr ⟨L, hL, hb⟩)
theorem mem_feet_top : p ∈ feet p ov Ls := by simp [feet]
/-- What leaves the heap's own blocks as they are leaves the heap. -/
theorem HeapAt.held_lt (h : HeapAt w B K p σ ov Ls) {b : Nat} (hb : Held K b) : b < w.heap.size := by
  obtain ⟨x, hx, rfl⟩ := hb
  exact (Array.getElem?_eq_some_iff.1 (h.aside x hx).1).1
theorem HeapAt.held_out (h : HeapAt w B K p σ ov Ls) {b : Nat} (hb : Held K b) : b ∉ feet p ov Ls := by
  obtain ⟨x, hx, rfl⟩ := hb
  exact (h.aside x hx).2
theorem Kept.turn {F F' : List Nat} (h : Kept w K F) (hm : ∀ b, Held K b → w'.heap[b]? = w.heap[b]?) (hf : ∀ b, Held K b → b ∉ F → b ∉ F') : Kept w' K F' := fun x hx => ⟨(hm x.1 ⟨x, hx, rfl⟩).trans (h x hx).1, hf x.1 ⟨x, hx, rfl⟩ (h x hx).2⟩
theorem HeapAt.move (h : HeapAt w B K p σ ov Ls) (hm : ∀ b ∈ feet p ov Ls, w'.heap[b]? = w.heap[b]?) (hmk : ∀ b, Held K b → w'.heap[b]? = w.heap[b]?) : HeapAt w' B K p σ ov Ls := by
  refine ⟨(hm p mem_feet_top).trans h.top, own_move h.row (fun k hk => hm k ?_), h.len, fun i L o hi ho => (h.objs i L o hi ho).move (fun b hb => hm b (mem_feet_lay (List.mem_of_getElem? hi) hb)), h.dis, h.low, h.aside.turn hmk (fun _ _ h => h)⟩
  simp [feet, hk]
theorem HeapAt.below (h : HeapAt w B K p σ ov Ls) (hb : Below w.heap.size w w') : HeapAt w' B K p σ ov Ls := h.move (fun b hm => hb.block b (h.feet_lt b hm)) (fun b hm => hb.block b (h.held_lt hm))
theorem HeapAt.alloc (h : HeapAt w B K p σ ov Ls) (o : Obj) : HeapAt (w.alloc o) B K p σ ov Ls := h.below ((Below.refl _ _).alloc (Nat.le_refl _) o)
theorem HeapAt.drewN (h : HeapAt w B K p σ ov Ls) (n : Nat) : HeapAt (w.drewN n) B K p σ ov Ls := h.move (fun b _ => rfl) (fun b _ => rfl)
theorem HeapAt.drew (h : HeapAt w B K p σ ov Ls) : HeapAt w.drew B K p σ ov Ls := h.move (fun b _ => rfl) (fun b _ => rfl)
theorem HeapAt.other (h : HeapAt w B K p σ ov Ls) {a : Addr} (ha : a.block ∉ feet p ov Ls) (hak : ¬ Held K a.block) (u : Value) : HeapAt (w.setCell a u) B K p σ ov Ls :=
  h.move (fun b hb => Below.heap_setCell w a u b (fun e => ha (e ▸ hb))) (fun b hb => Below.heap_setCell w a u b (fun e => hak (e ▸ hb)))
theorem HeapOk.below (h : HeapOk w B K p σ) (hb : Below w.heap.size w w') : HeapOk w' B K p σ := by
  obtain ⟨ov, Ls, h⟩ := h
  exact ⟨ov, Ls, h.below hb⟩
theorem HeapAt.top_lt (h : HeapAt w B K p σ ov Ls) : p < w.heap.size := h.feet_lt p mem_feet_top
theorem HeapAt.base (h : HeapAt w B K p σ ov Ls) : B ≤ w.heap.size := Nat.le_of_lt (Nat.lt_of_le_of_lt (h.low p mem_feet_top) h.top_lt)
theorem cell_in {b j : Nat} {cs : Array Value} {t : TypeId} {f : Nat × Nat} (h : w.heap[b]? = some (.cells cs t f)) : w.cell? ⟨b, j, none⟩ = cs[j]? := by simp [World.cell?, h]
theorem free_in {b j : Nat} {cs : Array Value} {t : TypeId} (h : w.heap[b]? = some (.cells cs t (0, 0))) : w.frozen? ⟨b, j, none⟩ = false := by simp [World.frozen?, h]
theorem HeapAt.cell0 (h : HeapAt w B K p σ ov Ls) : w.cell? ⟨p, 0, none⟩ = some ov := by rw [cell_in h.top]; rfl
theorem HeapAt.cell1 (h : HeapAt w B K p σ ov Ls) : w.cell? ⟨p, 1, none⟩ = some (.int .i64 σ.left) := by rw [cell_in h.top]; rfl
theorem HeapAt.free (h : HeapAt w B K p σ ov Ls) (j : Nat) : w.frozen? ⟨p, j, none⟩ = false := free_in h.top
/-- The slice of objects. -/
theorem HeapAt.slice (h : HeapAt w B K p σ ov Ls) : ∃ A c, ov = .slice A Ls.length c ∧ ∀ (i : Nat) L, Ls[i]? = some L → ∃ g, A = some ⟨g, 0, none⟩ ∧ w.cell? ⟨g, i, none⟩ = some (obPtr L) := by
  obtain ⟨h1, h2⟩ := h.row
  rcases h2 with ⟨rfl, h0⟩ | ⟨g, cap, cur, rfl, hb, hg, hn, hm, hs, ht⟩
  · refine ⟨none, 0, by rw [h0], fun i L hi => ?_⟩
    have := (List.getElem?_eq_some_iff.1 hi).1
    omega
  · refine ⟨some ⟨g, 0, none⟩, cap, rfl, fun i L hi => ⟨g, rfl, ?_⟩⟩
    have hil := (List.getElem?_eq_some_iff.1 hi).1
    rw [cell_in hg]
    have e : (cur.toList.take (Ls.length * 1))[i]? = (Ls.map obPtr)[i]? := by rw [ht]
    rw [List.getElem?_take_of_lt (by omega), List.getElem?_map, hi] at e
    simpa using e
end

/-- The object's address. -/
def atV (Ls : List Lay) (i : Int) : Value := if 0 ≤ i then (match Ls[i.toNat]? with | some L => obPtr L | none => .pointer none) else .pointer none
theorem atV_some {Ls : List Lay} {i : Int} {L : Lay} (h0 : 0 ≤ i) (h : Ls[i.toNat]? = some L) : atV Ls i = obPtr L := by unfold atV; rw [if_pos h0, h]
theorem atV_none {Ls : List Lay} {i : Int} (h : ¬ (0 ≤ i ∧ i < Ls.length)) : atV Ls i = .pointer none := by
  unfold atV
  by_cases h0 : 0 ≤ i
  · rw [if_pos h0, List.getElem?_eq_none (by omega)]
  · rw [if_neg h0]
set_option maxHeartbeats 1000000 in
theorem at_calls {w : World} {B p : Nat} {K : List (Nat × Obj)} {σ : HSt} {ov : Value} {Ls : List Lay} (h : HeapAt w B K p σ ov Ls) (hn : Ls.length ≤ 100000) (i : Int) :
    Calls Tryd.prog 40 #[.pointer (some ⟨p, 0, none⟩), .int .i64 i] w fun e w' => e = .returned (atV Ls i) ∧ w' = w := by
  obtain ⟨A, c, rfl, hs⟩ := h.slice
  have hc0 := h.cell0
  by_cases h0 : 0 ≤ i
  · have d0 : decide (i < 0) = false := decide_eq_false (by omega)
    by_cases h1 : i < Ls.length
    · have d1 : decide ((Ls.length : Int) ≤ i) = false := decide_eq_false (by omega)
      have hl : i.toNat < Ls.length := by omega
      obtain ⟨g, rfl, hg⟩ := hs i.toNat _ (List.getElem?_eq_getElem hl)
      have hv := Aside0.mk (atV_some h0 (List.getElem?_eq_getElem hl))
      have q0 := eq_true h0
      have q1 := eq_true h1
      obtain ⟨L, hL⟩ : ∃ L, L = Ls[i.toNat] := ⟨_, rfl⟩
      rw [← hL] at hg hv
      have HH := Aside0.mk h
      clear hs hL h0 h1 hl h
      unfold obPtr at hg
      go_enter Tryd.func40, Tryd.ntmps40
      go_wp2
      go_ret
      exact ⟨by rw [hv.out]; rfl, rfl⟩
    · have d1 : decide ((Ls.length : Int) ≤ i) = true := decide_eq_true (by omega)
      have hv := Aside0.mk (atV_none (Ls := Ls) (i := i) (by omega))
      clear hs h0 h1
      have HH := Aside0.mk h
      clear h
      go_enter Tryd.func40, Tryd.ntmps40
      go_wp2
      go_ret
      exact ⟨by rw [hv.out]; rfl, rfl⟩
  · have d0 : decide (i < 0) = true := decide_eq_true (by omega)
    have hv := Aside0.mk (atV_none (Ls := Ls) (i := i) (by omega))
    have HH := Aside0.mk h
    clear hs h0 h
    go_enter Tryd.func40, Tryd.ntmps40
    go_wp2
    go_ret
    exact ⟨by rw [hv.out]; rfl, rfl⟩
end
section
theorem run_store_float {P : Program} {w : World} {a : Addr} {m : Mode} (k : FloatKind) (b : Nat) : (store a (.float k b) m).run P w = stored P w a (.float k b) m := run_store P w a _ m rfl
attribute [go_sem] run_store_float
theorem bits_run (x : Nat) (w : World) : (callFunc 59 #[.float .f64 x]).run Tryd.prog w = .ok (.value (.int .u64 x)) w := by
  rw [run_callFunc_extern (e := Extern.MathFloatBits.float64bits) Tryd.func59 (by kernel_rfl) (by kernel_rfl) (by kernel_rfl) (by kernel_rfl)]
  rfl
def signV (x : Nat) : Bool := decide (wrap64 (x : Int) < 0)
theorem sign_calls (x : Nat) (w : World) : Calls Tryd.prog 63 #[.float .f64 x] w fun e w' => e = .returned (.bool (signV x)) ∧ w' = w := by
  have h := bits_run x
  go_enter Tryd.func63, Tryd.ntmps63
  go_wp2
  go_ret
  exact ⟨rfl, rfl⟩
/-- Are two numbers equal, as == has it. -/
def feq (x y : Nat) : Bool := FloatKind.f64.format.order x y == some Ordering.eq
/-- The same number? -/
def sameV (x y : Nat) : Bool := if feq x x = true then (if feq y y = true then feq x y && (signV x == signV y) else false) else !feq y y
theorem feq_t {x y : Nat} (h : feq x y = true) : FloatKind.f64.format.order x y = some Ordering.eq := by unfold feq at h; exact beq_iff_eq.1 h
theorem feq_f {x y : Nat} (h : feq x y = false) : ¬ FloatKind.f64.format.order x y = some Ordering.eq := by unfold feq at h; exact beq_eq_false_iff_ne.1 h
theorem feq_fb {x y : Nat} (h : feq x y = false) : (FloatKind.f64.format.order x y == some Ordering.eq) = false := h
theorem feq_fn {x y : Nat} (h : feq x y = false) : (FloatKind.f64.format.order x y != some Ordering.eq) = true := by unfold feq at h; unfold bne; rw [h]; rfl
set_option maxHeartbeats 1000000 in
theorem same_ff (x y : Nat) (w : World) (g1 : (FloatKind.f64.format.order x x != some Ordering.eq) = true) (g2 : (FloatKind.f64.format.order y y != some Ordering.eq) = true) : Calls Tryd.prog 57 #[.float .f64 x, .float .f64 y] w fun e w' => e = .returned (.bool true) ∧ w' = w := by
  go_enter Tryd.func57, Tryd.ntmps57
  go_wp2
  go_ret
  exact ⟨rfl, rfl⟩
set_option maxHeartbeats 1000000 in
theorem same_ft (x y : Nat) (w : World) (g0 : (FloatKind.f64.format.order x x != some Ordering.eq) = true) (g1 : FloatKind.f64.format.order y y = some Ordering.eq) : Calls Tryd.prog 57 #[.float .f64 x, .float .f64 y] w fun e w' => e = .returned (.bool false) ∧ w' = w := by
  go_enter Tryd.func57, Tryd.ntmps57
  go_wp2
  go_ret
  exact ⟨rfl, rfl⟩
set_option maxHeartbeats 1000000 in
theorem same_tf (x y : Nat) (w : World) (g0 : FloatKind.f64.format.order x x = some Ordering.eq) (g1 : (FloatKind.f64.format.order y y != some Ordering.eq) = true) : Calls Tryd.prog 57 #[.float .f64 x, .float .f64 y] w fun e w' => e = .returned (.bool false) ∧ w' = w := by
  go_enter Tryd.func57, Tryd.ntmps57
  go_wp2
  go_ret
  exact ⟨rfl, rfl⟩
set_option maxHeartbeats 1000000 in
theorem same_ttf (x y : Nat) (w : World) (g0 : FloatKind.f64.format.order x x = some Ordering.eq) (g1 : FloatKind.f64.format.order y y = some Ordering.eq) (g2 : (FloatKind.f64.format.order x y == some Ordering.eq) = false) : Calls Tryd.prog 57 #[.float .f64 x, .float .f64 y] w fun e w' => e = .returned (.bool false) ∧ w' = w := by
  go_enter Tryd.func57, Tryd.ntmps57
  go_wp2
  go_ret
  exact ⟨rfl, rfl⟩
set_option maxHeartbeats 1000000 in
theorem same_ttt (x y : Nat) (w : World) (g0 : FloatKind.f64.format.order x x = some Ordering.eq) (g1 : FloatKind.f64.format.order y y = some Ordering.eq) (g2 : FloatKind.f64.format.order x y = some Ordering.eq) : Calls Tryd.prog 57 #[.float .f64 x, .float .f64 y] w fun e w' => e = .returned (.bool (signV x == signV y)) ∧ w' = w := by
  have HS := fun z => Aside0.mk (sign_calls z)
  go_enter Tryd.func57, Tryd.ntmps57
  go_wp2_with (first | (go_at_call 63; refine ((HS _).out _).mono ?_; rintro e w' ⟨rfl, rfl⟩))
  go_ret
  exact ⟨rfl, rfl⟩
theorem same_calls (x y : Nat) (w : World) : Calls Tryd.prog 57 #[.float .f64 x, .float .f64 y] w fun e w' => e = .returned (.bool (sameV x y)) ∧ w' = w := by
  cases hx : feq x x with
  | true =>
    cases hy : feq y y with
    | true =>
      cases hz : feq x y with
      | true => rw [show sameV x y = (signV x == signV y) by simp [sameV, hx, hy, hz]]; exact same_ttt x y w (feq_t hx) (feq_t hy) (feq_t hz)
      | false => rw [show sameV x y = false by simp [sameV, hx, hy, hz]]; exact same_ttf x y w (feq_t hx) (feq_t hy) (feq_fb hz)
    | false => rw [show sameV x y = false by simp [sameV, hx, hy]]; exact same_tf x y w (feq_t hx) (feq_fn hy)
  | false =>
    cases hy : feq y y with
    | true => rw [show sameV x y = false by simp [sameV, hx, hy]]; exact same_ft x y w (feq_fn hx) (feq_t hy)
    | false => rw [show sameV x y = true by simp [sameV, hx, hy]]; exact same_ff x y w (feq_fn hx) (feq_fn hy)
/-- Has a value no text, no object? -/
def bareV (v : Val) : Bool := (v.text.toList == []) && decide (v.ref = 0)
/-- Is a value right, in a heap of n objects? -/
def rightV (n : Nat) (v : Val) : Bool :=
  if v.kind = 0 ∨ v.kind = 1 then sameV v.num 0 && bareV v
  else if v.kind = 2 then (sameV v.num 0 || feq v.num 4607182418800017408) && bareV v
  else if v.kind = 3 then bareV v
  else if v.kind = 4 then sameV v.num 0 && decide (v.ref = 0) && decide (v.text.size % 2 = 0)
  else if v.kind = 5 ∨ v.kind = 6 then sameV v.num 0 && (v.text.toList == []) && decide (0 ≤ v.ref) && (decide (v.kind = 6) || decide (v.ref < n))
  else false
/-- A number, as a value. -/
abbrev numV (x : Nat) : Val := ⟨3, x, ⟨#[]⟩, 0⟩
theorem right_num (n x : Nat) : rightV n (numV x) = true := by
  unfold rightV bareV
  simp [Lib.toList_data]
set_option maxHeartbeats 1000000 in
theorem right_num_calls {w : World} {p : Nat} (x : Nat) :
    Calls Tryd.prog 37 #[.pointer (some ⟨p, 0, none⟩), (numV x).agg] w fun e w' => e = .returned (.bool true) ∧ Below w.heap.size w w' := by
  go_enter Tryd.func37, Tryd.ntmps37
  go_wp2
  go_ret
  exact ⟨rfl, by repeat (first | exact Below.refl _ _ | apply below_alloc | apply pw_below_drewN | apply below_drew1)⟩
end
section
theorem info74 : (Tryd.prog.info? 74).map (fun i => (i.zero, i.size, i.bytes)) = some (some (.pointer none), 1, 8) := by kernel_rfl
theorem info33 : (Tryd.prog.info? 33).map (fun i => (i.zero, i.size, i.bytes)) = some (some Val.zero.agg, 4, 40) := by kernel_rfl
theorem info9 : (Tryd.prog.info? 9).map (fun i => (i.zero, i.size, i.bytes)) = some (some (.string ⟨#[]⟩), 1, 16) := by kernel_rfl
section
variable {w w1 : World} {B p : Nat} {K : List (Nat × Obj)} {σ : HSt} {ov v1 : Value} {Ls : List Lay}
theorem HeapAt.setLeft (h : HeapAt w B K p σ ov Ls) (l : Int) : HeapAt (w.setCell ⟨p, 1, none⟩ (.int .i64 l)) B K p ⟨σ.objs, l⟩ ov Ls := by
  have hd := h.dis
  unfold feet at hd
  rw [List.nodup_cons] at hd
  have hp : ∀ b ∈ ov.ownBlock.toList ++ Ls.flatMap Lay.blocks, (w.setCell ⟨p, 1, none⟩ (.int .i64 l)).heap[b]? = w.heap[b]? := fun b hb => Below.heap_setCell w _ _ b (fun e => by rw [show b = p from e] at hb; exact hd.1 hb)
  refine ⟨by simpa using blk_set h.top 1 (.int .i64 l), own_move h.row (fun k hk => hp k (by simp [hk])), h.len, fun i L o hi ho => (h.objs i L o hi ho).move (fun b hb => hp b ?_), h.dis, h.low, h.aside.turn (fun b hb => Below.heap_setCell w _ _ b (fun e => h.held_out hb (by rw [show b = p from e]; exact mem_feet_top))) (fun _ _ h => h)⟩
  exact List.mem_append.2 (.inr (List.mem_flatMap.2 ⟨L, List.mem_of_getElem? hi, hb⟩))
theorem HeapAt.ov_ne (h : HeapAt w B K p σ ov Ls) : some p ≠ ov.ownBlock := by
  have hd := h.dis
  unfold feet at hd
  rw [List.nodup_cons] at hd
  intro e
  exact hd.1 (by simp [← e])
theorem HeapAt.lay_ne (h : HeapAt w B K p σ ov Ls) {L : Lay} (hL : L ∈ Ls) {b : Nat} (hb : b ∈ L.blocks) : b ≠ p ∧ some b ≠ ov.ownBlock := by
  have hd := h.dis
  unfold feet at hd
  rw [List.nodup_cons, List.nodup_append] at hd
  have hm : b ∈ Ls.flatMap Lay.blocks := List.mem_flatMap.2 ⟨L, hL, hb⟩
  refine ⟨fun e => hd.1 (by rw [← e]; exact List.mem_append.2 (.inr hm)), fun e => ?_⟩
  exact hd.2.2.2 b (by simp [← e]) b hm rfl
/-- One object more, behind the append and the store. -/
theorem HeapAt.pushed (h : HeapAt w B K p σ ov Ls) {L : Lay} {o : OSt} (ho : ObjAt w B L o) (hd : ∀ b ∈ L.blocks, b ∉ feet p ov Ls ∧ B ≤ b ∧ ¬ Held K b) (hnd : L.blocks.Nodup)
    (hown : w1.ownsRow B 74 1 v1 (Ls.map obPtr ++ [obPtr L]).length (Ls.map obPtr ++ [obPtr L])) (hg : w.grownBy w1 ov.ownBlock) (hat : v1.ownBlock = ov.ownBlock ∨ ∃ b, v1.ownBlock = some b ∧ w.heap.size ≤ b) :
    HeapAt (w1.setCell ⟨p, 0, none⟩ v1) B K p ⟨σ.objs ++ [o], σ.left⟩ v1 (Ls ++ [L]) := by
  have hlt := h.feet_lt
  have hpne := h.ov_ne
  have hv1 : ∀ b, v1.ownBlock = some b → b ≠ p ∧ (some b = ov.ownBlock ∨ w.heap.size ≤ b) := by
    intro b hb
    rcases hat with e | ⟨b', hb', hs⟩
    · rw [hb] at e
      exact ⟨fun e2 => hpne (by rw [← e2]; exact e), .inl e⟩
    · obtain rfl : b' = b := Option.some.inj (hb'.symm.trans hb)
      have := h.top_lt
      exact ⟨by omega, .inr hs⟩
  have keep : ∀ b, b < w.heap.size → some b ≠ ov.ownBlock → b ≠ p → (w1.setCell ⟨p, 0, none⟩ v1).heap[b]? = w.heap[b]? := fun b hb hne hp =>
    (Below.heap_setCell w1 _ _ b hp).trans (hg.block b hb hne)
  have htop : w1.heap[p]? = w.heap[p]? := hg.block p h.top_lt hpne
  have hLlt := ho.lt
  refine ⟨?_, ?_, ?_, ?_, ?_, ?_, ?_⟩
  · simpa using blk_set (htop.trans h.top) 0 v1
  · have := own_setCell hown (p := ⟨p, 0, none⟩) (fun e => (hv1 p e.symm).1 rfl) v1
    simpa using this
  · simp [h.len]
  · intro i L' o' hi ho'
    by_cases hil : i < Ls.length
    · rw [List.getElem?_append_left hil] at hi
      rw [List.getElem?_append_left (by rw [← h.len]; exact hil)] at ho'
      have hm := List.mem_of_getElem? hi
      refine (h.objs i L' o' hi ho').move (fun b hb => ?_)
      have := h.lay_ne hm hb
      exact keep b (hlt b (mem_feet_lay hm hb)) this.2 this.1
    · rw [List.getElem?_append_right (by omega)] at hi
      rw [List.getElem?_append_right (by rw [← h.len]; omega)] at ho'
      rw [← h.len] at ho'
      obtain ⟨k, hk⟩ : ∃ k, i - Ls.length = k := ⟨_, rfl⟩
      rw [hk] at hi ho'
      cases k with
      | succ k => simp at hi
      | zero =>
        obtain rfl : L = L' := by simpa using hi
        obtain rfl : o = o' := by simpa using ho'
        refine ho.move (fun b hb => ?_)
        have hf := (hd b hb).1
        exact keep b (hLlt b hb) (fun e => hf (by simp [feet, ← e])) (fun e => hf (by rw [e]; exact mem_feet_top))
  · have hd0 := h.dis
    unfold feet at hd0 ⊢
    rw [List.nodup_cons, List.nodup_append] at hd0
    rw [List.nodup_cons, List.flatMap_append, List.nodup_append, List.nodup_append]
    have hfl : [L].flatMap Lay.blocks = L.blocks := by simp
    rw [hfl]
    have hold : ∀ b ∈ Ls.flatMap Lay.blocks, b < w.heap.size := fun b hb => hlt b (by simp only [feet, List.mem_cons, List.mem_append]; exact .inr (.inr hb))
    refine ⟨?_, ?_, ⟨hd0.2.2.1, hnd, fun a ha b hb e => ?_⟩, fun a ha b hb e => ?_⟩
    · intro hm
      rcases List.mem_append.1 hm with hm | hm
      · have := Option.mem_toList.1 hm
        exact (hv1 p this).1 rfl
      · rcases List.mem_append.1 hm with hm | hm
        · exact hd0.1 (List.mem_append.2 (.inr hm))
        · exact (hd p hm).1 mem_feet_top
    · cases v1.ownBlock <;> simp
    · subst e
      exact (hd a hb).1 (by simp only [feet, List.mem_cons, List.mem_append]; exact .inr (.inr ha))
    · subst e
      have ha' := hv1 a (Option.mem_toList.1 ha)
      rcases List.mem_append.1 hb with hb | hb
      · rcases ha'.2 with e | e
        · exact hd0.2.2.2 a (by simp [← e]) a hb rfl
        · have := hold a hb; omega
      · rcases ha'.2 with e | e
        · exact (hd a hb).1 (by simp [feet, ← e])
        · have := hLlt a hb; omega
  · intro b hb
    simp only [feet, List.flatMap_append, List.mem_cons, List.mem_append, Option.mem_toList] at hb
    rcases hb with rfl | hb | hb | hb
    · exact h.low _ mem_feet_top
    · exact own_base hown b hb
    · exact h.low b (by simp only [feet, List.mem_cons, List.mem_append]; exact .inr (.inr hb))
    · exact (hd b (by simpa using hb)).2.1
  · refine h.aside.turn (fun b hb => keep b (h.held_lt hb) (fun e => h.held_out hb (by simp [feet, ← e])) (fun e => h.held_out hb (by rw [e]; exact mem_feet_top))) (fun b hb ho2 hm => ?_)
    simp only [feet, List.flatMap_append, List.mem_cons, List.mem_append, Option.mem_toList] at hm
    rcases hm with rfl | hm | hm | hm
    · exact ho2 mem_feet_top
    · rcases (hv1 b hm).2 with e | e
      · exact ho2 (by simp [feet, ← e])
      · have := h.held_lt hb; omega
    · exact ho2 (by simp only [feet, List.mem_cons, List.mem_append]; exact .inr (.inr hm))
    · exact (hd b (by simpa using hm)).2.2 hb
end
/-- A heap has no room. -/
theorem add_full {w : World} {B p : Nat} {K : List (Nat × Obj)} {σ : HSt} {ov : Value} {Ls : List Lay} (h : HeapAt w B K p σ ov Ls) (ob : Nat) (c : Int) (hlt : σ.left < c) :
    Calls Tryd.prog 38 #[.pointer (some ⟨p, 0, none⟩), .pointer (some ⟨ob, 0, none⟩), .int .i64 c] w fun e w' => e = .returned (.tuple #[.int .i64 0, .int .i64 112]) ∧ w' = w := by
  have hc1 := h.cell1
  have d1 : decide (σ.left < c) = true := decide_eq_true hlt
  clear h hlt
  go_enter Tryd.func38, Tryd.ntmps38
  go_wp2
  go_ret2
  exact ⟨rfl, rfl⟩
/-- What add leaves: one object more. -/
def AddPost (B : Nat) (K : List (Nat × Obj)) (p : Nat) (σ : HSt) (Ls : List Lay) (ob : Nat) (iv : Value) (o : OSt) (c : Int) (w w' : World) : Prop :=
  Below B w w' ∧ ∃ ov' mb, HeapAt w' B K p ⟨σ.objs ++ [o], σ.left - c⟩ ov' (Ls ++ [⟨ob, .slice none 0 0, mb, iv⟩])
set_option maxHeartbeats 2000000 in
theorem add_room {w : World} {B p : Nat} {K : List (Nat × Obj)} {σ : HSt} {ov : Value} {Ls : List Lay} (h : HeapAt w B K p σ ov Ls) (ob : Nat) (c : Int) (k pr a b sc : Int) (iv : Value) (its : List Val)
    (hob : w.heap[ob]? = some (.cells #[.int .i64 k, .int .i64 pr, .int .i64 a, .int .i64 b, .int .i64 sc, .slice none 0 0, .map none, iv] 78 (0, 0)))
    (hobf : ob ∉ feet p ov Ls) (hobk : ¬ Held K ob) (hB : B ≤ ob) (hiv : w.ownsRow B 33 4 iv its.length (its.flatMap Val.vs)) (hivf : ∀ q, iv.ownBlock = some q → q ∉ feet p ov Ls ∧ q ≠ ob ∧ ¬ Held K q)
    (hge : c ≤ σ.left) (hc0 : 0 ≤ c) (hl0 : σ.left ≤ 100000) (hn : Ls.length ≤ 100000) :
    Calls Tryd.prog 38 #[.pointer (some ⟨p, 0, none⟩), .pointer (some ⟨ob, 0, none⟩), .int .i64 c] w fun e w' => e = .returned (.tuple #[.int .i64 Ls.length, .int .i64 0]) ∧ AddPost B K p σ Ls ob iv ⟨k, pr, a, b, sc, [], [], its⟩ c w w' := by
  have p0 := h.cell0
  have p1 := h.cell1
  have pf0 := h.free 0
  have pf1 := h.free 1
  have c6 : w.cell? ⟨ob, 6, none⟩ = some (.map none) := by rw [cell_in hob]; rfl
  have f6 : w.frozen? ⟨ob, 6, none⟩ = false := free_in hob
  have d1 : decide (σ.left < c) = false := decide_eq_false (by omega)
  have lp := h.top_lt
  have lo : ob < w.heap.size := (Array.getElem?_eq_some_iff.1 hob).1
  have np : ¬ (p = w.heap.size) := by omega
  have no : ¬ (ob = w.heap.size) := by omega
  have hne : ¬ (p = ob) := fun e => by rw [← e] at hobf; exact hobf mem_feet_top
  have hne2 : ¬ (ob = p) := fun e => hne e.symm
  have HIV := Aside0.mk (fun q hq => (⟨own_lt hiv q hq, own_base hiv q hq, hivf q hq⟩ : q < w.heap.size ∧ B ≤ q ∧ q ∉ feet p ov Ls ∧ q ≠ ob ∧ ¬ Held K q))
  -- the world behind the map's making
  obtain ⟨wA, hwA⟩ : ∃ wA, wA = ((w.setCell ⟨p, 1, none⟩ (.int .i64 (σ.left - c))).setCell ⟨ob, 6, none⟩ (.map (some w.heap.size))).alloc (.map #[] 0) := ⟨_, rfl⟩
  have hA1 : HeapAt wA B K p ⟨σ.objs, σ.left - c⟩ ov Ls := by
    rw [hwA]
    exact ((h.setLeft _).other (a := ⟨ob, 6, none⟩) hobf hobk _).alloc _
  have szA : wA.heap.size = w.heap.size + 1 := by rw [hwA]; simp
  have hoA : wA.heap[ob]? = some (.cells #[.int .i64 k, .int .i64 pr, .int .i64 a, .int .i64 b, .int .i64 sc, .slice none 0 0, .map (some w.heap.size), iv] 78 (0, 0)) := by
    rw [hwA, Below.heap_alloc _ _ _ (by simpa using lo)]
    have := blk_set (blk_far hob (p := ⟨p, 1, none⟩) hne2 (.int .i64 (σ.left - c))) 6 (.map (some w.heap.size))
    simpa using this
  have hmA : wA.heap[w.heap.size]? = some (.map #[] 0) := by
    rw [hwA]
    have := heap_alloc_new ((w.setCell ⟨p, 1, none⟩ (.int .i64 (σ.left - c))).setCell ⟨ob, 6, none⟩ (.map (some w.heap.size))) (.map #[] 0)
    simpa using this
  have hiA : wA.ownsRow B 33 4 iv its.length (its.flatMap Val.vs) := by
    refine own_move hiv (fun q hq => ?_)
    obtain ⟨q1, q2, q3, q4, q5⟩ := HIV.out q hq
    rw [hwA, Below.heap_alloc _ _ _ (by simpa using q1), Below.heap_setCell _ _ _ _ q4, Below.heap_setCell _ _ _ _ (show q ≠ (⟨p, 1, none⟩ : Addr).block from fun e => by rw [show q = p from e] at q3; exact q3 mem_feet_top)]
  have bA : Below B w wA := by
    rw [hwA]
    exact (((Below.refl B w).setCell (h.low p mem_feet_top) _).setCell hB _).alloc (by simpa using h.base) _
  have hBw := h.base
  have hflt := h.feet_lt
  have hLb : (⟨ob, .slice none 0 0, w.heap.size, iv⟩ : Lay).blocks = ob :: w.heap.size :: iv.ownBlock.toList := rfl
  have HD := Aside0.mk (show ∀ b ∈ (⟨ob, .slice none 0 0, w.heap.size, iv⟩ : Lay).blocks, b ∉ feet p ov Ls ∧ B ≤ b ∧ ¬ Held K b by
    rw [hLb]
    intro b hb
    simp only [List.mem_cons, Option.mem_toList] at hb
    rcases hb with rfl | rfl | hb
    · exact ⟨hobf, hB, hobk⟩
    · exact ⟨fun hm => by have := hflt _ hm; omega, hBw, fun hm => by have := h.held_lt hm; omega⟩
    · obtain ⟨q1, q2, q3, q4, q5⟩ := HIV.out b hb
      exact ⟨q3, q2, q5⟩)
  have HN := Aside0.mk (show (⟨ob, .slice none 0 0, w.heap.size, iv⟩ : Lay).blocks.Nodup by
    rw [hLb]
    simp only [List.nodup_cons, List.mem_cons, Option.mem_toList]
    refine ⟨?_, ?_, ?_⟩
    · rintro (e | e)
      · omega
      · obtain ⟨q1, q2, q3, q4, q5⟩ := HIV.out ob e
        exact q4 rfl
    · intro e
      obtain ⟨q1, q2, q3, q4, q5⟩ := HIV.out _ e
      omega
    · cases iv.ownBlock <;> simp)
  clear hLb
  have h0 : B ≤ p := h.low p mem_feet_top
  have HA := Aside0.mk hA1
  have HO := Aside0.mk hoA
  have HM := Aside0.mk hmA
  have HI := Aside0.mk hiA
  have HBel := Aside0.mk bA
  have HSz := Aside0.mk szA
  have HW := Aside0.mk hwA
  have hmm := @run_makeMap Tryd.prog
  clear h hob hA1 hoA hmA hiA bA szA hwA hiv hivf
  go_enter Tryd.func38, Tryd.ntmps38
  go_upto_region 5 with (fail)
  rw [← HW.out]
  have q0 := HA.out.cell0
  have qf0 := HA.out.free 0
  have ln : ¬ (p = wA.heap.size) := by have := HSz.out; omega
  clear p0 p1 pf0 pf1 c6 f6 lp lo np no hmm HW
  go_upto_region 6 with (at_builtin; refine print_append (w0 := w) (W := wA) B rfl _ _ 70 74 (.pointer none) 8 rfl Tryd.underlying70 info74 rfl (by decide) ov (Ls.map obPtr) (.pointer (some ⟨ob, 0, none⟩)) rfl rfl rfl (by rw [List.length_map]; exact HA.out.row) HBel.out (by have := HSz.out; omega) (by rw [List.length_map]; omega) ?_; intro v1 w5 hown hbel hg hat; have q5 := hg.cell q0 (HA.out.ov_ne); have qf5 := (World.frozen?_of_block (a := ⟨p, 0, none⟩) (hg.block p HA.out.top_lt HA.out.ov_ne)).trans qf0; have HOwn := Aside0.mk hown; have HG := Aside0.mk hg; have HAt := Aside0.mk hat; have HB5 := Aside0.mk hbel; obtain ⟨A1, c1, e1⟩ := own_slice hown; clear hown hg hat hbel q0 qf0)
  have el : (Ls.map obPtr ++ [Value.pointer (some ⟨ob, 0, none⟩)]).length = Ls.length + 1 := by simp
  rw [el] at HOwn e1
  have HEL := Aside0.mk el
  clear el
  subst e1
  go_wp2
  go_ret2
  refine ⟨rfl, HB5.out.setCell (p := ⟨p, 0, none⟩) h0 _, .slice A1 (Ls.length + 1) c1, w.heap.size, ?_⟩
  exact HeapAt.pushed HA.out (L := ⟨ob, .slice none 0 0, w.heap.size, iv⟩) (o := ⟨k, pr, a, b, sc, [], [], its⟩) ⟨HO.out, own_nil _ _ _ _, ⟨#[], 0, HM.out, rfl⟩, HI.out⟩ HD.out HN.out (by rw [show (Ls.map obPtr ++ [obPtr ⟨ob, .slice none 0 0, w.heap.size, iv⟩]).length = Ls.length + 1 from HEL.out]; exact HOwn.out) HG.out HAt.out
end
section
attribute [local go_sem] max2_int min2_int max_two min_two max_three min_three max_four min_four
/-- A small heap's bounds. -/
structure Fit (σ : HSt) : Prop where
  left0 : 0 ≤ σ.left
  left1 : σ.left ≤ 10000
  objs : σ.objs.length ≤ 10000
/-- What a method leaves: its answer, the heap's state, old memory. -/
def Post (B : Nat) (K : List (Nat × Obj)) (p : Nat) (v : Value) (σ : HSt) (w : World) (e : Ending) (w' : World) : Prop := e = .returned v ∧ Below B w w' ∧ HeapOk w' B K p σ
def newLeft (c : Int) : Int := min (max c 0) 10000
theorem heap_new (w : World) (B : Nat) (hB : B ≤ w.heap.size) (l : Int) : HeapAt (w.alloc (.cells #[.slice none 0 0, .int .i64 l] 72)) B [] w.heap.size ⟨[], l⟩ (.slice none 0 0) [] :=
  ⟨heap_alloc_new w _, own_nil _ _ _ _, rfl, fun i L o hi => by simp at hi, by simp [feet, Value.ownBlock], fun b hb => by simp [feet, Value.ownBlock] at hb; omega, fun x hx => by cases hx⟩
theorem new_calls (c : Int) (w : World) : Calls Tryd.prog 13 #[.int .i64 c] w fun e w' => e = .returned (.pointer (some ⟨w.heap.size, 0, none⟩)) ∧ w' = w.alloc (.cells #[.slice none 0 0, .int .i64 (newLeft c)] 72) := by
  go_enter Tryd.func13, Tryd.ntmps13
  go_wp2
  all_goals first
    | (go_ret; exact ⟨rfl, by rw [show newLeft c = 0 by unfold newLeft; omega]⟩)
    | (go_ret; exact ⟨rfl, by rw [show newLeft c = 10000 by unfold newLeft; omega]⟩)
    | (go_ret; exact ⟨rfl, by rw [show newLeft c = c by unfold newLeft; omega]⟩)
theorem num_calls (x : Nat) (w : World) : Calls Tryd.prog 14 #[.float .f64 x] w fun e w' => e = .returned (numV x).agg ∧ Below w.heap.size w w' := by
  go_enter Tryd.func14, Tryd.ntmps14
  go_wp2
  exact bodyPost_ret (v := (numV x).agg) (by simp [results, Tryd.results14, go_sem]) rfl ⟨rfl, by repeat (first | exact Below.refl _ _ | apply below_alloc | apply pw_below_drewN | apply below_drew1)⟩
theorem size_calls {w : World} {B p : Nat} {K : List (Nat × Obj)} {σ : HSt} (h : HeapOk w B K p σ) (hf : Fit σ) :
    Calls Tryd.prog 27 #[.pointer (some ⟨p, 0, none⟩)] w fun e w' => e = .returned (.tuple #[.int .i64 σ.objs.length, .int .i64 σ.left]) ∧ ∃ n, w' = w.drewN n := by
  obtain ⟨ov, Ls, h⟩ := h
  obtain ⟨A, c, rfl, hs⟩ := h.slice
  have hc0 := h.cell0
  have hc1 := h.cell1
  have hl := h.len
  rw [hl] at hc0
  have hb := hf.objs
  clear hs h hl hf
  go_enter Tryd.func27, Tryd.ntmps27
  go_wp2
  repeat (go_quiet (fail); try go_wp2)
  go_ret2
  exact ⟨rfl, by first | exact ⟨0, rfl⟩ | exact ⟨_, rfl⟩⟩
end
section
theorem at_nil {w : World} {B p : Nat} {K : List (Nat × Obj)} {σ : HSt} {ov : Value} {Ls : List Lay} (h : HeapAt w B K p σ ov Ls) (hn : Ls.length ≤ 100000) (i : Int) (hi : ¬ (0 ≤ i ∧ i < Ls.length)) :
    Calls Tryd.prog 40 #[.pointer (some ⟨p, 0, none⟩), .int .i64 i] w fun e w' => e = .returned (.pointer none) ∧ w' = w := by
  have := at_calls h hn i
  rwa [atV_none hi] at this
theorem at_obj {w : World} {B p : Nat} {K : List (Nat × Obj)} {σ : HSt} {ov : Value} {Ls : List Lay} (h : HeapAt w B K p σ ov Ls) (hn : Ls.length ≤ 100000) (i : Int) (h0 : 0 ≤ i) {L : Lay} (hL : Ls[i.toNat]? = some L) :
    Calls Tryd.prog 40 #[.pointer (some ⟨p, 0, none⟩), .int .i64 i] w fun e w' => e = .returned (.pointer (some ⟨L.ob, 0, none⟩)) ∧ w' = w := by
  have := at_calls h hn i
  rwa [atV_some h0 hL] at this
/-- Is there such an object? -/
abbrev Has (σ : HSt) (i : Int) : Prop := 0 ≤ i ∧ i < σ.objs.length
def plainS (σ : HSt) (pr : Int) : Int × Int × HSt :=
  if pr ≠ -1 ∧ ¬ Has σ pr then (0, 3, σ) else if σ.left < 1 then (0, 112, σ) else (σ.objs.length, 0, ⟨σ.objs ++ [⟨1, pr, 0, 0, 0, [], [], []⟩], σ.left - 1⟩)
def Left (B : Nat) (K : List (Nat × Obj)) (p : Nat) (v : Value) (σ : HSt) (w : World) (e : Ending) (w' : World) : Prop := e = .returned v ∧ Below B w w' ∧ HeapOk w' B K p σ
theorem Left.same {B p : Nat} {K : List (Nat × Obj)} {v : Value} {σ : HSt} {w w' : World} {ov : Value} {Ls : List Lay} (h : HeapAt w B K p σ ov Ls) (hb : Below w.heap.size w w') : Left B K p v σ w (.returned v) w' :=
  ⟨rfl, hb.mono h.base, ov, Ls, h.below hb⟩
/-- One object more, or no room. -/
def addS (σ : HSt) (o : OSt) (c : Int) : Int × Int × HSt := if σ.left < c then (0, 112, σ) else (σ.objs.length, 0, ⟨σ.objs ++ [o], σ.left - c⟩)
theorem add_new {w : World} {B p : Nat} {K : List (Nat × Obj)} {σ : HSt} {ov : Value} {Ls : List Lay} (h : HeapAt w B K p σ ov Ls) (hf : Fit σ) (k pr a b sc : Int) :
    Calls Tryd.prog 38 #[.pointer (some ⟨p, 0, none⟩), .pointer (some ⟨w.heap.size, 0, none⟩), .int .i64 1] (w.alloc (.cells #[.int .i64 k, .int .i64 pr, .int .i64 a, .int .i64 b, .int .i64 sc, .slice none 0 0, .map none, .slice none 0 0] 78))
      (Left B K p (.tuple #[.int .i64 (addS σ ⟨k, pr, a, b, sc, [], [], []⟩ 1).1, .int .i64 (addS σ ⟨k, pr, a, b, sc, [], [], []⟩ 1).2.1]) (addS σ ⟨k, pr, a, b, sc, [], [], []⟩ 1).2.2 w) := by
  have h1 := h.alloc (.cells #[.int .i64 k, .int .i64 pr, .int .i64 a, .int .i64 b, .int .i64 sc, .slice none 0 0, .map none, .slice none 0 0] 78)
  have hb1 : Below B w (w.alloc (.cells #[.int .i64 k, .int .i64 pr, .int .i64 a, .int .i64 b, .int .i64 sc, .slice none 0 0, .map none, .slice none 0 0] 78)) := (Below.refl _ _).alloc h.base _
  unfold addS
  by_cases c1 : σ.left < 1
  · rw [if_pos c1]
    refine (add_full h1 w.heap.size 1 c1).mono ?_
    rintro e w' ⟨rfl, rfl⟩
    exact ⟨rfl, hb1, ov, Ls, h1⟩
  · rw [if_neg c1]
    have f1 := hf.left1
    have f2 := hf.objs
    refine (add_room h1 w.heap.size 1 k pr a b sc (.slice none 0 0) [] (heap_alloc_new w _) (fun hm => by have := h.feet_lt _ hm; omega) (fun hm => by have := h.held_lt hm; omega) h.base (own_nil _ _ _ _) (fun q hq => by cases hq) (by omega) (by omega) (by omega) (by rw [h.len]; omega)).mono ?_
    rintro e w' ⟨rfl, hb, ov', mb, hh⟩
    exact ⟨by rw [h.len], hb1.trans hb, ov', _, hh⟩
theorem plain_calls {w : World} {B p : Nat} {K : List (Nat × Obj)} {σ : HSt} (hok : HeapOk w B K p σ) (hf : Fit σ) (pr : Int) :
    Calls Tryd.prog 21 #[.pointer (some ⟨p, 0, none⟩), .int .i64 pr] w (Left B K p (.tuple #[.int .i64 (plainS σ pr).1, .int .i64 (plainS σ pr).2.1]) (plainS σ pr).2.2 w) := by
  obtain ⟨ov, Ls, h⟩ := hok
  have hl := h.len
  have hn : Ls.length ≤ 100000 := by have := hf.objs; omega
  have HA := Aside0.mk (add_new h hf 1 pr 0 0 0)
  by_cases c1 : pr = -1
  · have d1 : (pr == -1) = true := beq_iff_eq.mpr c1
    have d2 : (pr != -1) = false := bne_eq_false_iff_eq.mpr c1
    have e : plainS σ pr = addS σ ⟨1, pr, 0, 0, 0, [], [], []⟩ 1 := by unfold plainS addS; rw [if_neg (fun hh => hh.1 c1)]
    rw [e]
    generalize addS σ ⟨1, pr, 0, 0, 0, [], [], []⟩ 1 = R at *
    obtain ⟨r1, r2, σ'⟩ := R
    clear h hl hn hf e c1
    go_enter Tryd.func21, Tryd.ntmps21
    go_wp2_with (go_at_call 38; refine (HA.out).mono ?_; rintro e w' ⟨rfl, hb, hok⟩)
    go_ret2
    exact ⟨rfl, hb, hok⟩
  · have d1 : (pr == -1) = false := beq_eq_false_iff_ne.mpr c1
    have d2 : (pr != -1) = true := bne_iff_ne.mpr c1
    by_cases c2 : Has σ pr
    · have e : plainS σ pr = addS σ ⟨1, pr, 0, 0, 0, [], [], []⟩ 1 := by unfold plainS addS; rw [if_neg (fun hh => hh.2 c2)]
      rw [e]
      generalize addS σ ⟨1, pr, 0, 0, 0, [], [], []⟩ 1 = R at *
      obtain ⟨r1, r2, σ'⟩ := R
      have hlt : pr.toNat < Ls.length := by have := c2.1; have := c2.2; omega
      have HC := Aside0.mk (at_obj h hn pr c2.1 (List.getElem?_eq_getElem hlt))
      clear h hl hn hf e c1 c2
      go_enter Tryd.func21, Tryd.ntmps21
      go_wp2_with (first | (go_at_call 40; refine (HC.out).mono ?_; rintro e w' ⟨rfl, rfl⟩) | (go_at_call 38; refine (HA.out).mono ?_; rintro e w' ⟨rfl, hb, hok⟩))
      go_ret2
      exact ⟨rfl, hb, hok⟩
    · have e : plainS σ pr = (0, 3, σ) := by unfold plainS; rw [if_pos ⟨c1, c2⟩]
      rw [e]
      have HC := Aside0.mk (at_nil h hn pr (by rw [hl]; exact c2))
      have HFin := Aside0.mk (fun w' hb => Left.same (v := .tuple #[.int .i64 0, .int .i64 3]) (w' := w') h hb)
      clear h hl hn hf e c1 c2
      go_enter Tryd.func21, Tryd.ntmps21
      go_wp2_with (go_at_call 40; refine (HC.out).mono ?_; rintro e w' ⟨rfl, rfl⟩)
      go_ret2
      exact HFin.out _ (Below.refl _ _)
end
end Go.Proofs.YtnfobcedbfbbiaaDoor.Hp
