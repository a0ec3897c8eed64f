/- play: one call, whatever it is; a script of calls, as it came in; long. -/
import Derived.Test.YtnfobcedbfbbiaaDoorHpS
namespace Go.Proofs.YtnfobcedbfbbiaaDoor.Hp
open Go.RowKit Go.Proofs.YtnfobcedbfbbiaaDoorW.PrintWords Go.Proofs.YtnfobcedbfbbiaaDoorW.PrintLast Go.Proofs.YtnfobcedbfbbiaaDoorW.PrintMore Go.Proofs.YtnfobcedbfbbiaaDoor.Hand Go.Proofs.YtnfobcedbfbbiaaDoor.PIx Go.Proofs.YtnfobcedbfbbiaaDoor.Pure
set_option linter.unusedVariables false
set_option linter.unusedSimpArgs false
/-- A call, as it came in. -/
structure CallV where
  kind : Int
  i : Int
  n : Int
  key : ByteArray
  v : Val
  iv : Value
  its : List Val
abbrev CallV.cells (c : CallV) : Array Value := #[.int .u8 c.kind, .int .i64 c.i, .int .i64 c.n, .string c.key, .int .i64 c.v.kind, .float .f64 c.v.num, .string c.v.text, .int .i64 c.v.ref, c.iv]
structure CallOk (w : World) (c : CallV) : Prop where
  kind : 0 ≤ c.kind ∧ c.kind ≤ 255
  key : c.key.size ≤ 140737488351232
  text : c.v.text.size ≤ 140737488351232
  its : c.its.length ≤ 10000
  vals : Vals w c.iv c.its
/-- A reply's cells. -/
abbrev RB (n m k : Int) (v : Val) (q : Bool) (e : Int) (A1 : Option Addr) (n1 c1 : Nat) (A2 : Option Addr) (n2 c2 : Nat) : Array Value :=
  #[.int .i64 n, .int .i64 m, .int .i64 k, .int .i64 v.kind, .float .f64 v.num, .string v.text, .int .i64 v.ref, .bool q, .int .i64 e, .slice A1 n1 c1, .slice A2 n2 c2]
abbrev R0 : Array Value := #[.int .i64 0, .int .i64 0, .int .i64 0, .int .i64 0, .float .f64 0, .string ⟨#[]⟩, .int .i64 0, .bool false, .int .i64 0, .slice none 0 0, .slice none 0 0]
theorem rb_cells {w : World} {b : Nat} {n m k : Int} {v : Val} {q : Bool} {e : Int} {A1 : Option Addr} {n1 c1 : Nat} {A2 : Option Addr} {n2 c2 : Nat} (h : w.heap[b]? = some (.cells (RB n m k v q e A1 n1 c1 A2 n2 c2) 56 (0, 0))) :
    w.cell? ⟨b, 0, none⟩ = some (.int .i64 n) ∧ w.cell? ⟨b, 1, none⟩ = some (.int .i64 m) ∧ w.cell? ⟨b, 2, none⟩ = some (.int .i64 k) ∧ w.cell? ⟨b, 3, none⟩ = some (.int .i64 v.kind) ∧ w.cell? ⟨b, 4, none⟩ = some (.float .f64 v.num) ∧ w.cell? ⟨b, 5, none⟩ = some (.string v.text) ∧ w.cell? ⟨b, 6, none⟩ = some (.int .i64 v.ref) ∧
    w.cell? ⟨b, 7, none⟩ = some (.bool q) ∧ w.cell? ⟨b, 8, none⟩ = some (.int .i64 e) ∧ w.cell? ⟨b, 9, none⟩ = some (.slice A1 n1 c1) ∧ w.cell? ⟨b, 10, none⟩ = some (.slice A2 n2 c2) ∧ (∀ j, w.frozen? ⟨b, j, none⟩ = false) :=
  ⟨(cell_in h).trans rfl, (cell_in h).trans rfl, (cell_in h).trans rfl, (cell_in h).trans rfl, (cell_in h).trans rfl, (cell_in h).trans rfl, (cell_in h).trans rfl, (cell_in h).trans rfl, (cell_in h).trans rfl, (cell_in h).trans rfl, (cell_in h).trans rfl, fun j => free_in h⟩
theorem call_cells {w : World} {b : Nat} {c : CallV} (h : w.heap[b]? = some (.cells c.cells 54 (0, 0))) :
    w.cell? ⟨b, 0, none⟩ = some (.int .u8 c.kind) ∧ w.cell? ⟨b, 1, none⟩ = some (.int .i64 c.i) ∧ w.cell? ⟨b, 2, none⟩ = some (.int .i64 c.n) ∧ w.cell? ⟨b, 3, none⟩ = some (.string c.key) ∧ w.cell? ⟨b, 4, none⟩ = some (.int .i64 c.v.kind) ∧ w.cell? ⟨b, 5, none⟩ = some (.float .f64 c.v.num) ∧ w.cell? ⟨b, 6, none⟩ = some (.string c.v.text) ∧ w.cell? ⟨b, 7, none⟩ = some (.int .i64 c.v.ref) ∧ w.cell? ⟨b, 8, none⟩ = some c.iv :=
  ⟨(cell_in h).trans rfl, (cell_in h).trans rfl, (cell_in h).trans rfl, (cell_in h).trans rfl, (cell_in h).trans rfl, (cell_in h).trans rfl, (cell_in h).trans rfl, (cell_in h).trans rfl, (cell_in h).trans rfl⟩
theorem HeapOk.putK {w : World} {B p : Nat} {b : Nat} {cs : Array Value} {t : TypeId} {K : List (Nat × Obj)} {σ : HSt} (h : HeapOk w B ((b, .cells cs t (0, 0)) :: K) p σ) (hb : ¬ Held K b) (j : Nat) (u : Value) :
    HeapOk (w.setCell ⟨b, j, none⟩ u) B ((b, .cells (cs.setIfInBounds j u) t (0, 0)) :: K) p σ := by
  obtain ⟨ov, Ls, h⟩ := h
  have h1 := h.kept (b := b) List.mem_cons_self
  have h2 := h.held_out (b := b) ⟨_, List.mem_cons_self, rfl⟩
  exact ⟨ov, Ls, (h.unbox.other (a := ⟨b, j, none⟩) h2 hb u).keep (blk_set h1 j u) h2⟩
theorem HeapOk.offK {w w2 : World} {B p : Nat} {b : Nat} {x : Obj} {K : List (Nat × Obj)} {σ : HSt} (h : HeapOk w B ((b, x) :: K) p σ) (hw : ∀ g, g ≠ b → w2.heap[g]? = w.heap[g]?) : HeapOk w2 B [] p σ := by
  obtain ⟨ov, Ls, h⟩ := h
  have h2 := h.held_out (b := b) ⟨_, List.mem_cons_self, rfl⟩
  exact ⟨ov, Ls, (h.less (K' := []) (fun y hy => by cases hy)).move (fun g hg => hw g (fun e => h2 (e ▸ hg))) (fun g hg => by obtain ⟨y, hy, _⟩ := hg; cases hy)⟩
theorem rb_set {w : World} {b : Nat} {n m k : Int} {v : Val} {q : Bool} {e : Int} {A1 : Option Addr} {n1 c1 : Nat} {A2 : Option Addr} {n2 c2 : Nat} (h : w.heap[b]? = some (.cells R0 56 (0, 0))) :
    (((((((((((w.setCell ⟨b, 0, none⟩ (.int .i64 n)).setCell ⟨b, 1, none⟩ (.int .i64 m)).setCell ⟨b, 2, none⟩ (.int .i64 k)).setCell ⟨b, 3, none⟩ (.int .i64 v.kind)).setCell ⟨b, 4, none⟩ (.float .f64 v.num)).setCell ⟨b, 5, none⟩ (.string v.text)).setCell ⟨b, 6, none⟩ (.int .i64 v.ref)).setCell ⟨b, 7, none⟩ (.bool q)).setCell ⟨b, 8, none⟩ (.int .i64 e)).setCell ⟨b, 9, none⟩ (.slice A1 n1 c1)).setCell ⟨b, 10, none⟩ (.slice A2 n2 c2)).heap[b]? = some (.cells (RB n m k v q e A1 n1 c1 A2 n2 c2) 56 (0, 0)) ∧ (∀ g, g ≠ b → (((((((((((w.setCell ⟨b, 0, none⟩ (.int .i64 n)).setCell ⟨b, 1, none⟩ (.int .i64 m)).setCell ⟨b, 2, none⟩ (.int .i64 k)).setCell ⟨b, 3, none⟩ (.int .i64 v.kind)).setCell ⟨b, 4, none⟩ (.float .f64 v.num)).setCell ⟨b, 5, none⟩ (.string v.text)).setCell ⟨b, 6, none⟩ (.int .i64 v.ref)).setCell ⟨b, 7, none⟩ (.bool q)).setCell ⟨b, 8, none⟩ (.int .i64 e)).setCell ⟨b, 9, none⟩ (.slice A1 n1 c1)).setCell ⟨b, 10, none⟩ (.slice A2 n2 c2)).heap[g]? = w.heap[g]?) ∧ (∀ B w0, Below B w0 w → B ≤ b → Below B w0 (((((((((((w.setCell ⟨b, 0, none⟩ (.int .i64 n)).setCell ⟨b, 1, none⟩ (.int .i64 m)).setCell ⟨b, 2, none⟩ (.int .i64 k)).setCell ⟨b, 3, none⟩ (.int .i64 v.kind)).setCell ⟨b, 4, none⟩ (.float .f64 v.num)).setCell ⟨b, 5, none⟩ (.string v.text)).setCell ⟨b, 6, none⟩ (.int .i64 v.ref)).setCell ⟨b, 7, none⟩ (.bool q)).setCell ⟨b, 8, none⟩ (.int .i64 e)).setCell ⟨b, 9, none⟩ (.slice A1 n1 c1)).setCell ⟨b, 10, none⟩ (.slice A2 n2 c2))) := by
  refine ⟨?_, fun g hg => ?_, fun B w0 hb hB => ?_⟩
  · have hh := (blk_set (blk_set (blk_set (blk_set (blk_set (blk_set (blk_set (blk_set (blk_set (blk_set (blk_set h 0 (.int .i64 n)) 1 (.int .i64 m)) 2 (.int .i64 k)) 3 (.int .i64 v.kind)) 4 (.float .f64 v.num)) 5 (.string v.text)) 6 (.int .i64 v.ref)) 7 (.bool q)) 8 (.int .i64 e)) 9 (.slice A1 n1 c1)) 10 (.slice A2 n2 c2))
    rw [hh]
    simp
  · repeat rw [Below.heap_setCell _ _ _ g hg]
  · have hq0 := hb.setCell (p := ⟨b, 0, none⟩) hB (.int .i64 n)
    have hq1 := hq0.setCell (p := ⟨b, 1, none⟩) hB (.int .i64 m)
    have hq2 := hq1.setCell (p := ⟨b, 2, none⟩) hB (.int .i64 k)
    have hq3 := hq2.setCell (p := ⟨b, 3, none⟩) hB (.int .i64 v.kind)
    have hq4 := hq3.setCell (p := ⟨b, 4, none⟩) hB (.float .f64 v.num)
    have hq5 := hq4.setCell (p := ⟨b, 5, none⟩) hB (.string v.text)
    have hq6 := hq5.setCell (p := ⟨b, 6, none⟩) hB (.int .i64 v.ref)
    have hq7 := hq6.setCell (p := ⟨b, 7, none⟩) hB (.bool q)
    have hq8 := hq7.setCell (p := ⟨b, 8, none⟩) hB (.int .i64 e)
    have hq9 := hq8.setCell (p := ⟨b, 9, none⟩) hB (.slice A1 n1 c1)
    have hq10 := hq9.setCell (p := ⟨b, 10, none⟩) hB (.slice A2 n2 c2)
    exact hq10
/-- The three boxes beside the heap. -/
abbrev K3 (b : Nat) (c : CallV) (r : Array Value) : List (Nat × Obj) := [(b + 1 + 1, .cells r 56 (0, 0)), (b + 1, .cells R0 56 (0, 0)), (b, .cells c.cells 54 (0, 0))]
theorem K3_free (b : Nat) (c : CallV) : ¬ Held [(b + 1, (.cells R0 56 (0, 0) : Obj)), (b, .cells c.cells 54 (0, 0))] (b + 1 + 1) := by
  rintro ⟨x, hx, e⟩
  simp only [List.mem_cons, List.mem_nil_iff, or_false] at hx
  rcases hx with rfl | rfl <;> simp only at e <;> omega
/-- Keys, Items: some slice. -/
theorem keys_any {w : World} {B p : Nat} {K : List (Nat × Obj)} {σ : HSt} (hok : HeapOk w B K p σ) (hf : Fine σ) (hT : Tabs w) (i : Int) :
    Calls Tryd.prog 18 #[.pointer (some ⟨p, 0, none⟩), .int .i64 i] w fun e w' => (∃ A n c, e = .returned (.slice A n c)) ∧ Below w.heap.size w w' := by
  obtain ⟨ov, Ls, h⟩ := hok
  cases ho : objS σ i with
  | none =>
    refine (keys_none h hf.fit i ho).mono ?_
    rintro e w' ⟨v1, rfl, hown, hb⟩
    obtain ⟨A, c, rfl⟩ := own_slice hown
    exact ⟨⟨_, _, _, rfl⟩, hb⟩
  | some o =>
    have hm := List.mem_of_getElem? (objS_some ho).2.2
    refine (keys_some h hf.fit hT i o ho (hf.items o hm) (hf.keys o hm)).mono ?_
    rintro e w' ⟨v1, rfl, hown, hb⟩
    obtain ⟨A, c, rfl⟩ := own_slice hown
    exact ⟨⟨_, _, _, rfl⟩, hb⟩
theorem items_any {w : World} {B p : Nat} {K : List (Nat × Obj)} {σ : HSt} (hok : HeapOk w B K p σ) (hf : Fine σ) (i : Int) :
    Calls Tryd.prog 17 #[.pointer (some ⟨p, 0, none⟩), .int .i64 i] w fun e w' => (∃ A n c q, e = .returned (.tuple #[.slice A n c, .bool q])) ∧ Below w.heap.size w w' := by
  obtain ⟨ov, Ls, h⟩ := hok
  by_cases hk : ∃ o, objS σ i = some o ∧ o.kind = 2
  · obtain ⟨o, ho, hk⟩ := hk
    have hm := List.mem_of_getElem? (objS_some ho).2.2
    refine (items_calls h hf.fit i o ho hk (hf.items o hm)).mono ?_
    rintro e w' ⟨v1, rfl, hown, hb⟩
    obtain ⟨A, c, rfl⟩ := own_slice hown
    exact ⟨⟨_, _, _, _, rfl⟩, hb⟩
  · refine (items_none h hf.fit i (fun o ho hk2 => hk ⟨o, ho, hk2⟩)).mono ?_
    rintro e w' ⟨rfl, rfl⟩
    exact ⟨⟨_, _, _, _, rfl⟩, Below.refl _ _⟩
/-- What the switch leaves. -/
structure SwRel (w wc : World) (B p : Nat) (G : Int) (c : CallV) (rn rm rk : Int) (rv : Val) (q : Bool) (A1 : Option Addr) (n1 c1 : Nat) (A2 : Option Addr) (n2 c2 : Nat) (σ' : HSt) : Prop where
  ok : HeapOk wc B (K3 w.heap.size c (RB rn rm rk rv q 0 A1 n1 c1 A2 n2 c2)) p σ'
  inv : Inv G σ'
  bel : Below B w wc
set_option maxRecDepth 100000 in
set_option maxHeartbeats 4000000 in
theorem play_calls {w : World} {B p : Nat} {G : Int} {σ : HSt} (hok : HeapOk w B [] p σ) (hi : Inv G σ) (hT : ∀ w', Below B w w' → Tabs w') (c : CallV) (hc : CallOk w c) :
    Calls Tryd.prog 26 #[.pointer (some ⟨p, 0, none⟩), .agg c.cells] w fun e w' => (∃ v, e = .returned v) ∧ Below B w w' ∧ ∃ σ', HeapOk w' B [] p σ' ∧ Inv G σ' := by
  obtain ⟨A, ca, hiv⟩ := hc.vals.slice
  have HC := Aside0.mk hc
  have HI := Aside0.mk hi
  have hbase := hok.base
  have HBW := Aside0.mk (show B ≤ w.heap.size + 1 by omega)
  have hb3 := ((((Below.refl B w).alloc hbase (.cells c.cells 54)).alloc (by rw [World.size_alloc]; omega) (.cells R0 56)).alloc (by rw [World.size_alloc, World.size_alloc]; omega) (.cells R0 56))
  have hx3 := ((((Below.refl w.heap.size w).alloc (Nat.le_refl _) (.cells c.cells 54)).alloc (by rw [World.size_alloc]; omega) (.cells R0 56)).alloc (by rw [World.size_alloc, World.size_alloc]; omega) (.cells R0 56))
  have ok3 := ((hok.boxed (.cells c.cells 54)).boxed (.cells R0 56)).boxed (.cells R0 56)
  simp only [World.size_alloc] at ok3
  have HX3 := Aside0.mk hx3
  have OK3 := Aside0.mk (show HeapOk _ B (K3 w.heap.size c (RB 0 0 0 Val.zero false 0 none 0 0 none 0 0)) p σ from ok3)
  have HB3 := Aside0.mk hb3
  have HV3 := Aside0.mk (hc.vals.below hx3)
  have HT := Aside0.mk hT
  have hkr : 0 ≤ c.kind.tmod 10 ∧ c.kind.tmod 10 ≤ 9 := by
    have h0 := hc.kind.1
    obtain ⟨kk, hkk⟩ := Int.eq_ofNat_of_zero_le h0
    rw [hkk]
    have : (kk : Int).tmod 10 = ((kk % 10 : Nat) : Int) := rfl
    rw [this]; omega
  have HKR := Aside0.mk hkr
  clear hc hi hok hT hbase hb3 hx3 ok3 hkr
  go_enter Tryd.func26, Tryd.ntmps26
  go_upto_block 0 with (fail)
  generalize ((w.alloc (.cells c.cells 54)).alloc (.cells R0 56)).alloc (.cells R0 56) = w3 at *
  generalize hr : c.kind.tmod 10 = r at *
  clear hr
  go_cut [6, 9] (fun v6 v9 wc => ∃ (ev rn rm rk : Int) (rv : Val) (q : Bool) (A1 : Option Addr) (n1 c1 : Nat) (A2 : Option Addr) (n2 c2 : Nat) (σ' : HSt) (r9 : Int), v6 = .int .i64 ev ∧ v9 = .int .u8 r9 ∧ Aside0 (SwRel w wc B p G c rn rm rk rv q A1 n1 c1 A2 n2 c2 σ'))
  case first =>
    have HBb := Aside0.mk (show B ≤ w.heap.size + 1 + 1 by have := HBW.out; omega)
    have HIV := Aside0.mk hiv
    clear hiv
    obtain ⟨x0, x1, x2, x3, x4, x5, x6, x7, x8, x9, x10, xf⟩ := rb_cells (OK3.out.kept (b := w.heap.size + 1 + 1) List.mem_cons_self)
    obtain ⟨z0, z1, z2, z3, z4, z5, z6, z7, z8⟩ := call_cells (OK3.out.kept (b := w.heap.size) (x := .cells c.cells 54 (0, 0)) (by simp))
    have hr10 : r = 0 ∨ r = 1 ∨ r = 2 ∨ r = 3 ∨ r = 4 ∨ r = 5 ∨ r = 6 ∨ r = 7 ∨ r = 8 ∨ r = 9 := by have := HKR.out; omega
    have F3 := Aside0.mk HI.out.fine
    clear HKR
    rcases hr10 with rfl | rfl | rfl | rfl | rfl | rfl | rfl | rfl | rfl | rfl
    · have CC := plain_calls OK3.out F3.out.fit c.i
      have IN := Aside0.mk (HI.out.plain c.i)
      generalize plainS σ c.i = R at *
      obtain ⟨r1, r2, σ'⟩ := R
      have CC := Aside0.mk CC
      go_wp2_with (go_at_call 21; go_must (refine (CC.out).mono ?_; rintro e w4 ⟨rfl, hb, ok⟩; have OK4 := Aside0.mk ok; have HB4 := Aside0.mk (HB3.out.trans hb); clear x0 x1 x2 x3 x4 x5 x6 x7 x8 x9 x10 xf z0 z1 z2 z3 z4 z5 z6 z7 z8 ok hb; obtain ⟨x0, x1, x2, x3, x4, x5, x6, x7, x8, x9, x10, xf⟩ := rb_cells (OK4.out.kept (b := w.heap.size + 1 + 1) List.mem_cons_self); obtain ⟨z0, z1, z2, z3, z4, z5, z6, z7, z8⟩ := call_cells (OK4.out.kept (b := w.heap.size) (x := .cells c.cells 54 (0, 0)) (by simp))))
      go_meet
      case rel => exact ⟨r2, r1, 0, 0, Val.zero, false, none, 0, 0, none, 0, 0, σ', 0, rfl, rfl, ⟨⟨(OK4.out.putK (K3_free _ _) 0 (.int .i64 r1)), IN.out, (HB4.out.setCell (p := ⟨w.heap.size + 1 + 1, 0, none⟩) HBb.out (.int .i64 r1))⟩⟩⟩
    · have CC := arr_calls OK3.out F3.out.fit c.iv c.its HV3.out HC.out.its
      have IN := Aside0.mk (HI.out.arr c.its)
      generalize arrS σ c.its = R at *
      obtain ⟨r1, r2, σ'⟩ := R
      rw [HIV.out] at CC z8
      have CC := Aside0.mk CC
      go_wp2_with (go_at_call 15; go_must (refine (CC.out).mono ?_; rintro e w4 ⟨rfl, hb, ok⟩; have OK4 := Aside0.mk ok; have HB4 := Aside0.mk (HB3.out.trans hb); clear x0 x1 x2 x3 x4 x5 x6 x7 x8 x9 x10 xf z0 z1 z2 z3 z4 z5 z6 z7 z8 ok hb; obtain ⟨x0, x1, x2, x3, x4, x5, x6, x7, x8, x9, x10, xf⟩ := rb_cells (OK4.out.kept (b := w.heap.size + 1 + 1) List.mem_cons_self); obtain ⟨z0, z1, z2, z3, z4, z5, z6, z7, z8⟩ := call_cells (OK4.out.kept (b := w.heap.size) (x := .cells c.cells 54 (0, 0)) (by simp))))
      go_meet
      case rel => exact ⟨r2, r1, 0, 0, Val.zero, false, none, 0, 0, none, 0, 0, σ', 1, rfl, rfl, ⟨⟨(OK4.out.putK (K3_free _ _) 0 (.int .i64 r1)), IN.out, (HB4.out.setCell (p := ⟨w.heap.size + 1 + 1, 0, none⟩) HBb.out (.int .i64 r1))⟩⟩⟩
    · have CC := func_calls OK3.out F3.out.fit c.n (c.key.size : Int) c.i
      have IN := Aside0.mk (HI.out.func c.n (c.key.size : Int) c.i)
      generalize funcS σ c.n (c.key.size : Int) c.i = R at *
      obtain ⟨r1, r2, σ'⟩ := R
      have CC := Aside0.mk CC
      go_wp2_with (go_at_call 48; go_must (refine (CC.out).mono ?_; rintro e w4 ⟨rfl, hb, ok⟩; have OK4 := Aside0.mk ok; have HB4 := Aside0.mk (HB3.out.trans hb); clear x0 x1 x2 x3 x4 x5 x6 x7 x8 x9 x10 xf z0 z1 z2 z3 z4 z5 z6 z7 z8 ok hb; obtain ⟨x0, x1, x2, x3, x4, x5, x6, x7, x8, x9, x10, xf⟩ := rb_cells (OK4.out.kept (b := w.heap.size + 1 + 1) List.mem_cons_self); obtain ⟨z0, z1, z2, z3, z4, z5, z6, z7, z8⟩ := call_cells (OK4.out.kept (b := w.heap.size) (x := .cells c.cells 54 (0, 0)) (by simp))))
      go_meet
      case rel => exact ⟨r2, r1, 0, 0, Val.zero, false, none, 0, 0, none, 0, 0, σ', 2, rfl, rfl, ⟨⟨(OK4.out.putK (K3_free _ _) 0 (.int .i64 r1)), IN.out, (HB4.out.setCell (p := ⟨w.heap.size + 1 + 1, 0, none⟩) HBb.out (.int .i64 r1))⟩⟩⟩
    · have CC := put_calls OK3.out F3.out c.i c.key c.v HC.out.key HC.out.text
      have IN := Aside0.mk (HI.out.put c.i c.key c.v)
      generalize putH σ c.i c.key c.v = R at *
      obtain ⟨r2, σ'⟩ := R
      have CC := Aside0.mk CC
      go_wp2_with (go_at_call 16; go_must (refine (CC.out).mono ?_; rintro e w4 ⟨rfl, hb, ok⟩; have OK4 := Aside0.mk ok; have HB4 := Aside0.mk (HB3.out.trans hb); clear x0 x1 x2 x3 x4 x5 x6 x7 x8 x9 x10 xf z0 z1 z2 z3 z4 z5 z6 z7 z8 ok hb; obtain ⟨x0, x1, x2, x3, x4, x5, x6, x7, x8, x9, x10, xf⟩ := rb_cells (OK4.out.kept (b := w.heap.size + 1 + 1) List.mem_cons_self); obtain ⟨z0, z1, z2, z3, z4, z5, z6, z7, z8⟩ := call_cells (OK4.out.kept (b := w.heap.size) (x := .cells c.cells 54 (0, 0)) (by simp))))
      go_meet
      case rel => exact ⟨r2, 0, 0, 0, Val.zero, false, none, 0, 0, none, 0, 0, σ', 3, rfl, rfl, ⟨⟨OK4.out, IN.out, HB4.out⟩⟩⟩
    · have CC := put_calls OK3.out F3.out c.i c.key c.v HC.out.key HC.out.text
      have IN := Aside0.mk (HI.out.put c.i c.key c.v)
      generalize putH σ c.i c.key c.v = R at *
      obtain ⟨r2, σ'⟩ := R
      have CC := Aside0.mk CC
      go_wp2_with (go_at_call 16; go_must (refine (CC.out).mono ?_; rintro e w4 ⟨rfl, hb, ok⟩; have OK4 := Aside0.mk ok; have HB4 := Aside0.mk (HB3.out.trans hb); clear x0 x1 x2 x3 x4 x5 x6 x7 x8 x9 x10 xf z0 z1 z2 z3 z4 z5 z6 z7 z8 ok hb; obtain ⟨x0, x1, x2, x3, x4, x5, x6, x7, x8, x9, x10, xf⟩ := rb_cells (OK4.out.kept (b := w.heap.size + 1 + 1) List.mem_cons_self); obtain ⟨z0, z1, z2, z3, z4, z5, z6, z7, z8⟩ := call_cells (OK4.out.kept (b := w.heap.size) (x := .cells c.cells 54 (0, 0)) (by simp))))
      go_meet
      case rel => exact ⟨r2, 0, 0, 0, Val.zero, false, none, 0, 0, none, 0, 0, σ', 4, rfl, rfl, ⟨⟨OK4.out, IN.out, HB4.out⟩⟩⟩
    · have CC := set_calls OK3.out F3.out HI.out.desc c.i c.key c.v HC.out.key HC.out.text
      have IN := Aside0.mk (HI.out.set c.i c.key c.v)
      generalize setH σ c.i c.key c.v = R at *
      obtain ⟨r1, r2, σ'⟩ := R
      have CC := Aside0.mk CC
      go_wp2_with (go_at_call 49; go_must (refine (CC.out).mono ?_; rintro e w4 ⟨rfl, hb, ok⟩; have OK4 := Aside0.mk ok; have HB4 := Aside0.mk (HB3.out.trans hb); clear x0 x1 x2 x3 x4 x5 x6 x7 x8 x9 x10 xf z0 z1 z2 z3 z4 z5 z6 z7 z8 ok hb; obtain ⟨x0, x1, x2, x3, x4, x5, x6, x7, x8, x9, x10, xf⟩ := rb_cells (OK4.out.kept (b := w.heap.size + 1 + 1) List.mem_cons_self); obtain ⟨z0, z1, z2, z3, z4, z5, z6, z7, z8⟩ := call_cells (OK4.out.kept (b := w.heap.size) (x := .cells c.cells 54 (0, 0)) (by simp))))
      go_meet
      case rel => exact ⟨r2, 0, 0, 0, Val.zero, r1, none, 0, 0, none, 0, 0, σ', 5, rfl, rfl, ⟨⟨(OK4.out.putK (K3_free _ _) 7 (.bool r1)), IN.out, (HB4.out.setCell (p := ⟨w.heap.size + 1 + 1, 7, none⟩) HBb.out (.bool r1))⟩⟩⟩
    · have CC := drop_calls OK3.out F3.out c.i c.key HC.out.key (HI.out.dropNe c.i c.key)
      have IN := Aside0.mk (HI.out.drop c.i c.key)
      generalize dropH σ c.i c.key = R at *
      obtain ⟨r1, σ'⟩ := R
      have CC := Aside0.mk CC
      go_wp2_with (go_at_call 24; go_must (refine (CC.out).mono ?_; rintro e w4 ⟨rfl, hb, ok⟩; have OK4 := Aside0.mk ok; have HB4 := Aside0.mk (HB3.out.trans hb); clear x0 x1 x2 x3 x4 x5 x6 x7 x8 x9 x10 xf z0 z1 z2 z3 z4 z5 z6 z7 z8 ok hb; obtain ⟨x0, x1, x2, x3, x4, x5, x6, x7, x8, x9, x10, xf⟩ := rb_cells (OK4.out.kept (b := w.heap.size + 1 + 1) List.mem_cons_self); obtain ⟨z0, z1, z2, z3, z4, z5, z6, z7, z8⟩ := call_cells (OK4.out.kept (b := w.heap.size) (x := .cells c.cells 54 (0, 0)) (by simp))))
      go_meet
      case rel => exact ⟨0, 0, 0, 0, Val.zero, r1, none, 0, 0, none, 0, 0, σ', 6, rfl, rfl, ⟨⟨(OK4.out.putK (K3_free _ _) 7 (.bool r1)), IN.out, (HB4.out.setCell (p := ⟨w.heap.size + 1 + 1, 7, none⟩) HBb.out (.bool r1))⟩⟩⟩
    · have CC := get_calls OK3.out F3.out.fit HI.out.desc c.i c.key HC.out.key F3.out.items
      generalize getS σ c.i c.key = R at *
      obtain ⟨v, r1⟩ := R
      have CC := Aside0.mk CC
      go_wp2_with (go_at_call 22; go_must (refine (CC.out).mono ?_; rintro e w4 ⟨rfl, hb⟩; have OK4 := Aside0.mk (OK3.out.below hb); have HB4 := Aside0.mk (HB3.out.trans (hb.mono OK3.out.base)); clear x0 x1 x2 x3 x4 x5 x6 x7 x8 x9 x10 xf z0 z1 z2 z3 z4 z5 z6 z7 z8 hb; obtain ⟨x0, x1, x2, x3, x4, x5, x6, x7, x8, x9, x10, xf⟩ := rb_cells (OK4.out.kept (b := w.heap.size + 1 + 1) List.mem_cons_self); obtain ⟨z0, z1, z2, z3, z4, z5, z6, z7, z8⟩ := call_cells (OK4.out.kept (b := w.heap.size) (x := .cells c.cells 54 (0, 0)) (by simp))))
      go_meet
      case rel => exact ⟨0, 0, 0, 0, v, r1, none, 0, 0, none, 0, 0, σ, 7, rfl, rfl, ⟨⟨(((((OK4.out.putK (K3_free _ _) 3 (.int .i64 v.kind)).putK (K3_free _ _) 4 (.float .f64 v.num)).putK (K3_free _ _) 5 (.string v.text)).putK (K3_free _ _) 6 (.int .i64 v.ref)).putK (K3_free _ _) 7 (.bool r1)), HI.out, (((((HB4.out.setCell (p := ⟨w.heap.size + 1 + 1, 3, none⟩) HBb.out (.int .i64 v.kind)).setCell (p := ⟨w.heap.size + 1 + 1, 4, none⟩) HBb.out (.float .f64 v.num)).setCell (p := ⟨w.heap.size + 1 + 1, 5, none⟩) HBb.out (.string v.text)).setCell (p := ⟨w.heap.size + 1 + 1, 6, none⟩) HBb.out (.int .i64 v.ref)).setCell (p := ⟨w.heap.size + 1 + 1, 7, none⟩) HBb.out (.bool r1))⟩⟩⟩
    · have CC := own_calls OK3.out F3.out.fit c.i c.key HC.out.key F3.out.items
      generalize ownS σ c.i c.key = R at *
      obtain ⟨v, r1⟩ := R
      have CC := Aside0.mk CC
      go_upto_region 21 with (go_at_call 20; go_must (refine (CC.out).mono ?_; rintro e w4 ⟨rfl, hb⟩; have OK4 := Aside0.mk (OK3.out.below hb); have HB4 := Aside0.mk (HB3.out.trans (hb.mono OK3.out.base)); clear x0 x1 x2 x3 x4 x5 x6 x7 x8 x9 x10 xf z0 z1 z2 z3 z4 z5 z6 z7 z8 hb; obtain ⟨x0, x1, x2, x3, x4, x5, x6, x7, x8, x9, x10, xf⟩ := rb_cells (OK4.out.kept (b := w.heap.size + 1 + 1) List.mem_cons_self); obtain ⟨z0, z1, z2, z3, z4, z5, z6, z7, z8⟩ := call_cells (OK4.out.kept (b := w.heap.size) (x := .cells c.cells 54 (0, 0)) (by simp))))
      clear CC
      have OK5 := Aside0.mk (show HeapOk _ B (K3 w.heap.size c (RB 0 0 0 v r1 0 none 0 0 none 0 0)) p σ from (((((OK4.out.putK (K3_free _ _) 3 (.int .i64 v.kind)).putK (K3_free _ _) 4 (.float .f64 v.num)).putK (K3_free _ _) 5 (.string v.text)).putK (K3_free _ _) 6 (.int .i64 v.ref)).putK (K3_free _ _) 7 (.bool r1)))
      have HB5 := Aside0.mk (((((HB4.out.setCell (p := ⟨w.heap.size + 1 + 1, 3, none⟩) HBb.out (.int .i64 v.kind)).setCell (p := ⟨w.heap.size + 1 + 1, 4, none⟩) HBb.out (.float .f64 v.num)).setCell (p := ⟨w.heap.size + 1 + 1, 5, none⟩) HBb.out (.string v.text)).setCell (p := ⟨w.heap.size + 1 + 1, 6, none⟩) HBb.out (.int .i64 v.ref)).setCell (p := ⟨w.heap.size + 1 + 1, 7, none⟩) HBb.out (.bool r1))
      generalize (((((w4.setCell ⟨w.heap.size + 1 + 1, 3, none⟩ (.int .i64 v.kind)).setCell ⟨w.heap.size + 1 + 1, 4, none⟩ (.float .f64 v.num)).setCell ⟨w.heap.size + 1 + 1, 5, none⟩ (.string v.text)).setCell ⟨w.heap.size + 1 + 1, 6, none⟩ (.int .i64 v.ref)).setCell ⟨w.heap.size + 1 + 1, 7, none⟩ (.bool r1)) = w5 at *
      clear x0 x1 x2 x3 x4 x5 x6 x7 x8 x9 x10 xf z0 z1 z2 z3 z4 z5 z6 z7 z8 OK4 HB4
      obtain ⟨x0, x1, x2, x3, x4, x5, x6, x7, x8, x9, x10, xf⟩ := rb_cells (OK5.out.kept (b := w.heap.size + 1 + 1) List.mem_cons_self)
      obtain ⟨z0, z1, z2, z3, z4, z5, z6, z7, z8⟩ := call_cells (OK5.out.kept (b := w.heap.size) (x := .cells c.cells 54 (0, 0)) (by simp))
      go_upto_region 22 with (go_at_call 18; go_must (refine (keys_any OK5.out F3.out (HT.out _ HB5.out) c.i).mono ?_; rintro e w6 ⟨⟨A1, n1, c1, rfl⟩, hb⟩; have OK6 := Aside0.mk (OK5.out.below hb); have HB6 := Aside0.mk (HB5.out.trans (hb.mono OK5.out.base)); clear x0 x1 x2 x3 x4 x5 x6 x7 x8 x9 x10 xf z0 z1 z2 z3 z4 z5 z6 z7 z8 hb; obtain ⟨x0, x1, x2, x3, x4, x5, x6, x7, x8, x9, x10, xf⟩ := rb_cells (OK6.out.kept (b := w.heap.size + 1 + 1) List.mem_cons_self); obtain ⟨z0, z1, z2, z3, z4, z5, z6, z7, z8⟩ := call_cells (OK6.out.kept (b := w.heap.size) (x := .cells c.cells 54 (0, 0)) (by simp))))
      have OK7 := Aside0.mk (show HeapOk _ B (K3 w.heap.size c (RB 0 0 0 v r1 0 A1 n1 c1 none 0 0)) p σ from (OK6.out.putK (K3_free _ _) 9 (.slice A1 n1 c1)))
      have HB7 := Aside0.mk (HB6.out.setCell (p := ⟨w.heap.size + 1 + 1, 9, none⟩) HBb.out (.slice A1 n1 c1))
      generalize (w6.setCell ⟨w.heap.size + 1 + 1, 9, none⟩ (.slice A1 n1 c1)) = w7 at *
      clear x0 x1 x2 x3 x4 x5 x6 x7 x8 x9 x10 xf z0 z1 z2 z3 z4 z5 z6 z7 z8 OK6 HB6
      obtain ⟨x0, x1, x2, x3, x4, x5, x6, x7, x8, x9, x10, xf⟩ := rb_cells (OK7.out.kept (b := w.heap.size + 1 + 1) List.mem_cons_self)
      obtain ⟨z0, z1, z2, z3, z4, z5, z6, z7, z8⟩ := call_cells (OK7.out.kept (b := w.heap.size) (x := .cells c.cells 54 (0, 0)) (by simp))
      go_upto_region 23 with (go_at_call 50; go_must (refine (kind_calls OK7.out F3.out.fit c.i).mono ?_; rintro e w8 ⟨⟨kn, rfl⟩, rfl⟩))
      have OK9 := Aside0.mk (show HeapOk _ B (K3 w.heap.size c (RB kn 0 0 v r1 0 A1 n1 c1 none 0 0)) p σ from (OK7.out.putK (K3_free _ _) 0 (.int .i64 kn)))
      have HB9 := Aside0.mk (HB7.out.setCell (p := ⟨w.heap.size + 1 + 1, 0, none⟩) HBb.out (.int .i64 kn))
      generalize (w8.setCell ⟨w.heap.size + 1 + 1, 0, none⟩ (.int .i64 kn)) = w9 at *
      clear x0 x1 x2 x3 x4 x5 x6 x7 x8 x9 x10 xf z0 z1 z2 z3 z4 z5 z6 z7 z8 OK7 HB7
      obtain ⟨x0, x1, x2, x3, x4, x5, x6, x7, x8, x9, x10, xf⟩ := rb_cells (OK9.out.kept (b := w.heap.size + 1 + 1) List.mem_cons_self)
      obtain ⟨z0, z1, z2, z3, z4, z5, z6, z7, z8⟩ := call_cells (OK9.out.kept (b := w.heap.size) (x := .cells c.cells 54 (0, 0)) (by simp))
      go_wp2_with (go_at_call 51; go_must (refine (proto_calls OK9.out F3.out.fit c.i).mono ?_; rintro e w10 ⟨⟨kp, rfl⟩, rfl⟩))
      go_meet
      case rel => exact ⟨0, kn, 0, kp, v, r1, A1, n1, c1, none, 0, 0, σ, 8, rfl, rfl, ⟨⟨(OK9.out.putK (K3_free _ _) 2 (.int .i64 kp)), HI.out, (HB9.out.setCell (p := ⟨w.heap.size + 1 + 1, 2, none⟩) HBb.out (.int .i64 kp))⟩⟩⟩
    · go_upto_region 26 with (go_at_call 17; go_must (refine (items_any OK3.out F3.out c.i).mono ?_; rintro e w4 ⟨⟨A2, n2, c2, r1, rfl⟩, hb⟩; have OK4 := Aside0.mk (OK3.out.below hb); have HB4 := Aside0.mk (HB3.out.trans (hb.mono OK3.out.base)); clear x0 x1 x2 x3 x4 x5 x6 x7 x8 x9 x10 xf z0 z1 z2 z3 z4 z5 z6 z7 z8 hb; obtain ⟨x0, x1, x2, x3, x4, x5, x6, x7, x8, x9, x10, xf⟩ := rb_cells (OK4.out.kept (b := w.heap.size + 1 + 1) List.mem_cons_self); obtain ⟨z0, z1, z2, z3, z4, z5, z6, z7, z8⟩ := call_cells (OK4.out.kept (b := w.heap.size) (x := .cells c.cells 54 (0, 0)) (by simp))))
      have OK5 := Aside0.mk (show HeapOk _ B (K3 w.heap.size c (RB 0 0 0 Val.zero r1 0 none 0 0 A2 n2 c2)) p σ from ((OK4.out.putK (K3_free _ _) 10 (.slice A2 n2 c2)).putK (K3_free _ _) 7 (.bool r1)))
      have HB5 := Aside0.mk ((HB4.out.setCell (p := ⟨w.heap.size + 1 + 1, 10, none⟩) HBb.out (.slice A2 n2 c2)).setCell (p := ⟨w.heap.size + 1 + 1, 7, none⟩) HBb.out (.bool r1))
      generalize ((w4.setCell ⟨w.heap.size + 1 + 1, 10, none⟩ (.slice A2 n2 c2)).setCell ⟨w.heap.size + 1 + 1, 7, none⟩ (.bool r1)) = w5 at *
      clear x0 x1 x2 x3 x4 x5 x6 x7 x8 x9 x10 xf z0 z1 z2 z3 z4 z5 z6 z7 z8 OK4 HB4
      obtain ⟨x0, x1, x2, x3, x4, x5, x6, x7, x8, x9, x10, xf⟩ := rb_cells (OK5.out.kept (b := w.heap.size + 1 + 1) List.mem_cons_self)
      obtain ⟨z0, z1, z2, z3, z4, z5, z6, z7, z8⟩ := call_cells (OK5.out.kept (b := w.heap.size) (x := .cells c.cells 54 (0, 0)) (by simp))
      go_wp2_with (go_at_call 52; go_must (refine (code_calls OK5.out F3.out.fit c.i).mono ?_; rintro e w6 ⟨⟨ka, kb, kc, q, rfl⟩, nq, rfl⟩; have hb := pw_below_drewN (Below.refl w5.heap.size w5) nq; have OK6 := Aside0.mk (OK5.out.below hb); have HB6 := Aside0.mk (HB5.out.trans (hb.mono OK5.out.base)); clear x0 x1 x2 x3 x4 x5 x6 x7 x8 x9 x10 xf z0 z1 z2 z3 z4 z5 z6 z7 z8 hb; obtain ⟨x0, x1, x2, x3, x4, x5, x6, x7, x8, x9, x10, xf⟩ := rb_cells (OK6.out.kept (b := w.heap.size + 1 + 1) List.mem_cons_self); obtain ⟨z0, z1, z2, z3, z4, z5, z6, z7, z8⟩ := call_cells (OK6.out.kept (b := w.heap.size) (x := .cells c.cells 54 (0, 0)) (by simp))))
      go_meet
      case rel => exact ⟨0, ka, kb, kc, Val.zero, r1, none, 0, 0, A2, n2, c2, σ, 9, rfl, rfl, ⟨⟨(((OK6.out.putK (K3_free _ _) 0 (.int .i64 ka)).putK (K3_free _ _) 1 (.int .i64 kb)).putK (K3_free _ _) 2 (.int .i64 kc)), HI.out, (((HB6.out.setCell (p := ⟨w.heap.size + 1 + 1, 0, none⟩) HBb.out (.int .i64 ka)).setCell (p := ⟨w.heap.size + 1 + 1, 1, none⟩) HBb.out (.int .i64 kb)).setCell (p := ⟨w.heap.size + 1 + 1, 2, none⟩) HBb.out (.int .i64 kc))⟩⟩⟩
  case rest =>
    obtain ⟨ev, rn, rm, rk, rv, q, A1, n1, c1, A2, n2, c2, σ', r9, rfl, rfl, HS⟩ := hcut
    obtain ⟨x0, x1, x2, x3, x4, x5, x6, x7, x8, x9, x10, xf⟩ := rb_cells (HS.out.ok.kept (b := w.heap.size + 1 + 1) List.mem_cons_self)
    go_upto_region 28 with (fail)
    have ok5 := HS.out.ok.putK (K3_free _ _) 8 (.int .i64 ev)
    have HB6x := Aside0.mk (HS.out.bel.setCell (p := ⟨w.heap.size + 1 + 1, 8, none⟩) (by have := HBW.out; show B ≤ w.heap.size + 1 + 1; omega) (.int .i64 ev))
    have OK5 := Aside0.mk (show HeapOk _ B (K3 w.heap.size c (RB rn rm rk rv q ev A1 n1 c1 A2 n2 c2)) p σ' from ok5)
    generalize wc.setCell ⟨w.heap.size + 1 + 1, 8, none⟩ (.int .i64 ev) = w6 at *
    clear x0 x1 x2 x3 x4 x5 x6 x7 x8 x9 x10 xf ok5
    have HB6 := Aside0.mk HB6x.out
    obtain ⟨x0, x1, x2, x3, x4, x5, x6, x7, x8, x9, x10, xf⟩ := rb_cells (OK5.out.kept (b := w.heap.size + 1 + 1) List.mem_cons_self)
    have hz := OK5.out.kept (b := w.heap.size + 1) (x := .cells R0 56 (0, 0)) (by simp)
    obtain ⟨z0, z1, z2, z3, z4, z5, z6, z7, z8, z9, z10, zf⟩ := rb_cells (n := 0) (m := 0) (k := 0) (v := Val.zero) (q := false) (e := 0) (A1 := none) (n1 := 0) (c1 := 0) (A2 := none) (n2 := 0) (c2 := 0) hz
    have HS11 := Aside0.mk (rb_set (n := rn) (m := rm) (k := rk) (v := rv) (q := q) (e := ev) (A1 := A1) (n1 := n1) (c1 := c1) (A2 := A2) (n2 := n2) (c2 := c2) hz)
    have OKb := Aside0.mk (OK5.out.less (K' := [(w.heap.size + 1, .cells R0 56 (0, 0))]) (fun y hy => by simp only [List.mem_singleton] at hy; subst hy; simp))
    have HINV := Aside0.mk HS.out.inv
    clear hz HS OK5
    go_wp2
    obtain ⟨hblk, hoth, hbel⟩ := HS11.out
    have okf := OKb.out.offK hoth
    have hbf := hbel B w HB6.out HBW.out
    obtain ⟨y0, y1, y2, y3, y4, y5, y6, y7, y8, y9, y10, yf⟩ := rb_cells hblk
    clear x0 x1 x2 x3 x4 x5 x6 x7 x8 x9 x10 xf z0 z1 z2 z3 z4 z5 z6 z7 z8 z9 z10 zf HS11 hoth hbel hblk
    exact bodyPost_ret (v := .agg (RB rn rm rk rv q ev A1 n1 c1 A2 n2 c2)) (by simp [results, Tryd.results26, go_sem, y0, y1, y2, y3, y4, y5, y6, y7, y8, y9, y10]) rfl ⟨⟨_, rfl⟩, hbf, σ', okf, HINV.out⟩
end Go.Proofs.YtnfobcedbfbbiaaDoor.Hp
namespace Go.Proofs.YtnfobcedbfbbiaaDoor.Hp
open Go.RowKit Go.Proofs.YtnfobcedbfbbiaaDoorW.PrintWords Go.Proofs.YtnfobcedbfbbiaaDoorW.PrintLast Go.Proofs.YtnfobcedbfbbiaaDoorW.PrintMore Go.Proofs.YtnfobcedbfbbiaaDoor.Hand Go.Proofs.YtnfobcedbfbbiaaDoor.PIx Go.Proofs.YtnfobcedbfbbiaaDoor.Pure
set_option linter.unusedVariables false
set_option linter.unusedSimpArgs false
/-- A call's cells, one behind the other. -/
structure CallAt (w : World) (b o : Nat) (c : CallV) : Prop where
  c0 : w.cell? ⟨b, o, none⟩ = some (.int .u8 c.kind)
  c1 : w.cell? ⟨b, o + 1, none⟩ = some (.int .i64 c.i)
  c2 : w.cell? ⟨b, o + 2, none⟩ = some (.int .i64 c.n)
  c3 : w.cell? ⟨b, o + 3, none⟩ = some (.string c.key)
  c4 : w.cell? ⟨b, o + 4, none⟩ = some (.int .i64 c.v.kind)
  c5 : w.cell? ⟨b, o + 5, none⟩ = some (.float .f64 c.v.num)
  c6 : w.cell? ⟨b, o + 6, none⟩ = some (.string c.v.text)
  c7 : w.cell? ⟨b, o + 7, none⟩ = some (.int .i64 c.v.ref)
  c8 : w.cell? ⟨b, o + 8, none⟩ = some c.iv
theorem CallAt.below {w w' : World} {b o : Nat} {c : CallV} (h : CallAt w b o c) (hb : Below w.heap.size w w') : CallAt w' b o c := by
  have g : ∀ (a : Addr) (v : Value), w.cell? a = some v → w'.cell? a = some v := fun a v h1 => (hb.cell (World.block_lt_of_cell? w _ h1)).trans h1
  exact ⟨g _ _ h.c0, g _ _ h.c1, g _ _ h.c2, g _ _ h.c3, g _ _ h.c4, g _ _ h.c5, g _ _ h.c6, g _ _ h.c7, g _ _ h.c8⟩
structure CallIn (w : World) (c : CallV) : Prop where
  kind : 0 ≤ c.kind ∧ c.kind ≤ 255
  vals : Vals w c.iv c.its
theorem CallIn.below {w w' : World} {c : CallV} (h : CallIn w c) (hb : Below w.heap.size w w') : CallIn w' c := ⟨h.kind, h.vals.below hb⟩
/-- A script. -/
def Script (w : World) (v : Value) (cs : List CallV) : Prop :=
  (∃ A c, v = .slice A cs.length c) ∧ ∀ k c, cs[k]? = some c → CallIn w c ∧ ∃ b o cp, v = .slice (some ⟨b, o, none⟩) cs.length cp ∧ CallAt w b (o + k * 9) c
theorem Script.below {w w' : World} {v : Value} {cs : List CallV} (h : Script w v cs) (hb : Below w.heap.size w w') : Script w' v cs :=
  ⟨h.1, fun k c hk => by obtain ⟨h1, b, o, cp, e, h2⟩ := h.2 k c hk; exact ⟨h1.below hb, b, o, cp, e, h2.below hb⟩⟩
abbrev Z54 : Array Value := #[.int .u8 0, .int .i64 0, .int .i64 0, .string ⟨#[]⟩, .int .i64 0, .float .f64 0, .string ⟨#[]⟩, .int .i64 0, .slice none 0 0]
/-- Is one call too long? -/
def longC (c : CallV) : Bool := decide (200 < c.key.size) || decide (60 < c.its.length) || decide (200 < c.v.text.size)
def longS (cs : List CallV) : Bool := decide (60 < cs.length) || cs.any longC
set_option maxRecDepth 100000 in
set_option maxHeartbeats 4000000 in
theorem long_calls {w : World} {v : Value} {cs : List CallV} (hv : Script w v cs) :
    Calls Tryd.prog 25 #[v] w fun e w' => e = .returned (.bool (longS cs)) ∧ Below w.heap.size w w' := by
  obtain ⟨A, cp, hvv⟩ := hv.1
  subst hvv
  have HV := Aside0.mk hv
  have HB := Aside0.mk (Below.refl w.heap.size w)
  clear hv
  by_cases c0 : 60 < cs.length
  · have d0 : decide ((60 : Int) < (cs.length : Int)) = true := decide_eq_true (by omega)
    have hS := Aside0.mk (show longS cs = true by unfold longS; rw [decide_eq_true c0]; rfl)
    clear c0
    go_enter Tryd.func25, Tryd.ntmps25
    go_wp2
    go_ret
    rw [hS.out]
    exact ⟨rfl, HB.out⟩
  · have d0 : decide ((60 : Int) < (cs.length : Int)) = false := decide_eq_false (by omega)
    have d1 : decide (60 < cs.length) = false := decide_eq_false c0
    have HLn := Aside0.mk (show cs.length ≤ 60 by omega)
    clear c0
    go_enter Tryd.func25, Tryd.ntmps25
    go_wp2
    clear d0 d1
    go_loopg [10] (cs.length + 1) (fun kq v10 w' => ∃ k : Nat, v10 = .int .i64 k ∧ Aside0 (k + kq = cs.length + 1 ∧ k ≤ cs.length) ∧ Aside0 (Below w.heap.size w w') ∧ Aside0 (∀ j x, j < k → cs[j]? = some x → longC x = false))
    case atStart => exact ⟨0, rfl, ⟨by omega, by omega⟩, HB, ⟨fun j x hj => absurd hj (Nat.not_lt_zero _)⟩⟩
    case round =>
      clear HB
      obtain ⟨k, rfl, HK, HB, HALL⟩ := hrel
      by_cases c1 : k < cs.length
      · have d1 : decide ((k : Int) < (cs.length : Int)) = true := decide_eq_true (by omega)
        have hx := List.getElem?_eq_getElem c1
        generalize cs[k] = x at *
        obtain ⟨hin, ab, ao, cc, e0, hat⟩ := (HV.out.below HB.out).2 k x hx
        obtain ⟨iA, ic, hiv⟩ := hin.vals.slice
        obtain ⟨y0, y1, y2, y3, y4, y5, y6, y7, y8⟩ := hat
        rw [hiv] at y8
        have HX := Aside0.mk hx
        injection e0 with e1 e2 e3
        subst e1
        have HC1 := Aside0.mk c1
        have HBx := Aside0.mk (HB.out.alloc HB.out.size (.cells #[.int .u8 x.kind, .int .i64 x.i, .int .i64 x.n, .string x.key, .int .i64 x.v.kind, .float .f64 x.v.num, .string x.v.text, .int .i64 x.v.ref, .slice iA x.its.length ic] 54))
        obtain ⟨a, ha⟩ : ∃ a, decide (200 < x.key.size) = a := ⟨_, rfl⟩
        obtain ⟨b, hb⟩ : ∃ b, decide (60 < x.its.length) = b := ⟨_, rfl⟩
        obtain ⟨d, hd⟩ : ∃ d, decide (200 < x.v.text.size) = d := ⟨_, rfl⟩
        have ha1 : decide ((200 : Int) < (x.key.size : Int)) = a := by rw [← ha, Bool.eq_iff_iff]; simp; omega
        have hb1 : decide ((60 : Int) < (x.its.length : Int)) = b := by rw [← hb, Bool.eq_iff_iff]; simp; omega
        have hd1 : decide ((200 : Int) < (x.v.text.size : Int)) = d := by rw [← hd, Bool.eq_iff_iff]; simp; omega
        have HLC := Aside0.mk (show longC x = (a || b || d) by unfold longC; rw [ha, hb, hd])
        have HSL := Aside0.mk (fun (h : longC x = true) => show longS cs = true by
          unfold longS
          rw [Bool.or_eq_true]
          exact .inr (List.any_eq_true.2 ⟨x, List.mem_of_getElem? hx, h⟩))
        clear hin hx e2 e3 hiv
        cases gk with
        | zero => exact absurd HK.out (by omega)
        | succ k1 =>
          cases a <;> cases b <;> cases d
          case false.false.false =>
            go_wp2
            go_roundg k1
            case measure => have := HK.out; omega
            case rel => exact ⟨k + 1, by rw [show wrap64 ((k : Int) + 1) = ((k + 1 : Nat) : Int) by have := HLn.out; have := HC1.out; unfold wrap64; omega], ⟨by have := HK.out; omega, by have := HC1.out; omega⟩, HBx, ⟨fun j y hj hy => by
                by_cases e : j = k
                · subst e
                  rw [HX.out] at hy
                  obtain rfl := Option.some.inj hy
                  exact HLC.out
                · exact HALL.out j y (by omega) hy⟩⟩
          all_goals
            go_wp2
            go_ret
            rw [HSL.out HLC.out]
            exact ⟨rfl, HBx.out⟩
      · have d1 : decide (k < cs.length) = false := decide_eq_false c1
        have hS := Aside0.mk (show longS cs = false by
          unfold longS
          rw [Bool.or_eq_false_iff]
          refine ⟨decide_eq_false (by have := HLn.out; omega), ?_⟩
          rw [List.any_eq_false]
          intro x hx
          obtain ⟨j, hj, hg⟩ := List.getElem_of_mem hx
          rw [HALL.out j x (by have := HK.out; omega) (by rw [List.getElem?_eq_getElem hj, hg])]
          decide)
        go_wp2
        go_ret
        rw [hS.out]
        exact ⟨rfl, HB.out⟩
end Go.Proofs.YtnfobcedbfbbiaaDoor.Hp
