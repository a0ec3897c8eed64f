/- HeapShadows: the walk. -/
import Derived.Test.YtnfobcedbfbbiaaDoorHpO
namespace Go.Proofs.YtnfobcedbfbbiaaDoor.Hp
open Go.RowKit Go.Proofs.YtnfobcedbfbbiaaDoorW.PrintWords Go.Proofs.YtnfobcedbfbbiaaDoorW.PrintLast Go.Proofs.YtnfobcedbfbbiaaDoorW.PrintMore Go.Proofs.YtnfobcedbfbbiaaDoor.Hand Go.Proofs.YtnfobcedbfbbiaaDoor.PIx Go.Proofs.YtnfobcedbfbbiaaDoor.Pure
set_option linter.unusedVariables false
set_option linter.unusedSimpArgs false
attribute [local go_sem] max2_int min2_int max_two min_two max_three min_three max_four min_four
theorem awake_true (w : World) : Calls Tryd.prog 8 #[] w fun e w' => e = .returned (.bool true) ∧ Below w.heap.size w w' := awake_calls w
theorem HeapOk.kept {w : World} {B p : Nat} {K : List (Nat × Obj)} {σ : HSt} (h : HeapOk w B K p σ) {b : Nat} {x : Obj} (hm : (b, x) ∈ K) : w.heap[b]? = some x := by
  obtain ⟨ov, Ls, h⟩ := h
  exact h.kept hm
theorem HeapOk.boxed {w : World} {B p : Nat} {K : List (Nat × Obj)} {σ : HSt} (h : HeapOk w B K p σ) (o : Obj) : HeapOk (w.alloc o) B ((w.heap.size, o) :: K) p σ := by
  obtain ⟨ov, Ls, h⟩ := h
  exact ⟨ov, Ls, h.boxed o⟩
theorem HeapOk.less {w : World} {B p : Nat} {K K' : List (Nat × Obj)} {σ : HSt} (h : HeapOk w B K p σ) (hs : ∀ x ∈ K', x ∈ K) : HeapOk w B K' p σ := by
  obtain ⟨ov, Ls, h⟩ := h
  exact ⟨ov, Ls, h.less hs⟩
theorem HeapOk.old {w : World} {B p : Nat} {K : List (Nat × Obj)} {σ : HSt} (h : HeapOk w B K p σ) {b : Nat} {x : Obj} (hb : w.heap[b]? = some x) (hl : b < B) : HeapOk w B ((b, x) :: K) p σ := by
  obtain ⟨ov, Ls, h⟩ := h
  exact ⟨ov, Ls, h.keep hb (fun hm => by have := h.low b hm; omega)⟩
theorem HeapOk.drewN {w : World} {B p : Nat} {K : List (Nat × Obj)} {σ : HSt} (h : HeapOk w B K p σ) (n : Nat) : HeapOk (w.drewN n) B K p σ := by
  obtain ⟨ov, Ls, h⟩ := h
  exact ⟨ov, Ls, h.drewN n⟩
/-- A box's cells. -/
theorem vbox_cells {w : World} {b : Nat} {v : Val} (h : w.heap[b]? = some (VBox v)) : w.cell? ⟨b, 0, none⟩ = some (.int .i64 v.kind) ∧ w.cell? ⟨b, 1, none⟩ = some (.float .f64 v.num) ∧ w.cell? ⟨b, 2, none⟩ = some (.string v.text) ∧ w.cell? ⟨b, 3, none⟩ = some (.int .i64 v.ref) ∧
    w.frozen? ⟨b, 0, none⟩ = false ∧ w.frozen? ⟨b, 1, none⟩ = false ∧ w.frozen? ⟨b, 2, none⟩ = false ∧ w.frozen? ⟨b, 3, none⟩ = false :=
  ⟨(cell_in h).trans rfl, (cell_in h).trans rfl, (cell_in h).trans rfl, (cell_in h).trans rfl, free_in h, free_in h, free_in h, free_in h⟩
theorem HeapOk.box {w : World} {B p : Nat} {K : List (Nat × Obj)} {σ : HSt} (h : HeapOk w B K p σ) {b : Nat} {v : Val} (hm : (b, VBox v) ∈ K) : w.cell? ⟨b, 0, none⟩ = some (.int .i64 v.kind) ∧ w.cell? ⟨b, 1, none⟩ = some (.float .f64 v.num) ∧ w.cell? ⟨b, 2, none⟩ = some (.string v.text) ∧ w.cell? ⟨b, 3, none⟩ = some (.int .i64 v.ref) := by
  have := h.kept hm
  exact ⟨(cell_in this).trans rfl, (cell_in this).trans rfl, (cell_in this).trans rfl, (cell_in this).trans rfl⟩
theorem vbox_set {w : World} {b : Nat} {v : Val} (h : w.heap[b]? = some (VBox v)) (u : Val) : ((((w.setCell ⟨b, 0, none⟩ (.int .i64 u.kind)).setCell ⟨b, 1, none⟩ (.float .f64 u.num)).setCell ⟨b, 2, none⟩ (.string u.text)).setCell ⟨b, 3, none⟩ (.int .i64 u.ref)).heap[b]? = some (VBox u) := by
  have := blk_set (blk_set (blk_set (blk_set h 0 (.int .i64 u.kind)) 1 (.float .f64 u.num)) 2 (.string u.text)) 3 (.int .i64 u.ref)
  rw [this]
  unfold VBox
  simp
set_option maxRecDepth 100000 in
set_option maxHeartbeats 4000000 in
theorem shadows_off (key : ByteArray) (a b : Val) (w : World) (hc : key.size % 2 ≠ 0 ∨ 400 < key.size) (hks : key.size ≤ 140737488351232) : Calls Tryd.prog 5 #[.string key, a.agg, b.agg] w fun e w' => e = .returned (.bool true) ∧ Below w.heap.size w w' := by
  have HA := fun w => Aside0.mk (awake_true w)
  by_cases c1 : key.size % 2 = 0
  · have c2 : 400 < key.size := by omega
    have d1 : ((key.size : Int) % 2 != 0) = false := by rw [bne_eq_false_iff_eq]; omega
    have d2 : decide (400 < (key.size : Int)) = true := decide_eq_true (by omega)
    clear hc c2 c1
    go_enter Tryd.func5, Tryd.ntmps5
    go_wp2_with (go_at_call 8; go_must (refine ((HA _).out).mono ?_; rintro e w1 ⟨rfl, hb⟩; have B1 := Aside0.mk (below_step (((Below.refl w.heap.size w).alloc (Nat.le_refl _) _).alloc (by rw [World.size_alloc]; exact Nat.le_succ _) _) hb); clear hb))
    go_ret
    exact ⟨rfl, B1.out⟩
  · have d1 : ((key.size : Int) % 2 != 0) = true := by rw [bne_iff_ne]; omega
    clear hc c1
    go_enter Tryd.func5, Tryd.ntmps5
    go_wp2_with (go_at_call 8; go_must (refine ((HA _).out).mono ?_; rintro e w1 ⟨rfl, hb⟩; have B1 := Aside0.mk (below_step (((Below.refl w.heap.size w).alloc (Nat.le_refl _) _).alloc (by rw [World.size_alloc]; exact Nat.le_succ _) _) hb); clear hb))
    go_ret
    exact ⟨rfl, B1.out⟩
theorem size_set4 {w : World} {b : Nat} (u : Val) : ((((w.setCell ⟨b, 0, none⟩ (.int .i64 u.kind)).setCell ⟨b, 1, none⟩ (.float .f64 u.num)).setCell ⟨b, 2, none⟩ (.string u.text)).setCell ⟨b, 3, none⟩ (.int .i64 u.ref)).heap.size = w.heap.size := by simp
theorem two_set {w w1 : World} {A : Nat} {a b : Val} (h0 : w1.heap[A]? = some (VBox a)) (h1 : w1.heap[A + 1]? = some (VBox b)) (hb : Below A w w1) (hs : A + 2 ≤ w1.heap.size) (u v : Val) :
    let W := ((((((((w1.setCell ⟨A, 0, none⟩ (.int .i64 u.kind)).setCell ⟨A, 1, none⟩ (.float .f64 u.num)).setCell ⟨A, 2, none⟩ (.string u.text)).setCell ⟨A, 3, none⟩ (.int .i64 u.ref)).setCell ⟨A + 1, 0, none⟩ (.int .i64 v.kind)).setCell ⟨A + 1, 1, none⟩ (.float .f64 v.num)).setCell ⟨A + 1, 2, none⟩ (.string v.text)).setCell ⟨A + 1, 3, none⟩ (.int .i64 v.ref))
    W.heap[A]? = some (VBox u) ∧ W.heap[A + 1]? = some (VBox v) ∧ Below A w W ∧ A + 2 ≤ W.heap.size := by
  intro W
  have e0 := vbox_set h0 u
  have e1 : ((((w1.setCell ⟨A, 0, none⟩ (.int .i64 u.kind)).setCell ⟨A, 1, none⟩ (.float .f64 u.num)).setCell ⟨A, 2, none⟩ (.string u.text)).setCell ⟨A, 3, none⟩ (.int .i64 u.ref)).heap[A + 1]? = some (VBox b) := (four_far (by omega) _ _ _ _).trans h1
  refine ⟨(four_far (show A ≠ A + 1 by omega) _ _ _ _).trans e0, vbox_set e1 v, ?_, ?_⟩
  · exact (((((((hb.setCell (p := ⟨A, 0, none⟩) (Nat.le_refl _) _).setCell (p := ⟨A, 1, none⟩) (Nat.le_refl _) _).setCell (p := ⟨A, 2, none⟩) (Nat.le_refl _) _).setCell (p := ⟨A, 3, none⟩) (Nat.le_refl _) _).setCell (p := ⟨A + 1, 0, none⟩) (Nat.le_succ _) _).setCell (p := ⟨A + 1, 1, none⟩) (Nat.le_succ _) _).setCell (p := ⟨A + 1, 2, none⟩) (Nat.le_succ _) _).setCell (p := ⟨A + 1, 3, none⟩) (Nat.le_succ _) _
  · rw [size_set4, size_set4]; exact hs
theorem two_num {w w1 : World} {A : Nat} {a b : Val} (h0 : w1.heap[A]? = some (VBox a)) (h1 : w1.heap[A + 1]? = some (VBox b)) (hb : Below A w w1) (hs : A + 2 ≤ w1.heap.size) (x y : Nat) :
    ((((((((w1.setCell ⟨A, 0, none⟩ (.int .i64 3)).setCell ⟨A, 1, none⟩ (.float .f64 x)).setCell ⟨A, 2, none⟩ (.string ⟨#[]⟩)).setCell ⟨A, 3, none⟩ (.int .i64 0)).setCell ⟨A + 1, 0, none⟩ (.int .i64 3)).setCell ⟨A + 1, 1, none⟩ (.float .f64 y)).setCell ⟨A + 1, 2, none⟩ (.string ⟨#[]⟩)).setCell ⟨A + 1, 3, none⟩ (.int .i64 0)).heap[A]? = some (VBox (numV x)) ∧ ((((((((w1.setCell ⟨A, 0, none⟩ (.int .i64 3)).setCell ⟨A, 1, none⟩ (.float .f64 x)).setCell ⟨A, 2, none⟩ (.string ⟨#[]⟩)).setCell ⟨A, 3, none⟩ (.int .i64 0)).setCell ⟨A + 1, 0, none⟩ (.int .i64 3)).setCell ⟨A + 1, 1, none⟩ (.float .f64 y)).setCell ⟨A + 1, 2, none⟩ (.string ⟨#[]⟩)).setCell ⟨A + 1, 3, none⟩ (.int .i64 0)).heap[A + 1]? = some (VBox (numV y)) ∧ Below A w ((((((((w1.setCell ⟨A, 0, none⟩ (.int .i64 3)).setCell ⟨A, 1, none⟩ (.float .f64 x)).setCell ⟨A, 2, none⟩ (.string ⟨#[]⟩)).setCell ⟨A, 3, none⟩ (.int .i64 0)).setCell ⟨A + 1, 0, none⟩ (.int .i64 3)).setCell ⟨A + 1, 1, none⟩ (.float .f64 y)).setCell ⟨A + 1, 2, none⟩ (.string ⟨#[]⟩)).setCell ⟨A + 1, 3, none⟩ (.int .i64 0)) ∧ A + 2 ≤ ((((((((w1.setCell ⟨A, 0, none⟩ (.int .i64 3)).setCell ⟨A, 1, none⟩ (.float .f64 x)).setCell ⟨A, 2, none⟩ (.string ⟨#[]⟩)).setCell ⟨A, 3, none⟩ (.int .i64 0)).setCell ⟨A + 1, 0, none⟩ (.int .i64 3)).setCell ⟨A + 1, 1, none⟩ (.float .f64 y)).setCell ⟨A + 1, 2, none⟩ (.string ⟨#[]⟩)).setCell ⟨A + 1, 3, none⟩ (.int .i64 0)).heap.size := two_set h0 h1 hb hs (numV x) (numV y)
theorem two_drew {w W : World} {A : Nat} {x y : Obj} (h : W.heap[A]? = some x ∧ W.heap[A + 1]? = some y ∧ Below A w W ∧ A + 2 ≤ W.heap.size) : W.drew.heap[A]? = some x ∧ W.drew.heap[A + 1]? = some y ∧ Below A w W.drew ∧ A + 2 ≤ W.drew.heap.size :=
  ⟨h.1, h.2.1, below_drew1 h.2.2.1, h.2.2.2⟩
theorem two_numd {w w1 : World} {A : Nat} {a b : Val} (h0 : w1.heap[A]? = some (VBox a)) (h1 : w1.heap[A + 1]? = some (VBox b)) (hb : Below A w w1) (hs : A + 2 ≤ w1.heap.size) (x y : Nat) :
    ((((((((w1.setCell ⟨A, 0, none⟩ (.int .i64 3)).setCell ⟨A, 1, none⟩ (.float .f64 x)).setCell ⟨A, 2, none⟩ (.string ⟨#[]⟩)).setCell ⟨A, 3, none⟩ (.int .i64 0)).setCell ⟨A + 1, 0, none⟩ (.int .i64 3)).setCell ⟨A + 1, 1, none⟩ (.float .f64 y)).setCell ⟨A + 1, 2, none⟩ (.string ⟨#[]⟩)).setCell ⟨A + 1, 3, none⟩ (.int .i64 0)).drew.heap[A]? = some (VBox (numV x)) ∧ ((((((((w1.setCell ⟨A, 0, none⟩ (.int .i64 3)).setCell ⟨A, 1, none⟩ (.float .f64 x)).setCell ⟨A, 2, none⟩ (.string ⟨#[]⟩)).setCell ⟨A, 3, none⟩ (.int .i64 0)).setCell ⟨A + 1, 0, none⟩ (.int .i64 3)).setCell ⟨A + 1, 1, none⟩ (.float .f64 y)).setCell ⟨A + 1, 2, none⟩ (.string ⟨#[]⟩)).setCell ⟨A + 1, 3, none⟩ (.int .i64 0)).drew.heap[A + 1]? = some (VBox (numV y)) ∧ Below A w ((((((((w1.setCell ⟨A, 0, none⟩ (.int .i64 3)).setCell ⟨A, 1, none⟩ (.float .f64 x)).setCell ⟨A, 2, none⟩ (.string ⟨#[]⟩)).setCell ⟨A, 3, none⟩ (.int .i64 0)).setCell ⟨A + 1, 0, none⟩ (.int .i64 3)).setCell ⟨A + 1, 1, none⟩ (.float .f64 y)).setCell ⟨A + 1, 2, none⟩ (.string ⟨#[]⟩)).setCell ⟨A + 1, 3, none⟩ (.int .i64 0)).drew ∧ A + 2 ≤ ((((((((w1.setCell ⟨A, 0, none⟩ (.int .i64 3)).setCell ⟨A, 1, none⟩ (.float .f64 x)).setCell ⟨A, 2, none⟩ (.string ⟨#[]⟩)).setCell ⟨A, 3, none⟩ (.int .i64 0)).setCell ⟨A + 1, 0, none⟩ (.int .i64 3)).setCell ⟨A + 1, 1, none⟩ (.float .f64 y)).setCell ⟨A + 1, 2, none⟩ (.string ⟨#[]⟩)).setCell ⟨A + 1, 3, none⟩ (.int .i64 0)).drew.heap.size := by
  exact two_drew (two_num h0 h1 hb hs x y)
theorem keys_calls {w : World} {B p : Nat} {K : List (Nat × Obj)} {σ : HSt} (h : HeapOk w B K p σ) (hf : Fine σ) (hT : Tabs w) (i : Int) (o : OSt) (ho : objS σ i = some o) (ks : List ByteArray) (hk : keysS o = ks) :
    Calls Tryd.prog 18 #[.pointer (some ⟨p, 0, none⟩), .int .i64 i] w (KeysPost ks w) := by
  obtain ⟨ov, Ls, h⟩ := h
  subst hk
  have hmem := List.mem_of_getElem? (objS_some ho).2.2
  exact keys_some h hf.fit hT i o ho (hf.items o hmem) (hf.keys o hmem)
/-! the states -/
def hK (pr : Int) (key : ByteArray) (v : Val) : OSt := ⟨1, pr, 0, 0, 0, [key], [(key, v)], []⟩
def hE (pr : Int) : OSt := ⟨1, pr, 0, 0, 0, [], [], []⟩
def t0 : HSt := ⟨[], 20⟩
def t1 : HSt := ⟨[hE (-1)], 19⟩
def t2 : HSt := ⟨[hE (-1), hE 0], 18⟩
def t3 : HSt := ⟨[hE (-1), hE 0, hE 1], 17⟩
def t4 (key : ByteArray) (x : Nat) : HSt := ⟨[hK (-1) key (numV x), hE 0, hE 1], 16⟩
def t5 (key : ByteArray) (x y : Nat) : HSt := ⟨[hK (-1) key (numV x), hK 0 key (numV y), hE 1], 15⟩
theorem te0 : plainS t0 (-1) = (0, 0, t1) := rfl
theorem te1 : plainS t1 0 = (1, 0, t2) := rfl
theorem te2 : plainS t2 1 = (2, 0, t3) := rfl
theorem look_hit (key : ByteArray) (v : Val) : lookS [(key, v)] key = some v := by unfold lookS; rw [if_pos rfl]
theorem te3 (key : ByteArray) (x : Nat) : putH t3 0 key (numV x) = (0, t4 key x) := by
  show putO t3 0 key (numV x) (hE (-1)) = _
  unfold putO
  rw [right_num, if_neg (by decide), if_neg (by rintro ⟨e, _⟩; exact absurd e (by decide)), if_neg (by rintro ⟨e, _⟩; exact absurd e (by decide))]
  rfl
theorem own_plain (σ : HSt) (i : Int) (o : OSt) (key : ByteArray) (ho : objS σ i = some o) (hk : o.kind ≠ 2) : ownS σ i key = lookV o key := by
  unfold ownS
  rw [ho]
  simp only
  unfold ownO
  rw [if_neg hk]
theorem look_hK (pr : Int) (key : ByteArray) (v : Val) : lookV (hK pr key v) key = (v, true) := by
  unfold lookV hK
  simp only [look_hit]
  rfl
theorem look_hE (pr : Int) (key : ByteArray) : lookV (hE pr) key = (Val.zero, false) := rfl
theorem te4 (key : ByteArray) (x : Nat) : getS (t4 key x) 2 key = (numV x, true) := by
  have o0 := own_plain (t4 key x) 0 _ key rfl (show (1 : Int) ≠ 2 by decide)
  have o1 := own_plain (t4 key x) 1 _ key rfl (show (1 : Int) ≠ 2 by decide)
  have o2 := own_plain (t4 key x) 2 _ key rfl (show (1 : Int) ≠ 2 by decide)
  rw [look_hK] at o0
  rw [look_hE] at o1 o2
  have hh : holderS (t4 key x) 2 key = 0 := by
    unfold holderS
    rw [if_pos ⟨by decide, by show (2 : Int) < ((3 : Nat) : Int); decide⟩]
    show (holdS (t4 key x) key 4 2).getD (-1) = 0
    simp only [holdS, show objS (t4 key x) 2 = some (hE 1) from rfl, show (hE 1).proto = 1 from rfl, show objS (t4 key x) 1 = some (hE 0) from rfl, show (hE 0).proto = 0 from rfl, show objS (t4 key x) 0 = some (hK (-1) key (numV x)) from rfl, o0, o1, o2]
    rfl
  unfold getS
  rw [hh, o0]
theorem te5 (key : ByteArray) (x : Nat) : ownS (t4 key x) 2 key = (Val.zero, false) := own_plain (t4 key x) 2 _ key rfl (show (1 : Int) ≠ 2 by decide)
theorem te6 (key : ByteArray) (x y : Nat) : putH (t4 key x) 1 key (numV y) = (0, t5 key x y) := by
  show putO (t4 key x) 1 key (numV y) (hE 0) = _
  unfold putO
  rw [right_num, if_neg (by decide), if_neg (by rintro ⟨e, _⟩; exact absurd e (by decide)), if_neg (by rintro ⟨e, _⟩; exact absurd e (by decide))]
  rfl
theorem te7 (key : ByteArray) (x y : Nat) : getS (t5 key x y) 2 key = (numV y, true) := by
  have o1 := own_plain (t5 key x y) 1 _ key rfl (show (1 : Int) ≠ 2 by decide)
  have o2 := own_plain (t5 key x y) 2 _ key rfl (show (1 : Int) ≠ 2 by decide)
  rw [look_hK] at o1
  rw [look_hE] at o2
  have hh : holderS (t5 key x y) 2 key = 1 := by
    unfold holderS
    rw [if_pos ⟨by decide, by show (2 : Int) < ((3 : Nat) : Int); decide⟩]
    show (holdS (t5 key x y) key 4 2).getD (-1) = 1
    simp only [holdS, show objS (t5 key x y) 2 = some (hE 1) from rfl, show (hE 1).proto = 1 from rfl, show objS (t5 key x y) 1 = some (hK 0 key (numV y)) from rfl, o1, o2]
    rfl
  unfold getS
  rw [hh, o1]
theorem te8 (key : ByteArray) (x y : Nat) : getS (t5 key x y) 0 key = (numV x, true) := by
  have o0 := own_plain (t5 key x y) 0 _ key rfl (show (1 : Int) ≠ 2 by decide)
  rw [look_hK] at o0
  have hh : holderS (t5 key x y) 0 key = 0 := by
    unfold holderS
    rw [if_pos ⟨by decide, by show (0 : Int) < ((3 : Nat) : Int); decide⟩]
    show (holdS (t5 key x y) key 4 0).getD (-1) = 0
    simp only [holdS, show objS (t5 key x y) 0 = some (hK (-1) key (numV x)) from rfl, o0]
    rfl
  unfold getS
  rw [hh, o0]
theorem te9 (key : ByteArray) (x y : Nat) : dropH (t5 key x y) 1 key = (true, t4 key x) := by
  unfold dropH
  rw [show objS (t5 key x y) 1 = some (hK 0 key (numV y)) from rfl]
  simp only
  rw [if_neg (by rintro ⟨e, _⟩; exact absurd e (show ¬ ((hK 0 key (numV y)).kind = 2) by show ¬ ((1 : Int) = 2); decide)), if_pos (by show (lookS [(key, numV y)] key).isSome = true; rw [look_hit]; rfl)]
  have h1 : lessK [key] key = [] := by unfold lessK; simp
  have h2 : delS [(key, numV y)] key = [] := by unfold delS; rw [if_pos rfl]
  unfold hK
  simp only [h1, h2]
  rfl
theorem tfit (l : List OSt) (n : Int) (h0 : 0 ≤ n) (h1 : n ≤ 10000) (hl : l.length ≤ 10000) (hi : ∀ o ∈ l, o.items.length ≤ 100000 ∧ o.keys.length ≤ 100000) : Fine ⟨l, n⟩ := ⟨⟨h0, h1, hl⟩, fun o ho => (hi o ho).1, fun o ho => (hi o ho).2⟩
theorem tdesc3 (a b c : OSt) (n : Int) (ha : a.proto < 0) (hb : b.proto < 1) (hc : c.proto < 2) : Desc ⟨[a, b, c], n⟩ := by
  intro i o h
  match i, h with
  | 0, h => obtain rfl := Option.some.inj h; exact ha
  | 1, h => obtain rfl := Option.some.inj h; exact hb
  | 2, h => obtain rfl := Option.some.inj h; exact hc
  | n + 3, h => cases h
end Go.Proofs.YtnfobcedbfbbiaaDoor.Hp
