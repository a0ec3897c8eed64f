/- awake: the law's own question. -/
import Derived.Test.YtnfobcedbfbbiaaDoorHeapM
namespace Go.Proofs.YtnfobcedbfbbiaaDoor.Hp
open Go.RowKit Go.Proofs.YtnfobcedbfbbiaaDoorW.PrintWords Go.Proofs.YtnfobcedbfbbiaaDoorW.PrintLast Go.Proofs.YtnfobcedbfbbiaaDoorW.PrintMore Go.Proofs.YtnfobcedbfbbiaaDoor.Hand Go.Proofs.YtnfobcedbfbbiaaDoor.PIx Go.Proofs.YtnfobcedbfbbiaaDoor.Pure
set_option linter.unusedVariables false
set_option linter.unusedSimpArgs false
theorem HeapOk.alloc {w : World} {B p : Nat} {σ : HSt} (h : HeapOk w B p σ) (o : Obj) : HeapOk (w.alloc o) B p σ := h.below ((Below.refl _ _).alloc (Nat.le_refl _) o)
theorem HeapOk.base {w : World} {B p : Nat} {σ : HSt} (h : HeapOk w B p σ) : B ≤ w.heap.size := by
  obtain ⟨ov, Ls, h⟩ := h
  exact h.base
theorem array_num {w : World} {B p : Nat} {σ : HSt} (h : HeapOk w B p σ) (hf : Fit σ) (C : Nat) (v : Value) (xs : List Nat) (n : Nat) (hn : (xs.map numV).length = n) (hv : w.ownsRow C 33 4 v n ((xs.map numV).flatMap Val.vs)) (hl : n ≤ 100000) :
    Calls Tryd.prog 15 #[.pointer (some ⟨p, 0, none⟩), v] w (Left B p (.tuple #[.int .i64 (addS σ ⟨2, -1, 0, 0, 0, [], [], xs.map numV⟩ (1 + n)).1, .int .i64 (addS σ ⟨2, -1, 0, 0, 0, [], [], xs.map numV⟩ (1 + n)).2.1]) (addS σ ⟨2, -1, 0, 0, 0, [], [], xs.map numV⟩ (1 + n)).2.2 w) := by
  subst hn
  obtain ⟨ov, Ls, h⟩ := h
  exact array_calls h hf C v _ hv hl (fun x hx w1 _ => by obtain ⟨y, _, rfl⟩ := List.mem_map.1 hx; exact right_num_calls y)
theorem array_num_full {w : World} {B p : Nat} {σ : HSt} (h : HeapOk w B p σ) (hf : Fit σ) (C : Nat) (v : Value) (xs : List Nat) (n : Nat) (hn : (xs.map numV).length = n) (hv : w.ownsRow C 33 4 v n ((xs.map numV).flatMap Val.vs)) (hl : n ≤ 100000) (hlt : σ.left < 1 + n) :
    Calls Tryd.prog 15 #[.pointer (some ⟨p, 0, none⟩), v] w fun e w' => e = .returned (.tuple #[.int .i64 0, .int .i64 112]) ∧ Below w.heap.size w w' := by
  subst hn
  obtain ⟨ov, Ls, h⟩ := h
  exact array_full h hf C v _ hv hl (fun x hx w1 _ => by obtain ⟨y, _, rfl⟩ := List.mem_map.1 hx; exact right_num_calls y) hlt
def mapS (σ : HSt) (i : Int) (o : OSt) (key : ByteArray) (v : Val) : Int × HSt :=
  if (lookS o.props key).isSome = true then (0, ⟨σ.objs.set i.toNat { o with props := putS o.props key v }, σ.left⟩)
  else if σ.left < 1 then (112, σ) else (0, ⟨σ.objs.set i.toNat { o with keys := o.keys ++ [key], props := putS o.props key v }, σ.left - 1⟩)
theorem put_num {w : World} {B p : Nat} {σ : HSt} (h : HeapOk w B p σ) (hf : Fit σ) (i : Int) (key : ByteArray) (x : Nat) (hks : key.size ≤ 140737488351232) (o : OSt) (ho : objS σ i = some o) (hk : o.kind ≠ 2) (hkeys : o.keys.length ≤ 100000) :
    Calls Tryd.prog 16 #[.pointer (some ⟨p, 0, none⟩), .int .i64 i, .string key, (numV x).agg] w (Left B p (.int .i64 (mapS σ i o key (numV x)).1) (mapS σ i o key (numV x)).2 w) := by
  obtain ⟨ov, Ls, h⟩ := h
  unfold mapS
  by_cases c1 : (lookS o.props key).isSome = true
  · rw [if_pos c1]
    exact put_there h hf i key (numV x) hks o ho hk (fun w1 _ => right_num_calls x) c1
  · rw [if_neg c1]
    have c2 := Bool.eq_false_iff.2 c1
    by_cases c3 : σ.left < 1
    · rw [if_pos c3]
      exact put_full h hf i key (numV x) hks o ho hk (fun w1 _ => right_num_calls x) c2 c3
    · rw [if_neg c3]
      exact put_room h hf i key (numV x) hks o ho hk (fun w1 _ => right_num_calls x) c2 c3 hkeys
theorem own_two (W : World) (x y : Nat) : (W.alloc (.cells #[.int .i64 3, .float .f64 x, .string ⟨#[]⟩, .int .i64 0, .int .i64 3, .float .f64 y, .string ⟨#[]⟩, .int .i64 0] 33)).ownsRow W.heap.size 33 4 (.slice (some ⟨W.heap.size, 0, none⟩) 2 2) 2 (([x, y].map numV).flatMap Val.vs) :=
  ⟨rfl, .inr ⟨_, 2, _, rfl, Nat.le_refl _, heap_alloc_new W _, Nat.le_refl _, by decide, rfl, rfl⟩⟩
theorem own_one (W : World) (x : Nat) : (W.alloc (.cells #[.int .i64 3, .float .f64 x, .string ⟨#[]⟩, .int .i64 0] 33)).ownsRow W.heap.size 33 4 (.slice (some ⟨W.heap.size, 0, none⟩) 1 1) 1 (([x].map numV).flatMap Val.vs) :=
  ⟨rfl, .inr ⟨_, 1, _, rfl, Nat.le_refl _, heap_alloc_new W _, Nat.le_refl _, by decide, rfl, rfl⟩⟩
def kKey : ByteArray := ⟨#[0, 107]⟩
def aP : OSt := ⟨1, -1, 0, 0, 0, [], [], []⟩
def aQ : OSt := ⟨1, 0, 0, 0, 0, [], [], []⟩
def aA : OSt := ⟨2, -1, 0, 0, 0, [], [], [numV 4607182418800017408, numV 4611686018427387904]⟩
def aK : OSt := ⟨1, -1, 0, 0, 0, [kKey], [(kKey, numV 4617315517961601024)], []⟩
def s0 : HSt := ⟨[], 7⟩
def s1 : HSt := ⟨[aP], 6⟩
def s2 : HSt := ⟨[aP, aQ], 5⟩
def s3 : HSt := ⟨[aP, aQ, aA], 2⟩
def s4 : HSt := ⟨[aK, aQ, aA], 1⟩
theorem e0 : plainS s0 (-1) = (0, 0, s1) := rfl
theorem e1 : plainS s1 0 = (1, 0, s2) := rfl
theorem e2 : addS s2 ⟨2, -1, 0, 0, 0, [], [], [4607182418800017408, 4611686018427387904].map numV⟩ (1 + (2 : Nat)) = (2, 0, s3) := rfl
theorem e3 : mapS s3 0 aP kKey (numV 4617315517961601024) = (0, s4) := rfl
theorem e4 : getS s4 1 kKey = (numV 4617315517961601024, true) := by rfl
theorem e5 : ownS s4 2 lengthKey = (numV 4611686018427387904, true) := by rfl
theorem eK : pennantref01_Of.f 10 ⟨#[107]⟩ = some kKey := by kernel_rfl
theorem eL : pennantref01_Of.f 20 ⟨#[108, 101, 110, 103, 116, 104]⟩ = some lengthKey := by kernel_rfl
theorem desc4 : Desc s4 := by
  intro i o h
  match i, h with
  | 0, h => obtain rfl := Option.some.inj h; decide
  | 1, h => obtain rfl := Option.some.inj h; decide
  | 2, h => obtain rfl := Option.some.inj h; decide
  | n + 3, h => cases h
theorem fit0 : Fit s0 := ⟨by decide, by decide, by decide⟩
theorem fit1 : Fit s1 := ⟨by decide, by decide, by decide⟩
theorem fit2 : Fit s2 := ⟨by decide, by decide, by decide⟩
theorem fit3 : Fit s3 := ⟨by decide, by decide, by decide⟩
theorem fit4 : Fit s4 := ⟨by decide, by decide, by decide⟩
theorem its4 : ∀ o ∈ s4.objs, o.items.length ≤ 100000 := by
  intro o ho
  simp only [s4, List.mem_cons, List.mem_nil_iff, or_false] at ho
  rcases ho with rfl | rfl | rfl <;> decide
set_option maxHeartbeats 4000000 in
set_option maxRecDepth 100000 in
theorem awake_calls (w : World) : Calls Tryd.prog 8 #[] w fun e w' => e = .returned (.bool true) ∧ Below w.heap.size w w' := by
  have HN := Aside0.mk (new_calls 7 w)
  have ok0 : HeapOk (w.alloc (.cells #[.slice none 0 0, .int .i64 (newLeft 7)] 72)) w.heap.size w.heap.size s0 := ⟨_, _, heap_new w w.heap.size (Nat.le_refl _) _⟩
  have b0 := (Below.refl w.heap.size w).alloc (Nat.le_refl _) (.cells #[.slice none 0 0, .int .i64 (newLeft 7)] 72)
  go_enter Tryd.func8, Tryd.ntmps8
  go_upto_region 4 with (go_at_call 13; go_must (refine (HN.out).mono ?_; rintro e w' ⟨rfl, rfl⟩))
  generalize w.alloc (.cells #[.slice none 0 0, .int .i64 (newLeft 7)] 72) = w0 at *
  have C1 := plain_calls ok0 fit0 (-1)
  rw [e0] at C1
  have C1 := Aside0.mk C1
  have B0 := Aside0.mk b0
  clear ok0 HN b0
  go_upto_region 5 with (go_at_call 21; go_must (refine (C1.out).mono ?_; rintro e w1 ⟨rfl, hb, ok1⟩; have OK1 := Aside0.mk ok1; have B1 := Aside0.mk (B0.out.trans hb); clear ok1 hb C1 B0))
  have C2 := plain_calls OK1.out fit1 0
  rw [e1] at C2
  have C2 := Aside0.mk C2
  go_upto_region 6 with (go_at_call 21; go_must (refine (C2.out).mono ?_; rintro e w2 ⟨rfl, hb, ok2⟩; have OK2 := Aside0.mk ok2; have B2 := Aside0.mk (B1.out.trans hb); clear ok2 hb C2 B1 OK1))
  have CN := fun x W => Aside0.mk (num_calls x W)
  go_upto_region 7 with (first | (go_at_call 14; go_must (refine ((CN _ _).out).mono ?_; rintro e w' ⟨rfl, hb⟩; have OKn := Aside0.mk (OK2.out.below hb); have Bn := Aside0.mk (B2.out.trans (hb.mono OK2.out.base)); clear hb OK2 B2; have OK2 := OKn; have B2 := Bn; clear OKn Bn)) | (go_at_call 15; go_must (refine (array_num (OK2.out.alloc _) fit2 _ _ [4607182418800017408, 4611686018427387904] 2 rfl (own_two _ _ _) (by decide)).mono ?_; rw [e2]; rintro e w3 ⟨rfl, hb, ok3⟩; have OK3 := Aside0.mk ok3; have B3 := Aside0.mk ((B2.out.alloc OK2.out.base _).trans hb); clear ok3 hb OK2 B2)))
  have CO := fun W => Aside0.mk (pennantref01_Of.calls 10 ⟨#[107]⟩ kKey W eK)
  go_upto_region 8 with (go_at_call 19; go_must (refine ((CO _).out).mono ?_; rintro e w4 ⟨rfl, hb⟩; have OK4 := Aside0.mk (OK3.out.below hb); have B4 := Aside0.mk (B3.out.trans (hb.mono OK3.out.base)); clear hb OK3 B3))
  go_upto_region 9 with (first | (go_at_call 14; go_must (refine ((CN _ _).out).mono ?_; rintro e w5 ⟨rfl, hb⟩; have OK5 := Aside0.mk (OK4.out.below hb); have B5 := Aside0.mk (B4.out.trans (hb.mono OK4.out.base)); clear hb OK4 B4)) | (go_at_call 16; go_must (refine (put_num OK5.out fit3 0 kKey 4617315517961601024 (by decide) aP rfl (by decide) (by decide)).mono ?_; rw [e3]; rintro e w6 ⟨rfl, hb, ok6⟩; have OK6 := Aside0.mk ok6; have B6 := Aside0.mk (B5.out.trans hb); clear ok6 hb OK5 B5)))
  go_upto_region 10 with (go_at_call 22; go_must (refine (get_calls OK6.out fit4 desc4 1 kKey (by decide) its4).mono ?_; rw [e4]; rintro e w7 ⟨rfl, hb⟩; have OK7 := Aside0.mk (OK6.out.below hb); have B7 := Aside0.mk (B6.out.trans (hb.mono OK6.out.base)); clear hb OK6 B6))
  have hv := heap_alloc_new w7 (.cells #[.int .i64 3, .float .f64 4617315517961601024, .string ⟨#[]⟩, .int .i64 0] 33)
  have OK8 := Aside0.mk (OK7.out.alloc (.cells #[.int .i64 3, .float .f64 4617315517961601024, .string ⟨#[]⟩, .int .i64 0] 33))
  have B8 := Aside0.mk (B7.out.alloc OK7.out.base (.cells #[.int .i64 3, .float .f64 4617315517961601024, .string ⟨#[]⟩, .int .i64 0] 33))
  have hs8 : w7.heap.size < (w7.alloc (.cells #[.int .i64 3, .float .f64 4617315517961601024, .string ⟨#[]⟩, .int .i64 0] 33)).heap.size := by rw [World.size_alloc]; exact Nat.lt_succ_self _
  have HV := Aside0.mk hv
  have HS8 := Aside0.mk hs8
  clear hv hs8 OK7 B7
  generalize w7.alloc (.cells #[.int .i64 3, .float .f64 4617315517961601024, .string ⟨#[]⟩, .int .i64 0] 33) = wB at *
  have D8 := Aside0.mk (Below.refl wB.heap.size wB)
  have CL := fun W => Aside0.mk (pennantref01_Of.calls 20 ⟨#[108, 101, 110, 103, 116, 104]⟩ lengthKey W eL)
  go_upto_region 11 with (first | (go_at_call 19; go_must (refine ((CL _).out).mono ?_; rintro e w9 ⟨rfl, hb⟩; have OK9 := Aside0.mk (OK8.out.below hb); have D9 := Aside0.mk (below_step D8.out hb); clear hb OK8 D8)) | (go_at_call 20; go_must (refine (own_calls OK9.out fit4 2 lengthKey (by decide) its4).mono ?_; rw [e5]; rintro e w10 ⟨rfl, hb⟩; have OK10 := Aside0.mk (OK9.out.below hb); have D10 := Aside0.mk (below_step D9.out hb); clear hb OK9 D9)))
  have hv2 := heap_alloc_new w10 (.cells #[.int .i64 3, .float .f64 4611686018427387904, .string ⟨#[]⟩, .int .i64 0] 33)
  have hs2 : w10.heap.size < (w10.alloc (.cells #[.int .i64 3, .float .f64 4611686018427387904, .string ⟨#[]⟩, .int .i64 0] 33)).heap.size := by rw [World.size_alloc]; exact Nat.lt_succ_self _
  have OK11 := Aside0.mk (OK10.out.alloc (.cells #[.int .i64 3, .float .f64 4611686018427387904, .string ⟨#[]⟩, .int .i64 0] 33))
  have D11 := Aside0.mk (D10.out.alloc D10.out.size (.cells #[.int .i64 3, .float .f64 4611686018427387904, .string ⟨#[]⟩, .int .i64 0] 33))
  have HV2 := Aside0.mk hv2
  have HS2 := Aside0.mk hs2
  clear hv2 hs2 OK10 D10
  generalize w10.alloc (.cells #[.int .i64 3, .float .f64 4611686018427387904, .string ⟨#[]⟩, .int .i64 0] 33) = wC at *
  have F11 := Aside0.mk (Below.refl wC.heap.size wC)
  go_upto_region 12 with (first | (go_at_call 14; go_must (refine ((CN _ _).out).mono ?_; rintro e w12 ⟨rfl, hb⟩; have OK12 := Aside0.mk (OK11.out.below hb); have F12 := Aside0.mk (below_step F11.out hb); clear hb OK11 F11)) | (go_at_call 15; go_must (refine (array_num_full (OK12.out.alloc _) fit4 _ _ [4607182418800017408] 1 rfl (own_one _ _) (by decide) (by decide)).mono ?_; rintro e w13 ⟨rfl, hb⟩; have F13 := Aside0.mk (below_step (F12.out.alloc F12.out.size _) hb); clear hb OK12 F12)))
  have k2 := (F13.out.block w10.heap.size HS2.out).trans HV2.out
  have k1 := (F13.out.block w7.heap.size (Nat.lt_of_lt_of_le HS8.out D11.out.size)).trans ((D11.out.block w7.heap.size HS8.out).trans HV.out)
  have y1 : w13.cell? ⟨w7.heap.size, 1, none⟩ = some (.float .f64 4617315517961601024) := (cell_in k1).trans rfl
  have y2 : w13.cell? ⟨w10.heap.size, 1, none⟩ = some (.float .f64 4611686018427387904) := (cell_in k2).trans rfl
  have g5 : FloatKind.f64.format.order 4617315517961601024 4617315517961601024 = some Ordering.eq := by kernel_rfl
  have g2 : FloatKind.f64.format.order 4611686018427387904 4611686018427387904 = some Ordering.eq := by kernel_rfl
  have hfin := below_step (below_step B8.out D11.out) F13.out
  clear k1 k2
  go_wp2
  go_ret
  exact ⟨rfl, hfin⟩
end Go.Proofs.YtnfobcedbfbbiaaDoor.Hp
