/- HeapShadows: the walk. -/
import Derived.Test.YtnfobcedbfbbiaaDoorSh0
namespace Go.Proofs.YtnfobcedbfbbiaaDoor.Hp
open Go.RowKit Go.Proofs.YtnfobcedbfbbiaaDoorW.PrintWords Go.Proofs.YtnfobcedbfbbiaaDoorW.PrintLast Go.Proofs.YtnfobcedbfbbiaaDoorW.PrintMore Go.Proofs.YtnfobcedbfbbiaaDoor.Hand Go.Proofs.YtnfobcedbfbbiaaDoor.PIx Go.Proofs.YtnfobcedbfbbiaaDoor.Pure
set_option linter.unusedVariables false
set_option linter.unusedSimpArgs false
attribute [local go_sem] max2_int min2_int max_two min_two max_three min_three max_four min_four
set_option maxRecDepth 100000 in
set_option maxHeartbeats 8000000 in
theorem shadows_on (key : ByteArray) (a b : Val) (w : World) (hT : Tabs w) (he : key.size % 2 = 0) (hl : ¬ 400 < key.size) : Calls Tryd.prog 5 #[.string key, a.agg, b.agg] w fun e w' => e = .returned (.bool true) ∧ Below w.heap.size w w' := by
  have HA := fun w => Aside0.mk (awake_true w)
  have d1 : ((key.size : Int) % 2 != 0) = false := by rw [bne_eq_false_iff_eq]; omega
  have d2 : decide (400 < (key.size : Int)) = false := decide_eq_false (by omega)
  have HKS := Aside0.mk (show key.size ≤ 140737488351232 by omega)
  have HT := Aside0.mk hT
  have hb0 := ((Below.refl w.heap.size w).alloc (Nat.le_refl _) (VBox a)).alloc (by rw [World.size_alloc]; exact Nat.le_succ _) (VBox b)
  have hx0 : ((w.alloc (VBox a)).alloc (VBox b)).heap[w.heap.size]? = some (VBox a) := (Below.heap_alloc _ _ _ (by rw [World.size_alloc]; exact Nat.lt_succ_self _)).trans (heap_alloc_new w _)
  have hx1 : ((w.alloc (VBox a)).alloc (VBox b)).heap[w.heap.size + 1]? = some (VBox b) := by
    have := heap_alloc_new (w.alloc (VBox a)) (VBox b)
    rwa [World.size_alloc] at this
  have hsz : ((w.alloc (VBox a)).alloc (VBox b)).heap.size = w.heap.size + 2 := by rw [World.size_alloc, World.size_alloc]
  unfold VBox at hb0 hx0 hx1 hsz
  have HB0 := Aside0.mk hb0
  have HX0 := Aside0.mk hx0
  have HX1 := Aside0.mk hx1
  have HSZ := Aside0.mk hsz
  clear he hl hT hb0 hx0 hx1 hsz
  go_enter Tryd.func5, Tryd.ntmps5
  go_upto_region 5 with (go_at_call 8; go_must (refine ((HA _).out).mono ?_; rintro e w1 ⟨rfl, hb⟩; have HB1 := Aside0.mk hb; clear hb))
  have hq0 : w1.heap[w.heap.size]? = some (VBox a) := (HB1.out.block _ (by rw [HSZ.out]; omega)).trans HX0.out
  have hq1 : w1.heap[w.heap.size + 1]? = some (VBox b) := (HB1.out.block _ (by rw [HSZ.out]; omega)).trans HX1.out
  have HB2 := Aside0.mk (below_step HB0.out HB1.out)
  have HS2 := Aside0.mk (show w.heap.size + 2 ≤ w1.heap.size by have := HB1.out.size; rw [HSZ.out] at this; exact this)
  obtain ⟨y0, y1, y2, y3, f0, f1, f2, f3⟩ := vbox_cells hq0
  obtain ⟨z0, z1, z2, z3, g0, g1, g2, g3⟩ := vbox_cells hq1
  have HQ0 := Aside0.mk hq0
  have HQ1 := Aside0.mk hq1
  clear hq0 hq1 HB0 HX0 HX1 HSZ HB1
  go_cut [40] (fun v40 wc => ∃ k : Bool, v40 = .bool k ∧ wc = w1)
  case first =>
    obtain ⟨k1, c1⟩ : ∃ k, (a.kind != 3) = k := ⟨_, rfl⟩
    obtain ⟨k2, c2⟩ : ∃ k, (b.kind != 3) = k := ⟨_, rfl⟩
    cases k1 <;> cases k2
    all_goals
      go_wp2
      go_meet
      case rel => exact ⟨_, rfl, rfl⟩
  case rest =>
    obtain ⟨k, rfl, hwc⟩ := hcut
    subst hwc
    go_upto_if 40 with (fail)
    go_cut [] (fun wc => ∃ a' b' : Val, Aside0 (wc.heap[w.heap.size]? = some (VBox a')) ∧ Aside0 (wc.heap[w.heap.size + 1]? = some (VBox b')) ∧ Aside0 (Below w.heap.size w wc) ∧ Aside0 (w.heap.size + 2 ≤ wc.heap.size))
    case first =>
      cases k
      case false =>
        go_wp2
        go_meet
        case rel => exact ⟨a, b, HQ0, HQ1, HB2, HS2⟩
      case true =>
        have HH := Aside0.mk (two_num HQ0.out HQ1.out HB2.out HS2.out 4607182418800017408 4611686018427387904)
        go_wp2
        go_meet
        case rel =>
          have hh := HH.out
          exact ⟨numV 4607182418800017408, numV 4611686018427387904, ⟨hh.1⟩, ⟨hh.2.1⟩, ⟨hh.2.2.1⟩, ⟨hh.2.2.2⟩⟩
    case rest =>
      clear y0 y1 y2 y3 f0 f1 f2 f3 z0 z1 z2 z3 g0 g1 g2 g3 HQ0 HQ1 HB2 HS2
      rename_i wc0
      obtain ⟨a', b', HQ0, HQ1, HB2, HS2⟩ := hcut
      obtain ⟨y0, y1, y2, y3, f0, f1, f2, f3⟩ := vbox_cells HQ0.out
      obtain ⟨z0, z1, z2, z3, g0, g1, g2, g3⟩ := vbox_cells HQ1.out
      go_upto_region 7 with (fail)
      go_cut [] (fun wd => ∃ x y : Nat, Aside0 (wd.heap[w.heap.size]? = some (VBox (numV x))) ∧ Aside0 (wd.heap[w.heap.size + 1]? = some (VBox (numV y))) ∧ Aside0 (Below w.heap.size w wd) ∧ Aside0 (w.heap.size + 2 ≤ wd.heap.size))
      case first =>
        go_region
        all_goals
          try go_wp2
          go_meet
          case rel =>
            have hh := two_numd HQ0.out HQ1.out HB2.out HS2.out a'.num b'.num
            exact ⟨a'.num, b'.num, ⟨hh.1⟩, ⟨hh.2.1⟩, ⟨hh.2.2.1⟩, ⟨hh.2.2.2⟩⟩
      case rest =>
        clear y0 y1 y2 y3 f0 f1 f2 f3 z0 z1 z2 z3 g0 g1 g2 g3 HQ0 HQ1 HB2 HS2
        rename_i wc1
        obtain ⟨x, y, HQ0, HQ1, HB2, HS2⟩ := hcut
        have HN := Aside0.mk (new_calls 20 wc)
        go_upto_region 9 with (go_at_call 13; go_must (refine (HN.out).mono ?_; rintro e w' ⟨rfl, rfl⟩))
        have ok0 : HeapOk (wc.alloc (.cells #[.slice none 0 0, .int .i64 (newLeft 20)] 72)) wc.heap.size [] wc.heap.size t0 := ⟨_, _, heap_new wc wc.heap.size (Nat.le_refl _) _⟩
        have hb0 := HB2.out.alloc HB2.out.size (.cells #[.slice none 0 0, .int .i64 (newLeft 20)] 72)
        have hq0 := blk_alloc HQ0.out (.cells #[.slice none 0 0, .int .i64 (newLeft 20)] 72)
        have hq1 := blk_alloc HQ1.out (.cells #[.slice none 0 0, .int .i64 (newLeft 20)] 72)
        have OK0 := Aside0.mk ((ok0.old hq1 (by have := HS2.out; omega)).old hq0 (by have := HS2.out; omega))
        have B0 := Aside0.mk hb0
        have HBS := Aside0.mk (show w.heap.size ≤ wc.heap.size by have := HS2.out; omega)
        clear ok0 hb0 hq0 hq1 HN HQ0 HQ1 HB2 HS2
        generalize wc.alloc (.cells #[.slice none 0 0, .int .i64 (newLeft 20)] 72) = w0 at *
        generalize hp : wc.heap.size = p at *
        have C1 := plain_calls OK0.out (tfit [] 20 (by decide) (by decide) (by decide) (by simp)).fit (-1)
        rw [te0] at C1
        have C1 := Aside0.mk C1
        go_upto_region 12 with (go_at_call 21; go_must (refine (C1.out).mono ?_; rintro e w1 ⟨rfl, hb, ok1⟩; have OK1 := Aside0.mk ok1; have B1 := Aside0.mk (B0.out.trans (hb.mono HBS.out)); clear ok1 hb C1 B0 OK0))
        have C2 := Aside0.mk (plain_calls OK1.out (tfit [hE (-1)] 19 (by decide) (by decide) (by decide) (by simp [hE])).fit 0)
        rw [te1] at C2
        go_upto_region 13 with (go_at_call 21; go_must (refine (C2.out).mono ?_; rintro e w2 ⟨rfl, hb, ok2⟩; have OK2 := Aside0.mk ok2; have B2 := Aside0.mk (B1.out.trans (hb.mono HBS.out)); clear ok2 hb C2 B1 OK1))
        have C3 := Aside0.mk (plain_calls OK2.out (tfit [hE (-1), hE 0] 18 (by decide) (by decide) (by decide) (by simp [hE])).fit 1)
        rw [te2] at C3
        go_upto_region 14 with (go_at_call 21; go_must (refine (C3.out).mono ?_; rintro e w3 ⟨rfl, hb, ok3⟩; have OK3 := Aside0.mk ok3; have B3 := Aside0.mk (B2.out.trans (hb.mono HBS.out)); clear ok3 hb C3 B2 OK2))
        obtain ⟨y0, y1, y2, y3⟩ := OK3.out.box (b := w.heap.size) (v := numV x) (by simp)
        have C4 := Aside0.mk (put_calls OK3.out (tfit [hE (-1), hE 0, hE 1] 17 (by decide) (by decide) (by decide) (by simp [hE])) 0 key (numV x) HKS.out (show (0 : Nat) ≤ 140737488351232 by decide))
        rw [te3] at C4
        go_upto_region 16 with (go_at_call 16; go_must (refine (C4.out).mono ?_; rintro e w4 ⟨rfl, hb, ok4⟩; have OK4 := Aside0.mk ok4; have B4 := Aside0.mk (B3.out.trans (hb.mono HBS.out)); clear ok4 hb C4 B3 OK3 y0 y1 y2 y3))
        have F4 := Aside0.mk (tfit [hK (-1) key (numV x), hE 0, hE 1] 16 (by decide) (by decide) (show (3 : Nat) ≤ 10000 by decide) (by simp [hE, hK]))
        have D4 := Aside0.mk (tdesc3 (hK (-1) key (numV x)) (hE 0) (hE 1) 16 (show (-1 : Int) < 0 by decide) (show (0 : Int) < 1 by decide) (show (1 : Int) < 2 by decide))
        have C5 := Aside0.mk (get_calls OK4.out F4.out.fit D4.out 2 key HKS.out F4.out.items)
        rw [te4] at C5
        go_upto_region 17 with (go_at_call 22; go_must (refine (C5.out).mono ?_; rintro e w5 ⟨rfl, hb⟩; have OK5 := Aside0.mk (OK4.out.below hb); have B5 := Aside0.mk (below_step B4.out hb); clear hb C5 B4 OK4))
        have OK6 := Aside0.mk (OK5.out.boxed (VBox (numV x)))
        have B6 := Aside0.mk (B5.out.alloc B5.out.size (VBox (numV x)))
        unfold VBox at B6 OK6
        clear OK5 B5
        generalize w5.alloc (.cells #[.int .i64 3, .float .f64 x, .string ⟨#[]⟩, .int .i64 0] 33) = w6 at *
        generalize w5.heap.size = n14 at *
        have C7 := Aside0.mk (own_calls OK6.out F4.out.fit 2 key HKS.out F4.out.items)
        rw [te5] at C7
        go_upto_region 18 with (go_at_call 20; go_must (refine (C7.out).mono ?_; rintro e w7 ⟨rfl, hb⟩; have OK7 := Aside0.mk (OK6.out.below hb); have B7 := Aside0.mk (below_step B6.out hb); clear hb C7 B6 OK6))
        have OK8 := Aside0.mk (OK7.out.alloc (.cells #[.int .i64 Val.zero.kind, .float .f64 Val.zero.num, .string Val.zero.text, .int .i64 Val.zero.ref] 33))
        have B8 := Aside0.mk (B7.out.alloc B7.out.size (.cells #[.int .i64 Val.zero.kind, .float .f64 Val.zero.num, .string Val.zero.text, .int .i64 Val.zero.ref] 33))
        clear OK7 B7
        generalize w7.alloc (.cells #[.int .i64 Val.zero.kind, .float .f64 Val.zero.num, .string Val.zero.text, .int .i64 Val.zero.ref] 33) = w8 at *
        generalize w7.heap.size = n16 at *
        obtain ⟨y0, y1, y2, y3⟩ := OK8.out.box (b := w.heap.size) (v := numV x) (by simp [VBox])
        obtain ⟨z0, z1, z2, z3⟩ := OK8.out.box (b := n14) (v := numV x) (by simp [VBox])
        have VS := fun z W => Aside0.mk (vsame_self (numV z) W)
        have F4b := F4
        go_upto_region 20 with (first | (go_at_call 23; go_must (refine ((VS x _).out).mono ?_; rintro e w9 ⟨rfl, hb⟩; have OK9 := Aside0.mk (OK8.out.below hb); have B9 := Aside0.mk (below_step B8.out hb); obtain ⟨v0, v1, v2, v3⟩ := OK9.out.box (b := w.heap.size + 1) (v := numV y) (by simp [VBox]); clear hb B8 OK8 y0 y1 y2 y3 z0 z1 z2 z3)) | (go_at_call 16; go_must (refine (put_calls OK9.out F4.out 1 key (numV y) HKS.out (show (0 : Nat) ≤ 140737488351232 by decide)).mono ?_; rw [te6]; rintro e w10 ⟨rfl, hb, ok10⟩; have OK10 := Aside0.mk ok10; have B10 := Aside0.mk (B9.out.trans (hb.mono HBS.out)); clear ok10 hb B9 OK9 v0 v1 v2 v3)))
        have F5 := Aside0.mk (tfit [hK (-1) key (numV x), hK 0 key (numV y), hE 1] 15 (by decide) (by decide) (show (3 : Nat) ≤ 10000 by decide) (by simp [hE, hK]))
        have D5 := Aside0.mk (tdesc3 (hK (-1) key (numV x)) (hK 0 key (numV y)) (hE 1) 15 (show (-1 : Int) < 0 by decide) (show (0 : Int) < 1 by decide) (show (1 : Int) < 2 by decide))
        have C11 := Aside0.mk (get_calls OK10.out F5.out.fit D5.out 2 key HKS.out F5.out.items)
        rw [te7] at C11
        go_upto_region 21 with (go_at_call 22; go_must (refine (C11.out).mono ?_; rintro e w11 ⟨rfl, hb⟩; have OK11 := Aside0.mk (OK10.out.below hb); have B11 := Aside0.mk (below_step B10.out hb); clear hb C11 B10 OK10))
        have OK12 := Aside0.mk (OK11.out.boxed (VBox (numV y)))
        have B12 := Aside0.mk (B11.out.alloc B11.out.size (VBox (numV y)))
        unfold VBox at B12 OK12
        clear OK11 B11
        generalize w11.alloc (.cells #[.int .i64 3, .float .f64 y, .string ⟨#[]⟩, .int .i64 0] 33) = w12 at *
        generalize w11.heap.size = n18 at *
        have C13 := Aside0.mk (get_calls OK12.out F5.out.fit D5.out 0 key HKS.out F5.out.items)
        rw [te8] at C13
        go_upto_region 22 with (go_at_call 22; go_must (refine (C13.out).mono ?_; rintro e w13 ⟨rfl, hb⟩; have OK13 := Aside0.mk (OK12.out.below hb); have B13 := Aside0.mk (below_step B12.out hb); clear hb C13 B12 OK12))
        have OK14 := Aside0.mk (OK13.out.boxed (VBox (numV x)))
        have B14 := Aside0.mk (B13.out.alloc B13.out.size (VBox (numV x)))
        unfold VBox at B14 OK14
        clear OK13 B13
        generalize w13.alloc (.cells #[.int .i64 3, .float .f64 x, .string ⟨#[]⟩, .int .i64 0] 33) = w14 at *
        generalize w13.heap.size = n19 at *
        obtain ⟨y0, y1, y2, y3⟩ := OK14.out.box (b := n18) (v := numV y) (by simp [VBox])
        obtain ⟨z0, z1, z2, z3⟩ := OK14.out.box (b := w.heap.size + 1) (v := numV y) (by simp [VBox])
        have VY := VS y
        go_upto_region 24 with (first | (go_at_call 23; (refine ((VY _).out).mono ?_; rintro e w15 ⟨rfl, hb⟩; have OK15 := Aside0.mk (OK14.out.below hb); have B15 := Aside0.mk (below_step B14.out hb); clear hb B14 OK14 y0 y1 y2 y3 z0 z1 z2 z3 VY; obtain ⟨y0, y1, y2, y3⟩ := OK15.out.box (b := n19) (v := numV x) (by simp [VBox]); obtain ⟨z0, z1, z2, z3⟩ := OK15.out.box (b := w.heap.size) (v := numV x) (by simp [VBox]))) | (go_at_call 23; go_must (refine ((VS x _).out).mono ?_; rintro e w16 ⟨rfl, hb⟩; have OK16 := Aside0.mk (OK15.out.below hb); have B16 := Aside0.mk (below_step B15.out hb); clear hb B15 OK15 y0 y1 y2 y3 z0 z1 z2 z3)) | (go_at_call 24; go_must (refine (drop_calls OK16.out F5.out 1 key HKS.out (fun o ho _ => by obtain rfl := Option.some.inj ho; exact List.cons_ne_nil _ _)).mono ?_; rw [te9]; rintro e w17 ⟨rfl, hb, ok17⟩; have OK17 := Aside0.mk ok17; have B17 := Aside0.mk (B16.out.trans (hb.mono HBS.out)); clear ok17 hb B16 OK16)))
        have C18 := Aside0.mk (get_calls OK17.out F4.out.fit D4.out 2 key HKS.out F4.out.items)
        rw [te4] at C18
        go_upto_region 25 with (go_at_call 22; go_must (refine (C18.out).mono ?_; rintro e w18 ⟨rfl, hb⟩; have OK18 := Aside0.mk (OK17.out.below hb); have B18 := Aside0.mk (below_step B17.out hb); clear hb C18 B17 OK17))
        have OK19 := Aside0.mk (OK18.out.boxed (VBox (numV x)))
        have B19 := Aside0.mk (B18.out.alloc B18.out.size (VBox (numV x)))
        unfold VBox at B19 OK19
        clear OK18 B18
        generalize w18.alloc (.cells #[.int .i64 3, .float .f64 x, .string ⟨#[]⟩, .int .i64 0] 33) = w19 at *
        generalize w18.heap.size = n21 at *
        obtain ⟨y0, y1, y2, y3⟩ := OK19.out.box (b := n21) (v := numV x) (by simp [VBox])
        obtain ⟨z0, z1, z2, z3⟩ := OK19.out.box (b := w.heap.size) (v := numV x) (by simp [VBox])
        have KK := fun (W : World) (K' : List (Nat × Obj)) (hW : HeapOk W p K' p (t4 key x)) (hB : Below w.heap.size w W) => Aside0.mk (keys_calls hW F4.out (Tabs_below HT.out hB) 2 (hE 1) rfl [] rfl)
        go_wp2_with (first | (go_at_call 23; go_must (refine ((VS x _).out).mono ?_; rintro e w20 ⟨rfl, hb⟩; have OK20 := Aside0.mk (OK19.out.below hb); have B20 := Aside0.mk (below_step B19.out hb); clear hb B19 OK19 y0 y1 y2 y3 z0 z1 z2 z3)) | (go_at_call 18; (refine ((KK _ _ OK20.out B20.out).out).mono ?_; rintro e w21 ⟨v1, rfl, hown, hb⟩; obtain ⟨A1, c1, rfl⟩ := own_slice hown; have OK21 := Aside0.mk (OK20.out.below hb); have B21 := Aside0.mk (below_step B20.out hb); clear hb B20 OK20 hown KK)) | (go_at_call 18; go_must (refine (keys_calls OK21.out F4.out (Tabs_below HT.out B21.out) 0 (hK (-1) key (numV x)) rfl [key] rfl).mono ?_; rintro e w22 ⟨v2, rfl, hown, hb⟩; obtain ⟨A2, c2, rfl⟩ := own_slice hown; have B22 := Aside0.mk (below_step B21.out hb); clear hb B21 OK21 hown)))
        go_ret
        exact ⟨rfl, B22.out⟩
end Go.Proofs.YtnfobcedbfbbiaaDoor.Hp
