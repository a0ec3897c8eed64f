/- HeapArrays: the walk. -/
import Derived.Test.YtnfobcedbfbbiaaDoorAr0
namespace Go.Proofs.YtnfobcedbfbbiaaDoor.Hp
open Go.RowKit Go.Proofs.YtnfobcedbfbbiaaDoorW.PrintWords Go.Proofs.YtnfobcedbfbbiaaDoorW.PrintLast Go.Proofs.YtnfobcedbfbbiaaDoorW.PrintMore Go.Proofs.YtnfobcedbfbbiaaDoor.Hand Go.Proofs.YtnfobcedbfbbiaaDoor.PIx Go.Proofs.YtnfobcedbfbbiaaDoor.Pure
set_option linter.unusedVariables false
set_option linter.unusedSimpArgs false
attribute [local go_sem] max2_int min2_int max_two min_two max_three min_three max_four min_four
theorem HeapAt.fresh {w w' : World} {B p : Nat} {l : Int} (h : HeapAt w B [] p ⟨[], l⟩ (.slice none 0 0) []) {row : Option Nat} (hg : w.grownBy w' row) (hr : ∀ q, row = some q → p < q) : HeapAt w' B [] p ⟨[], l⟩ (.slice none 0 0) [] :=
  h.move (fun b hb => by
    have : b = p := by simpa [feet, Value.ownBlock] using hb
    subst this
    exact hg.block b h.top_lt (fun e => by have := hr b e.symm; omega)) (fun b hb => by obtain ⟨x, hx, _⟩ := hb; cases hx)
theorem num_box (W : World) (x : Nat) (j : Nat) (u : Value) (h : (numV x).vs[j]? = some u) : (W.alloc (.cells #[.int .i64 3, .float .f64 x, .string ⟨#[]⟩, .int .i64 0] 33)).cell? ((⟨W.heap.size, 0, none⟩ : Addr).add j) = some u := by
  have hb := heap_alloc_new W (.cells #[.int .i64 3, .float .f64 x, .string ⟨#[]⟩, .int .i64 0] 33)
  match j, h with
  | 0, h => exact ((cell_in (j := 0) hb).trans rfl).trans h
  | 1, h => exact ((cell_in (j := 1) hb).trans rfl).trans h
  | 2, h => exact ((cell_in (j := 2) hb).trans rfl).trans h
  | 3, h => exact ((cell_in (j := 3) hb).trans rfl).trans h
  | j + 4, h => cases h
theorem numL_flat (k : Nat) : ((numL (k + 1)).map numV).flatMap Val.vs = ((numL k).map numV).flatMap Val.vs ++ (numV (fl k)).vs := by
  rw [numL_succ, List.map_append, List.flatMap_append]
  simp
set_option maxRecDepth 100000 in
set_option maxHeartbeats 8000000 in
theorem arrays_walk (n c : Nat) (hn : n < 256) (hc : c < 256) (w : World) (hT : Tabs w) : Calls Tryd.prog 4 #[.int .u8 n, .int .u8 c] w fun e w' => e = .returned (.bool true) ∧ Below w.heap.size w w' := by
  have HA := fun w => Aside0.mk (awake_true w)
  have HT := Aside0.mk hT
  have HN := Aside0.mk hn
  have HC := Aside0.mk hc
  have NW := fun w => Aside0.mk (new_calls 10000 w)
  have en : wrap64 (n : Int) = n := by unfold wrap64; omega
  have en2 : IntKind.i64.wrap (n : Int) = n := by rw [IntKind.wrap_i64]; omega
  have ec : wrap64 (c : Int) = c := by unfold wrap64; omega
  have ec2 : IntKind.i64.wrap (c : Int) = c := by rw [IntKind.wrap_i64]; omega
  clear hT hn hc
  go_enter Tryd.func4, Tryd.ntmps4
  go_upto_region 4 with (first | (go_at_call 8; go_must (refine ((HA _).out).mono ?_; rintro e w1 ⟨rfl, hb⟩; have B1 := Aside0.mk hb; clear hb)) | (go_at_call 13; go_must (refine ((NW _).out).mono ?_; rintro e w' ⟨rfl, rfl⟩)))
  have H0 := Aside0.mk (heap_new w1 w1.heap.size (Nat.le_refl _) 10000)
  have B2 := Aside0.mk (B1.out.alloc B1.out.size (.cells #[.slice none 0 0, .int .i64 10000] 72))
  have e1 : newLeft 10000 = 10000 := by decide
  rw [e1]
  have HPS := Aside0.mk (show w.heap.size ≤ w1.heap.size from B1.out.size)
  clear B1 e1 NW
  generalize w1.alloc (.cells #[.slice none 0 0, .int .i64 10000] 72) = w2 at *
  generalize w1.heap.size = p at *
  have HB2 := B2
  clear B2
  go_wp2
  go_loopg [6, 22] (n + 1) (fun kq v6 v22 w' => ∃ k : Nat, v22 = .int .i64 k ∧ Aside0 (k + kq = n + 1 ∧ k ≤ n) ∧ Aside0 (HeapAt w' p [] p ⟨[], 10000⟩ (.slice none 0 0) []) ∧ Aside0 (w'.ownsRow (p + 1) 33 4 v6 k (((numL k).map numV).flatMap Val.vs)) ∧ Aside0 (Below w.heap.size w w'))
  case atStart => exact ⟨0, rfl, ⟨by omega, by omega⟩, H0, ⟨own_nil _ _ _ _⟩, HB2⟩
  case round =>
    clear H0 HB2
    obtain ⟨k, rfl, HK, HH, HO, HB⟩ := hrel
    obtain ⟨A6, c6, rfl⟩ := own_slice HO.out
    by_cases c1 : k < n
    · have d1 : decide ((k : Int) < (n : Int)) = true := decide_eq_true (by omega)
      have HC1 := Aside0.mk c1
      have HE := Aside0.mk (show IntKind.i64.wrap ((k : Int) + 1) = ((k + 1 : Nat) : Int) by rw [IntKind.wrap_i64]; have := HN.out; omega)
      have HE2 := Aside0.mk (show wrap64 ((k : Int) + 1) = ((k + 1 : Nat) : Int) by have := HN.out; unfold wrap64; omega)
      have NU := fun W => Aside0.mk (num_calls (fl k) W)
      have hfl : floatOfInt .f64 (k : Int) = fl k := rfl
      obtain ⟨i0, hi0, hzz⟩ := Option.map_eq_some_iff.1 info33
      simp only [Prod.mk.injEq] at hzz
      obtain ⟨hz0, hz1, hz2⟩ := hzz
      have HI0 := Aside0.mk hi0
      have HZ0 := Aside0.mk hz0
      have HZ1 := Aside0.mk hz1
      have HZ2 := Aside0.mk hz2
      have HLN := Aside0.mk (show ((numL k).map numV).length = k by rw [List.length_map, numL_len])
      cases gk with
      | zero => exact absurd HK.out (by omega)
      | succ k1 =>
        clear hi0 hz0 hz1 hz2
        go_upto_region 11 with (first | (go_at_call 14; go_must (refine ((NU _).out).mono ?_; rintro e w5 ⟨rfl, hb⟩; have HB5 := Aside0.mk (below_step HB.out hb); have HH5 := Aside0.mk (HH.out.below hb); have HO5 := Aside0.mk (own_move HO.out (fun q hq => hb.block q (own_lt HO.out q hq))); clear hb HB HH HO)) | (at_builtin; go_must (refine wpList_append_own_at (w := w5.alloc (.cells #[.int .i64 3, .float .f64 (fl k), .string ⟨#[]⟩, .int .i64 0] 33)) rfl _ _ 30 rfl (p + 1) 33 i0 _ 4 40 Tryd.underlying30 HI0.out HZ0.out HZ1.out HZ2.out (by decide) (by decide) _ k _ rfl (own_alloc HO5.out _) ⟨w5.heap.size, 0, none⟩ 1 1 (numV (fl k)).vs rfl rfl (fun j u hj => num_box w5 (fl k) j u hj) (fun u hu => vs_one [numV (fl k)] u (by simpa using hu)) (by have := HN.out; simp only [maxLen]; omega) (by have := HN.out; omega) (by rw [World.size_alloc]; have := HH5.out.top_lt; omega) ?_; intro v1 w6 hown hg _ _; rw [← numL_flat] at hown; have HO6 := Aside0.mk hown; have HG6 := Aside0.mk hg; clear hown hg)))
        have HH6 := Aside0.mk ((HH5.out.alloc _).fresh HG6.out (fun q hq => by have := own_base HO5.out q hq; omega))
        have HB6 := Aside0.mk ((HB5.out.alloc HB5.out.size _).grown HG6.out (by rw [World.size_alloc]; exact Nat.le_trans HB5.out.size (Nat.le_succ _)) (fun q hq => by have := own_base HO5.out q hq; have := HPS.out; omega))
        go_wp2
        go_roundg k1
        case measure => have := HK.out; omega
        case rel => exact ⟨k + 1, by first | rw [HE.out] | rw [HE2.out], ⟨by have := HK.out; omega, by have := HC1.out; omega⟩, HH6, HO6, HB6⟩
    · have d1 : decide (k < n) = false := decide_eq_false c1
      have HKN := Aside0.mk (show k = n by have := HK.out; omega)
      obtain rfl := HKN.out
      have OK0 : Aside0 (HeapOk wr p [] p a0) := ⟨_, _, HH.out⟩
      have F1 := Aside0.mk (show Fine (a1 k) from afine _ _ (by have := HN.out; omega) (by omega) (by rw [List.length_map, numL_len]; have := HN.out; omega))
      have F2 := Aside0.mk (show Fine (a2 k) from afine _ _ (by have := HN.out; omega) (by omega) (by rw [its1_len]; have := HN.out; omega))
      have F3 := Aside0.mk (show Fine (a3 k c) from afine _ _ (by have := HN.out; have := HC.out; omega) (by have := HN.out; have := HC.out; omega) (by rw [fitI_len]; have := HC.out; omega))
      have CA := array_num OK0.out ⟨by decide, by decide, by decide⟩ (p + 1) (.slice A6 k c6) (numL k) k (by rw [List.length_map, numL_len]) HO.out (by have := HN.out; omega)
      rw [ae0 k HN.out] at CA
      have CA := Aside0.mk CA
      have s1 : wrap64 ((k : Int) + 1) = ((k + 1 : Nat) : Int) := by have := HN.out; unfold wrap64; omega
      have s2 : wrap64 ((k : Int) + 2) = ((k + 2 : Nat) : Int) := by have := HN.out; unfold wrap64; omega
      have s3 : wrap64 ((k : Int) + 3) = ((k + 3 : Nat) : Int) := by have := HN.out; unfold wrap64; omega
      go_upto_region 13 with (go_at_call 15; go_must (refine (CA.out).mono ?_; rintro e w7 ⟨rfl, hb, ok⟩; have OK1 := Aside0.mk ok; have B7 := Aside0.mk (HB.out.trans (hb.mono HPS.out)); clear ok hb CA OK0 HB HH HO))
      have S1 := Aside0.mk s1
      have S3 := Aside0.mk s3
      clear s1 s3
      go_upto_region 15 with (first | (go_at_call 11; go_must (refine (key10_calls (k + 2) (by have := HN.out; omega) _ (Tabs_below HT.out B7.out)).mono ?_; rintro e w8 ⟨rfl, hb⟩; have OK8 := Aside0.mk (OK1.out.below hb); have B8 := Aside0.mk (below_step B7.out hb); clear hb OK1 B7)) | (go_at_call 14; go_must (refine (num_calls mOne _).mono ?_; rintro e w9 ⟨rfl, hb⟩; have OK9 := Aside0.mk (OK8.out.below hb); have B9 := Aside0.mk (below_step B8.out hb); clear hb OK8 B8)) | (go_at_call 16; go_must (refine (put_calls OK9.out F1.out 0 (key10 (k + 2)) (numV mOne) (key10_size _ (by have := HN.out; omega)) (show (0 : Nat) ≤ 140737488351232 by decide)).mono ?_; rw [ae1 k HN.out]; rintro e w10 ⟨rfl, hb, ok⟩; have OK10 := Aside0.mk ok; have B10 := Aside0.mk (B9.out.trans (hb.mono HPS.out)); clear ok hb B9 OK9)))
      go_upto_region 16 with (go_at_call 17; go_must (refine (items_ok OK10.out F2.out 0 (aObj (its1 k)) rfl rfl (its1 k) rfl).mono ?_; rw [show ItemsPost = ItemsPost from rfl]; rintro e w11 ⟨v1, rfl, hown, hb⟩; rw [its1_len] at hown; obtain ⟨A7, c7, rfl⟩ := own_slice hown; have OK11 := Aside0.mk (OK10.out.below hb); have B11 := Aside0.mk (below_step B10.out hb); have HI11 := Aside0.mk hown; clear hb B10 OK10 hown))
      obtain ⟨g, cc, e0, hg, y0, y1, y2, y3, yf⟩ := items_at (its := its1 k) (n := k + 1) (v := Val.zero) (by rw [its1_len]; exact HI11.out) (its1_one k)
      obtain ⟨g', cc', e0', hg', z0, z1, z2, z3, zf⟩ := items_at (its := its1 k) (n := k + 2) (v := numV mOne) (by rw [its1_len]; exact HI11.out) (its1_two k)
      injection e0 with e1 e2 e3
      subst e1
      injection e0' with e1' e2' e3'
      injection e1' with e1'
      injection e1' with e1'
      subst e1'
      have t1 : ((k : Int) + 1).toNat = k + 1 := by omega
      have t2 : ((k : Int) + 2).toNat = k + 2 := by omega
      have q0 : (0 : Int) ≤ (k : Int) + 1 := by omega
      have q2 : (0 : Int) ≤ (k : Int) + 2 := by omega
      have s1 := S1.out
      have s3 := S3.out
      have m1 := m1fact
      clear e2 e3 hg y2 y3 yf e2' e3' hg' z2 z3 zf
      go_upto_region 18 with (go_at_call 18; go_must (refine (keys_calls OK11.out F2.out (Tabs_below HT.out B11.out) 0 (aObj (its1 k)) rfl _ (keys1 k)).mono ?_; rintro e w12 ⟨v2, rfl, hown, hb⟩; rw [keyL_len] at hown; obtain ⟨A8, c8, rfl⟩ := own_slice hown; have OK12 := Aside0.mk (OK11.out.below hb); have B12 := Aside0.mk (below_step B11.out hb); clear hb B11 OK11 hown))
      clear y0 y1 z0 z1 t1 t2 q0 q2 s1 s2 s3 m1
      have hflc : floatOfInt .f64 (c : Int) = fl c := rfl
      have CL := fun W => Aside0.mk (pennantref01_Of.calls 20 ⟨#[108, 101, 110, 103, 116, 104]⟩ lengthKey W eL)
      go_upto_region 20 with (first | (go_at_call 19; go_must (refine ((CL _).out).mono ?_; rintro e w13 ⟨rfl, hb⟩; have OK13 := Aside0.mk (OK12.out.below hb); have B13 := Aside0.mk (below_step B12.out hb); clear hb B12 OK12)) | (go_at_call 14; go_must (refine (num_calls (fl c) _).mono ?_; rintro e w14 ⟨rfl, hb⟩; have OK14 := Aside0.mk (OK13.out.below hb); have B14 := Aside0.mk (below_step B13.out hb); clear hb OK13 B13)) | (go_at_call 16; go_must (refine (put_calls OK14.out F2.out 0 lengthKey (numV (fl c)) (by decide) (show (0 : Nat) ≤ 140737488351232 by decide)).mono ?_; rw [ae2 k c HN.out HC.out]; rintro e w15 ⟨rfl, hb, ok⟩; have OK15 := Aside0.mk ok; have B15 := Aside0.mk (B14.out.trans (hb.mono HPS.out)); clear ok hb B14 OK14)))
      go_wp2_with (go_at_call 17; go_must (refine (items_ok OK15.out F3.out 0 (aObj (fitI (its1 k) c)) rfl rfl (fitI (its1 k) c) rfl).mono ?_; rintro e w16 ⟨v1, rfl, hown, hb⟩; rw [fitI_len] at hown; obtain ⟨A9, c9, rfl⟩ := own_slice hown; have OK16 := Aside0.mk (OK15.out.below hb); have B16 := Aside0.mk (below_step B15.out hb); have HI16 := Aside0.mk hown; clear hb B15 OK15 hown))
      go_loopg [113] (c + 1) (fun kq v113 w' => ∃ q : Nat, v113 = .int .i64 q ∧ Aside0 (q + kq = c + 1 ∧ q ≤ c) ∧ Aside0 (w' = w16))
      case atStart => exact ⟨0, rfl, ⟨by omega, by omega⟩, ⟨rfl⟩⟩
      case round =>
        obtain ⟨q, rfl, HQ, HW⟩ := hrel
        obtain rfl := HW.out
        by_cases c2 : q < c
        · have d2 : decide ((q : Int) < (c : Int)) = true := decide_eq_true (by omega)
          have HC2 := Aside0.mk c2
          have HE := Aside0.mk (show IntKind.i64.wrap ((q : Int) + 1) = ((q + 1 : Nat) : Int) by rw [IntKind.wrap_i64]; have := HC.out; omega)
          have HE2 := Aside0.mk (show wrap64 ((q : Int) + 1) = ((q + 1 : Nat) : Int) by have := HC.out; unfold wrap64; omega)
          cases gk with
          | zero => exact absurd HQ.out (by omega)
          | succ k1 =>
            by_cases c3 : q < k
            · have d3 : decide ((q : Int) < (k : Int)) = true := decide_eq_true (by omega)
              obtain ⟨g, cc, e0, hg, y0, y1, y2, y3, yf⟩ := items_at (its := fitI (its1 k) c) (n := q) (v := numV (fl q)) (by rw [fitI_len]; exact HI16.out) (its_num k c q c3 c2)
              injection e0 with e1 e2 e3
              subst e1
              have hflq : floatOfInt .f64 (q : Int) = fl q := rfl
              have g1 := feq_t (fl_ok q (by have := HN.out; omega)).1
              clear e2 e3 hg y0 y2 y3 yf
              go_upto_region 26 with (fail)
              clear y1 g1 hflq c3 d3
              go_wp2
              go_roundg k1
              case measure => have := HQ.out; omega
              case rel => exact ⟨q + 1, by first | rw [HE.out] | rw [HE2.out], ⟨by have := HQ.out; omega, by have := HC2.out; omega⟩, ⟨rfl⟩⟩
            · have d3 : decide (q < k) = false := decide_eq_false c3
              go_wp2
              go_roundg k1
              case measure => have := HQ.out; omega
              case rel => exact ⟨q + 1, by first | rw [HE.out] | rw [HE2.out], ⟨by have := HQ.out; omega, by have := HC2.out; omega⟩, ⟨rfl⟩⟩
        · have d2 : decide (q < c) = false := decide_eq_false c2
          go_wp2_with (first | (go_at_call 11; go_must (refine (key10_calls c (by have := HC.out; omega) _ (Tabs_below HT.out B16.out)).mono ?_; rintro e w17 ⟨rfl, hb⟩; have OK17 := Aside0.mk (OK16.out.below hb); have B17 := Aside0.mk (below_step B16.out hb); clear hb B16 OK16)) | (go_at_call 20; go_must (refine (own_calls OK17.out F3.out.fit 0 (key10 c) (key10_size _ (by have := HC.out; omega)) F3.out.items).mono ?_; rw [ae3 k c HN.out HC.out]; rintro e w18 ⟨rfl, hb⟩; have B18 := Aside0.mk (below_step B17.out hb); clear hb B17 OK17)))
          go_ret
          exact ⟨rfl, by repeat (with_reducible first | exact B18.out | apply below_alloc | apply pw_below_drewN | apply below_drew1)⟩
end Go.Proofs.YtnfobcedbfbbiaaDoor.Hp
