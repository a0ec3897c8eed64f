/- HeapCells: the walk. -/
import Derived.Test.YtnfobcedbfbbiaaDoorHpT
namespace Go.Proofs.YtnfobcedbfbbiaaDoor.Hp
open Go.RowKit Go.Proofs.YtnfobcedbfbbiaaDoorW.PrintWords Go.Proofs.YtnfobcedbfbbiaaDoorW.PrintLast Go.Proofs.YtnfobcedbfbbiaaDoorW.PrintMore Go.Proofs.YtnfobcedbfbbiaaDoor.Hand Go.Proofs.YtnfobcedbfbbiaaDoor.PIx Go.Proofs.YtnfobcedbfbbiaaDoor.Pure
set_option linter.unusedVariables false
set_option linter.unusedSimpArgs false
attribute [local go_sem] max2_int min2_int max_two min_two max_three min_three max_four min_four
theorem keysS_len (o : OSt) : (keysS o).length = o.items.length + o.keys.length := by unfold keysS; rw [List.length_append, keyL_len]
def keySum : List OSt → Nat
  | [] => 0
  | o :: t => (keysS o).length + keySum t
theorem keySum_append (a b : List OSt) : keySum (a ++ b) = keySum a + keySum b := by
  induction a with
  | nil => simp [keySum]
  | cons o t ih => simp only [List.cons_append, keySum, ih]; omega
theorem takenL_keys : ∀ l : List OSt, takenL l = l.length + keySum l
  | [] => rfl
  | o :: t => by
    have := takenL_keys t
    simp only [takenL, wt, keySum, List.length_cons, keysS_len]
    omega
theorem keySum_take (l : List OSt) (q : Nat) (o : OSt) (h : l[q]? = some o) : keySum (l.take (q + 1)) = keySum (l.take q) + (keysS o).length := by
  rw [List.take_add_one, h, keySum_append]
  simp [keySum]
theorem keySum_le (l : List OSt) (q : Nat) : keySum (l.take q) ≤ keySum l := by
  have h := keySum_append (l.take q) (l.drop q)
  rw [List.take_append_drop] at h
  omega
theorem longS_false {cs : List CallV} (h : longS cs = false) : cs.length ≤ 60 ∧ ∀ c ∈ cs, c.key.size ≤ 200 ∧ c.its.length ≤ 60 ∧ c.v.text.size ≤ 200 := by
  unfold longS at h
  rw [Bool.or_eq_false_iff] at h
  refine ⟨by have := of_decide_eq_false h.1; omega, fun c hc => ?_⟩
  have := List.any_eq_false.1 h.2 c hc
  unfold longC at this
  simp at this
  omega
theorem inv_new (a0 : Int) : Inv (newLeft a0) ⟨[], newLeft a0⟩ :=
  ⟨by unfold newLeft; omega, by show 0 ≤ newLeft a0; unfold newLeft; omega, by simp [takenL], fun i o h => by simp at h, fun o h => by cases h⟩
set_option maxRecDepth 100000 in
set_option maxHeartbeats 8000000 in
theorem cells_walk (a0 : Int) (v : Value) (cs : List CallV) (w : World) (hT : Tabs w) (hv : Script w v cs) : Calls Tryd.prog 7 #[.int .i64 a0, v] w fun e w' => e = .returned (.bool true) ∧ Below w.heap.size w w' := by
  obtain ⟨A, cp, hvv⟩ := hv.1
  subst hvv
  have HA := fun w => Aside0.mk (awake_true w)
  have HT := Aside0.mk hT
  have HV := Aside0.mk hv
  have NW := fun w => Aside0.mk (new_calls a0 w)
  have HLG := fun (w1 : World) (hb : Below w.heap.size w w1) => long_calls (hv.below hb)
  cases hl : longS cs with
  | true =>
    simp only [hl] at HLG
    replace HLG := Aside0.mk HLG
    clear hl hv hT
    go_enter Tryd.func7, Tryd.ntmps7
    go_wp2_with (first | (go_at_call 8; go_must (refine ((HA _).out).mono ?_; rintro e w1 ⟨rfl, hb⟩; have B1 := Aside0.mk hb; clear hb)) | (go_at_call 25; go_must (refine (HLG.out _ B1.out).mono ?_; rintro e w2 ⟨rfl, hb⟩; have B2 := Aside0.mk (below_step B1.out hb); clear hb B1)))
    go_ret
    exact ⟨rfl, B2.out⟩
  | false =>
    simp only [hl] at HLG
    replace HLG := Aside0.mk HLG
    have HS := Aside0.mk (longS_false hl)
    clear hl hv hT
    go_enter Tryd.func7, Tryd.ntmps7
    go_upto_region 8 with (first | (go_at_call 8; go_must (refine ((HA _).out).mono ?_; rintro e w1 ⟨rfl, hb⟩; have B1 := Aside0.mk hb; clear hb)) | (go_at_call 25; go_must (refine (HLG.out _ B1.out).mono ?_; rintro e w2 ⟨rfl, hb⟩; have B2 := Aside0.mk (below_step B1.out hb); clear hb B1)) | (go_at_call 13; go_must (refine ((NW _).out).mono ?_; rintro e w' ⟨rfl, rfl⟩)))
    have H0 := Aside0.mk (show HeapOk _ w.heap.size [] w2.heap.size ⟨[], newLeft a0⟩ from ⟨_, _, heap_new w2 w.heap.size B2.out.size (newLeft a0)⟩)
    have B3 := Aside0.mk (B2.out.alloc B2.out.size (.cells #[.slice none 0 0, .int .i64 (newLeft a0)] 72))
    generalize w2.alloc (.cells #[.slice none 0 0, .int .i64 (newLeft a0)] 72) = w3 at *
    generalize w2.heap.size = p at *
    clear B2 NW HLG HA
    go_cut [6] (fun v6 wc => v6 = .int .i64 (newLeft a0) ∧ Aside0 (wc = w3))
    case first =>
      go_wp2
      all_goals
        go_meet
        case rel => exact ⟨by first | rw [show newLeft a0 = 0 by unfold newLeft; omega] | rw [show newLeft a0 = 10000 by unfold newLeft; omega] | rw [show newLeft a0 = a0 by unfold newLeft; omega], ⟨rfl⟩⟩
    case rest =>
      obtain ⟨rfl, HW⟩ := hcut
      obtain rfl := HW.out
      clear HW
      have I0 := Aside0.mk (inv_new a0)
      generalize newLeft a0 = G at *
      go_wp2
      go_loopg [26] (cs.length + 1) (fun kq v26 w' => ∃ k : Nat, v26 = .int .i64 k ∧ Aside0 (k + kq = cs.length + 1 ∧ k ≤ cs.length) ∧ Aside0 (Below w.heap.size w w') ∧ Aside0 (∃ σ, HeapOk w' w.heap.size [] p σ ∧ Inv G σ))
      case atStart => exact ⟨0, rfl, ⟨by omega, by omega⟩, B3, ⟨_, H0.out, I0.out⟩⟩
      case round =>
        clear B3 H0 I0
        obtain ⟨k, rfl, HK, HB, HσE⟩ := hrel
        obtain ⟨σ, ok0, in0⟩ := HσE.out
        have OK := Aside0.mk ok0
        have IN := Aside0.mk in0
        clear HσE ok0 in0
        by_cases c1 : k < cs.length
        · have d1 : decide ((k : Int) < (cs.length : Int)) = true := decide_eq_true (by omega)
          have hx := List.getElem?_eq_getElem c1
          generalize cs[k] = x at *
          obtain ⟨hin, ab, ao, cc, e0, hat⟩ := (HV.out.below HB.out).2 k x hx
          obtain ⟨iA, ic, hiv⟩ := hin.vals.slice
          obtain ⟨xk, xi, xn, xkey, xv, xiv, xits⟩ := x
          simp only at hiv
          subst hiv
          obtain ⟨y0, y1, y2, y3, y4, y5, y6, y7, y8⟩ := hat
          simp only at y0 y1 y2 y3 y4 y5 y6 y7 y8
          have HSx := HS.out.2 _ (List.mem_of_getElem? hx)
          have HIN := Aside0.mk (hin.below ((Below.refl wr.heap.size wr).alloc (Nat.le_refl _) (.cells #[.int .u8 xk, .int .i64 xi, .int .i64 xn, .string xkey, .int .i64 xv.kind, .float .f64 xv.num, .string xv.text, .int .i64 xv.ref, .slice iA xits.length ic] 54)))
          have CX := Aside0.mk (show CallOk (wr.alloc (.cells #[.int .u8 xk, .int .i64 xi, .int .i64 xn, .string xkey, .int .i64 xv.kind, .float .f64 xv.num, .string xv.text, .int .i64 xv.ref, .slice iA xits.length ic] 54)) ⟨xk, xi, xn, xkey, xv, .slice iA xits.length ic, xits⟩ from ⟨HIN.out.kind, Nat.le_trans HSx.1 (by decide), Nat.le_trans HSx.2.2 (by decide), Nat.le_trans HSx.2.1 (by decide), HIN.out.vals⟩)
          injection e0 with e1 e2 e3
          subst e1
          have HC1 := Aside0.mk c1
          have OKq := Aside0.mk (OK.out.alloc (.cells #[.int .u8 xk, .int .i64 xi, .int .i64 xn, .string xkey, .int .i64 xv.kind, .float .f64 xv.num, .string xv.text, .int .i64 xv.ref, .slice iA xits.length ic] 54))
          have HBq := Aside0.mk (HB.out.alloc HB.out.size (.cells #[.int .u8 xk, .int .i64 xi, .int .i64 xn, .string xkey, .int .i64 xv.kind, .float .f64 xv.num, .string xv.text, .int .i64 xv.ref, .slice iA xits.length ic] 54))
          have HTq := Aside0.mk (fun (w' : World) (hb : Below w.heap.size (wr.alloc (.cells #[.int .u8 xk, .int .i64 xi, .int .i64 xn, .string xkey, .int .i64 xv.kind, .float .f64 xv.num, .string xv.text, .int .i64 xv.ref, .slice iA xits.length ic] 54)) w') => Tabs_below HT.out (HBq.out.trans hb))
          have CC := Aside0.mk (play_calls OKq.out IN.out HTq.out ⟨xk, xi, xn, xkey, xv, .slice iA xits.length ic, xits⟩ CX.out)
          clear hin hx e2 e3 HSx HIN HB OK
          cases gk with
          | zero => exact absurd HK.out (by omega)
          | succ k1 =>
            go_upto_region 15 with (first | (go_at_call 26; go_must (refine (CC.out).mono ?_; rintro e w4 ⟨⟨v4, rfl⟩, hb, σ', ok4, in4⟩; have OK4 := Aside0.mk ok4; have IN4 := Aside0.mk in4; have HB4 := Aside0.mk (HBq.out.trans hb); clear hb ok4 in4 CC OKq HBq HTq y0 y1 y2 y3 y4 y5 y6 y7 y8)) | (go_at_call 27; go_must (refine (size_calls OK4.out IN4.out.fine.fit).mono ?_; rintro e w5 ⟨rfl, n5, rfl⟩; have hb := pw_below_drewN (Below.refl w4.heap.size w4) n5; have OK5 := Aside0.mk (OK4.out.below hb); have HB5 := Aside0.mk (below_step HB4.out hb); clear hb OK4 HB4)))
            generalize w4.drewN n5 = w6 at *
            clear CX c1
            have hn : σ'.objs.length ≤ 10000 := by have := IN4.out.fine.fit.objs; have := takenL_len σ'.objs; have := IN4.out.sum; have := IN4.out.left; have := IN4.out.g1; omega
            have hks : takenL σ'.objs ≤ 10000 := by have := IN4.out.sum; have := IN4.out.left; have := IN4.out.g1; omega
            have HKS := Aside0.mk hks
            have HSUM := Aside0.mk (takenL_keys σ'.objs)
            have HLEFT := Aside0.mk IN4.out.left
            have HG := Aside0.mk IN4.out.sum
            have HN := Aside0.mk hn
            clear hn hks
            go_wp2
            go_loopg [11, 40] (σ'.objs.length + 1) (fun kq v11 v40 w' => ∃ q t : Nat, v40 = .int .i64 q ∧ v11 = .int .i64 t ∧ Aside0 (q + kq = σ'.objs.length + 1 ∧ q ≤ σ'.objs.length ∧ t = σ'.objs.length + keySum (σ'.objs.take q)) ∧ Aside0 (HeapOk w' w.heap.size [] p σ') ∧ Aside0 (Below w.heap.size w w'))
            case atStart => exact ⟨0, σ'.objs.length, rfl, rfl, ⟨by omega, by omega, by simp [keySum]⟩, OK5, HB5⟩
            case round =>
              clear OK5 HB5
              obtain ⟨q, t, rfl, rfl, HQ, OK7, HB7⟩ := hrel
              by_cases c2 : q < σ'.objs.length
              · have d2 : decide ((q : Int) < (σ'.objs.length : Int)) = true := decide_eq_true (by omega)
                have ho := List.getElem?_eq_getElem c2
                generalize σ'.objs[q] = o at *
                have HO := Aside0.mk ho
                have HC2 := Aside0.mk c2
                have hob : objS σ' (q : Int) = some o := by unfold objS; rw [if_pos (by omega)]; simpa using ho
                have HT7 := Tabs_below HT.out HB7.out
                have KC := Aside0.mk (keys_calls OK7.out IN4.out.fine HT7 q o hob _ rfl)
                have HKT := Aside0.mk (keySum_take σ'.objs q o ho)
                have HKL := Aside0.mk (keySum_le σ'.objs (q + 1))
                clear ho hob HT7
                cases gk with
                | zero => exact absurd HQ.out.1 (by omega)
                | succ k2 =>
                  go_wp2_with (go_at_call 18; go_must (refine (KC.out).mono ?_; rintro e w8 ⟨v8, rfl, hown, hb⟩; obtain ⟨A8, c8, rfl⟩ := own_slice hown; have OK8 := Aside0.mk (OK7.out.below hb); have HB8 := Aside0.mk (below_step HB7.out hb); clear hb hown KC OK7 HB7))
                  go_roundg k2
                  case measure => have := HQ.out; omega
                  case rel => exact ⟨q + 1, t + (keysS o).length, by first | rfl | rw [show wrap64 ((q : Int) + 1) = ((q + 1 : Nat) : Int) by have := HN.out; have := HC2.out; unfold wrap64; omega] | rw [IntKind.wrap_i64, show wrap64 ((q : Int) + 1) = ((q + 1 : Nat) : Int) by have := HN.out; have := HC2.out; unfold wrap64; omega], by rw [show wrap64 ((t : Int) + ((keysS o).length : Int)) = ((t + (keysS o).length : Nat) : Int) by have := HQ.out; have := HKT.out; have := HKL.out; have := HSUM.out; have := HKS.out; have := HN.out; unfold wrap64; omega], ⟨by have := HQ.out; omega, by have := HC2.out; omega, by have := HQ.out; have := HKT.out; omega⟩, OK8, HB8⟩
              · have d2 : decide (q < σ'.objs.length) = false := decide_eq_false c2
                have ht : t = takenL σ'.objs := by
                  have h1 := HQ.out
                  have h2 := HSUM.out
                  rw [List.take_of_length_le (by omega)] at h1
                  omega
                have e9 : wrap64 ((t : Int) + σ'.left) = G := by have := HG.out; have := HKS.out; have := HLEFT.out; have := IN4.out.g1; subst ht; unfold wrap64; omega
                have d9 : decide (σ'.left < 0) = false := decide_eq_false (by have := HLEFT.out; omega)
                clear ht
                go_wp2
                go_roundg k1
                case measure => have := HK.out; omega
                case rel => exact ⟨k + 1, by first | rfl | rw [show wrap64 ((k : Int) + 1) = ((k + 1 : Nat) : Int) by have := HS.out.1; have := HC1.out; unfold wrap64; omega], ⟨by have := HK.out; omega, by have := HC1.out; omega⟩, HB7, ⟨σ', OK7.out, IN4.out⟩⟩
        · have d1 : decide (k < cs.length) = false := decide_eq_false c1
          go_wp2
          go_ret
          exact ⟨rfl, HB.out⟩
theorem pennantlaw08_HeapCells.walk (a0 : Int) (v : Value) (cs : List CallV) (w : World) (hT : Tabs w) (hv : Script w v cs) : Calls Tryd.prog 7 #[.int .i64 a0, v] w fun e w' => e = .returned (.bool true) ∧ Below w.heap.size w w' := cells_walk a0 v cs w hT hv
end Go.Proofs.YtnfobcedbfbbiaaDoor.Hp
