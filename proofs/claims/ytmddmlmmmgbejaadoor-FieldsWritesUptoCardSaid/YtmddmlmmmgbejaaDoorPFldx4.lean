-- Written by a program of this session (a turned copy of the print): the machine's side.
import Derived.Test.YtmddmlmmmgbejaaDoorPFldx0
import Derived.Test.YtmddmlmmmgbejaaDoorPFldx3
namespace Go.Proofs.YtmddmlmmmgbejaaDoor.PFld
open Go.RowKit Go.Proofs.YtmddmlmmmgbejaaDoorW.PrintWords Go.Proofs.YtmddmlmmmgbejaaDoorW.PrintLast Go.Proofs.YtmddmlmmmgbejaaDoorW.PrintMore Go.Proofs.YtmddmlmmmgbejaaDoor.Hand
attribute [local go_sem] max2_int min2_int max_two min_two max_three min_three max_four min_four   -- for this text's walks alone
set_option linter.unusedVariables false
set_option linter.unusedSimpArgs false

/-! ### pennantref21_Said: function 20 -/
def pennantref21_Said.l0 : Nat → ByteArray → ByteArray → Int → Option (ByteArray × Bool)
  | 0, _, _, _ => none
  | k + 1, x0, x4, x5 => if x5 < (x0.size : Int) then (if 0 ≤ x5 then (if (bt x0 x5) = 43 then ((some (([32] : List Int) : List Int)).bind fun y142 => (if x4.size + (strOfNums y142).size ≤ 9223372036854775807 then (pennantref21_Said.l0 k x0 (x4 ++ (strOfNums y142)) (wrap64 (x5 + 1))) else (none))) else (if (bt x0 x5) = 37 then (if (wrap64 ((wrap64 (x5 + 1)) + 1)) ≥ (x0.size : Int) then (some ((⟨#[]⟩ : ByteArray), false)) else (if 0 ≤ (wrap64 (x5 + 1)) then (if (wrap64 (x5 + 1)) < (x0.size : Int) then ((pennantref04_Sixteen.f k (bt x0 (wrap64 (x5 + 1)))).bind fun t145 => (if 0 ≤ (wrap64 ((wrap64 (x5 + 1)) + 1)) then (if (wrap64 ((wrap64 (x5 + 1)) + 1)) < (x0.size : Int) then ((pennantref04_Sixteen.f k (bt x0 (wrap64 ((wrap64 (x5 + 1)) + 1)))).bind fun t146 => (if t145 < 0 then (some ((⟨#[]⟩ : ByteArray), false)) else (if t146 < 0 then (some ((⟨#[]⟩ : ByteArray), false)) else ((some (([(wrap64 ((wrap64 (t145 * 16)) + t146)) % 256] : List Int) : List Int)).bind fun y147 => (if x4.size + (strOfNums y147).size ≤ 9223372036854775807 then (pennantref21_Said.l0 k x0 (x4 ++ (strOfNums y147)) (wrap64 ((wrap64 (x5 + 1)) + 2))) else (none)))))) else (none)) else (none))) else (none)) else (none))) else ((some (([bt x0 x5] : List Int) : List Int)).bind fun y150 => (if x4.size + (strOfNums y150).size ≤ 9223372036854775807 then (pennantref21_Said.l0 k x0 (x4 ++ (strOfNums y150)) (wrap64 (x5 + 1))) else (none))))) else (none)) else (some (x4, true))
def pennantref21_Said.f (k : Nat) (a0 : ByteArray) : Option (ByteArray × Bool) := pennantref21_Said.l0 k a0 (⟨#[]⟩ : ByteArray) 0
theorem pennantref21_Said.mono_l : ∀ k, (∀ y0 y1 y2, LeO (pennantref21_Said.l0 k y0 y1 y2) (pennantref21_Said.l0 (k + 1) y0 y1 y2))
  | 0 => fun _ _ _ r h => by simp [pennantref21_Said.l0] at h
  | k + 1 => by
    have ih0 := pennantref21_Said.mono_l k
    · intro y0 y1 y2
      unfold pennantref21_Said.l0
      repeat' first
      | (with_reducible exact ih0 _ _ _)
      | (with_reducible exact pennantref04_Sixteen.mono _ _)
      | (with_reducible exact LeO.refl _)
      | (with_reducible exact LeO.none _)
      | (with_reducible refine LeO.ite ?_ ?_)
      | (with_reducible refine LeO.bind ?_ (fun _ => ?_))
      | exact ih0 _ _ _
      | exact pennantref04_Sixteen.mono _ _
      | exact LeO.none _
      | refine LeO.ite ?_ ?_
      | refine LeO.bind ?_ (fun _ => ?_)
theorem pennantref21_Said.mono : ∀ a0 k, LeO (pennantref21_Said.f k a0) (pennantref21_Said.f (k + 1) a0) := by
  intro a0 k
  have ih0 := pennantref21_Said.mono_l k
  unfold pennantref21_Said.f
  repeat' first
      | (with_reducible exact ih0 _ _ _)
      | (with_reducible exact pennantref04_Sixteen.mono _ _)
      | (with_reducible exact LeO.refl _)
      | (with_reducible exact LeO.none _)
      | (with_reducible refine LeO.ite ?_ ?_)
      | (with_reducible refine LeO.bind ?_ (fun _ => ?_))
      | exact ih0 _ _ _
      | exact pennantref04_Sixteen.mono _ _
      | exact LeO.none _
      | refine LeO.ite ?_ ?_
      | refine LeO.bind ?_ (fun _ => ?_)
set_option maxHeartbeats 8000000 in
set_option maxRecDepth 100000 in
theorem pennantref21_Said.calls (k : Nat) (a0 : ByteArray) (r1 : ByteArray) (r2 : Bool) (w : World) (h : pennantref21_Said.f k a0 = some (r1, r2)) :
    Calls Tryd.prog 20 #[.string a0] w fun e w' => e = .returned (.tuple #[.string r1, .bool r2]) ∧ Below w.heap.size w w' := by
  have HB := Aside0.mk (Below.refl w.heap.size w)
  have H : (pennantref21_Said.l0 k a0 (⟨#[]⟩ : ByteArray) 0) = some (r1, r2) := h
  clear h
  have H' := Aside0.mk H
  clear H
  go_enter Tryd.func20, Tryd.ntmps20
  go_wp2
  repeat (go_quiet (fail); try go_wp2)
  go_loopg [4, 5] k (fun kq v4 v5 w' => ∃ (x4_1 : ByteArray) (x5_1 : Int), v4 = .string x4_1 ∧ v5 = .int .i64 x5_1 ∧ Aside0 (pennantref21_Said.l0 kq a0 x4_1 x5_1 = some (r1, r2)) ∧ Aside0 (kq ≤ k) ∧ Aside0 (Below w.heap.size w w'))
  case atStart => exact ⟨((⟨#[]⟩ : ByteArray)), (0), (by first | rfl | (simp; done) | (simp [*]; done)), (by first | rfl | (simp; done) | (simp [*]; done)), H', ⟨Nat.le_refl _⟩, ⟨by repeat (first | (with_reducible first | exact HB.out | apply below_alloc | apply pw_below_drewN | apply below_drew1) | exact HB.out)⟩⟩
  case round =>
    clear H'
    obtain ⟨x4_1, x5_1, rfl, rfl, HA, HK1, HB⟩ := hrel
    cases gk with
    | zero => exact absurd HA.out (by simp [pennantref21_Said.l0])
    | succ k1 =>
      have H := HA.out
      clear HA
      simp only [pennantref21_Said.l0] at H
      by_cases c2 : x5_1 < (a0.size : Int)
      · rw [if_pos c2] at H
        have c2b0 : decide (x5_1 < (a0.size : Int)) = true := decide_eq_true c2
        clear c2
        by_cases c3 : 0 ≤ x5_1
        · rw [if_pos c3] at H
          have c3b0 : decide (0 ≤ x5_1) = true := decide_eq_true c3
          clear c3
          by_cases c5 : (bt a0 x5_1) = 43
          · rw [if_pos c5] at H
            have c5b0 : ((bt a0 x5_1) == 43) = true := beq_iff_eq.mpr c5
            have c5b1 : ((bt a0 x5_1) != 43) = false := bne_eq_false_iff_eq.mpr c5
            clear c5
            obtain ⟨y142, hy142⟩ : ∃ y_ : List Int, y_ = (([32] : List Int)) := ⟨_, rfl⟩
            replace H : (if x4_1.size + (strOfNums y142).size ≤ 9223372036854775807 then (pennantref21_Said.l0 k1 a0 (x4_1 ++ (strOfNums y142)) (wrap64 (x5_1 + 1))) else (none)) = some (r1, r2) := by first | (rw [hy142]; with_reducible exact H) | (have H2_ := (Option.bind_some _ _).symm.trans H; rw [hy142]; with_reducible exact H2_) | (have H2_ := (Option.bind_some _ _).symm.trans H; with_reducible exact H2_) | with_reducible exact H | (rw [hy142]; exact H) | exact H
            have Ny142 := Aside0.mk hy142
            clear hy142
            by_cases c6 : x4_1.size + (strOfNums y142).size ≤ 9223372036854775807
            · rw [if_pos c6] at H
              have c6b0 := eq_true c6
              have c6b1 : decide (x4_1.size + (strOfNums y142).size ≤ 9223372036854775807) = true := decide_eq_true c6
              try have c6b2 : (9223372036854775807 < x4_1.size + (strOfNums y142).size) = False := eq_false (Nat.not_lt.2 c6)
              have H' := Aside0.mk H
              clear H
              have p4 : 0 ≤ (x5_1 : Int) := of_decide_eq_true (by first | (with_reducible assumption) | assumption)
              have q4 : x5_1 < (a0.size : Int) := of_decide_eq_true (by first | (with_reducible assumption) | assumption)
              have hx4 := bt_at a0 x5_1
              replace p4 := eq_true p4
              replace q4 := eq_true q4
              go_wp2_with (first | ((with_reducible refine gate_dst (N := 51) rfl ?_); refine Kd.R_lit (Kd.int .u8) _ 5 ?hg (N := 51) ?hd (xs := ([32] : List Int)) (inner := [.int .u8 32]) (ok := fun _ => True) (okp := fun _ => True) ?hr ?hp (fun _ hk => hk) trivial (Below.refl _ _) (Nat.le_refl _) (by simp) ?_; (case hd => rfl); (case hg => rfl); (case hr => first | (go_simp; done) | (go_simp; rfl) | (simp only [or128_and63]; go_simp; done) | (simp only [or128_and63]; go_simp; rfl)); (case hp => exact (Reps.one (show Kd.M (Kd.int .u8) _ _ _ 32 [.int .u8 32] from rfl) (Reps.none _ _))); intro v143 w7 ho8 hb hg_ hnew_; clear hg_ hnew_; (first | rw [← Ny142.out] at ho8 | (simp only [Int.reduceToNat] at ho8; rw [← Ny142.out] at ho8)); have n0_ := Aside0.mk (Kd.R_lower ho8 (below_size (by repeat (first | (with_reducible first | exact HB.out | apply below_alloc | apply pw_below_drewN | apply below_drew1) | exact HB.out)))); have n1_ := Aside0.mk (below_step (by repeat (first | (with_reducible first | exact HB.out | apply below_alloc | apply pw_below_drewN | apply below_drew1) | exact HB.out)) hb); clear HB; have HO144 := n0_; have HB := n1_; clear n0_ n1_; clear hb ho8; have hcv9 := own_string (P := Tryd.prog) Tryd.underlying51 Tryd.underlying5 Tryd.underlying9 (Kd.own_of_R HO144.out); have hcw10 := fun (nq : Nat) => own_string (P := Tryd.prog) Tryd.underlying51 Tryd.underlying5 Tryd.underlying9 (Kd.own_of_R (Kd.R_drewN HO144.out nq))))
              repeat (go_quiet (first | ((with_reducible refine gate_dst (N := 51) rfl ?_); refine Kd.R_lit (Kd.int .u8) _ 5 ?hg (N := 51) ?hd (xs := ([32] : List Int)) (inner := [.int .u8 32]) (ok := fun _ => True) (okp := fun _ => True) ?hr ?hp (fun _ hk => hk) trivial (Below.refl _ _) (Nat.le_refl _) (by simp) ?_; (case hd => rfl); (case hg => rfl); (case hr => first | (go_simp; done) | (go_simp; rfl) | (simp only [or128_and63]; go_simp; done) | (simp only [or128_and63]; go_simp; rfl)); (case hp => exact (Reps.one (show Kd.M (Kd.int .u8) _ _ _ 32 [.int .u8 32] from rfl) (Reps.none _ _))); intro v143 w7 ho8 hb hg_ hnew_; clear hg_ hnew_; (first | rw [← Ny142.out] at ho8 | (simp only [Int.reduceToNat] at ho8; rw [← Ny142.out] at ho8)); have n0_ := Aside0.mk (Kd.R_lower ho8 (below_size (by repeat (first | (with_reducible first | exact HB.out | apply below_alloc | apply pw_below_drewN | apply below_drew1) | exact HB.out)))); have n1_ := Aside0.mk (below_step (by repeat (first | (with_reducible first | exact HB.out | apply below_alloc | apply pw_below_drewN | apply below_drew1) | exact HB.out)) hb); clear HB; have HO144 := n0_; have HB := n1_; clear n0_ n1_; clear hb ho8; have hcv9 := own_string (P := Tryd.prog) Tryd.underlying51 Tryd.underlying5 Tryd.underlying9 (Kd.own_of_R HO144.out); have hcw10 := fun (nq : Nat) => own_string (P := Tryd.prog) Tryd.underlying51 Tryd.underlying5 Tryd.underlying9 (Kd.own_of_R (Kd.R_drewN HO144.out nq)))); try go_wp2_with (first | ((with_reducible refine gate_dst (N := 51) rfl ?_); refine Kd.R_lit (Kd.int .u8) _ 5 ?hg (N := 51) ?hd (xs := ([32] : List Int)) (inner := [.int .u8 32]) (ok := fun _ => True) (okp := fun _ => True) ?hr ?hp (fun _ hk => hk) trivial (Below.refl _ _) (Nat.le_refl _) (by simp) ?_; (case hd => rfl); (case hg => rfl); (case hr => first | (go_simp; done) | (go_simp; rfl) | (simp only [or128_and63]; go_simp; done) | (simp only [or128_and63]; go_simp; rfl)); (case hp => exact (Reps.one (show Kd.M (Kd.int .u8) _ _ _ 32 [.int .u8 32] from rfl) (Reps.none _ _))); intro v143 w7 ho8 hb hg_ hnew_; clear hg_ hnew_; (first | rw [← Ny142.out] at ho8 | (simp only [Int.reduceToNat] at ho8; rw [← Ny142.out] at ho8)); have n0_ := Aside0.mk (Kd.R_lower ho8 (below_size (by repeat (first | (with_reducible first | exact HB.out | apply below_alloc | apply pw_below_drewN | apply below_drew1) | exact HB.out)))); have n1_ := Aside0.mk (below_step (by repeat (first | (with_reducible first | exact HB.out | apply below_alloc | apply pw_below_drewN | apply below_drew1) | exact HB.out)) hb); clear HB; have HO144 := n0_; have HB := n1_; clear n0_ n1_; clear hb ho8; have hcv9 := own_string (P := Tryd.prog) Tryd.underlying51 Tryd.underlying5 Tryd.underlying9 (Kd.own_of_R HO144.out); have hcw10 := fun (nq : Nat) => own_string (P := Tryd.prog) Tryd.underlying51 Tryd.underlying5 Tryd.underlying9 (Kd.own_of_R (Kd.R_drewN HO144.out nq)))))
              go_roundg k1
              case measure => have := HK1.out; omega
              case rel => exact ⟨(x4_1 ++ (strOfNums y142)), (wrap64 (x5_1 + 1)), (by first | rfl | (simp; done) | (simp [*]; done)), (by first | rfl | (simp; done) | (simp [*]; done)), H', ⟨by have := HK1.out; omega⟩, ⟨by repeat (first | (with_reducible first | exact HB.out | apply below_alloc | apply pw_below_drewN | apply below_drew1) | exact HB.out)⟩⟩
            · rw [if_neg c6] at H
              exact absurd H (by simp)
          · rw [if_neg c5] at H
            have c5b0 : ((bt a0 x5_1) == 43) = false := beq_eq_false_iff_ne.mpr c5
            have c5b1 : ((bt a0 x5_1) != 43) = true := bne_iff_ne.mpr c5
            by_cases c11 : (bt a0 x5_1) = 37
            · rw [if_pos c11] at H
              have c11b0 : ((bt a0 x5_1) == 37) = true := beq_iff_eq.mpr c11
              have c11b1 : ((bt a0 x5_1) != 37) = false := bne_eq_false_iff_eq.mpr c11
              clear c11
              by_cases c12 : (wrap64 ((wrap64 (x5_1 + 1)) + 1)) ≥ (a0.size : Int)
              · rw [if_pos c12] at H
                have c12b0 : decide ((a0.size : Int) ≤ (wrap64 ((wrap64 (x5_1 + 1)) + 1))) = true := decide_eq_true c12
                clear c12
                simp only [Option.some.injEq, Prod.mk.injEq] at H
                obtain ⟨rfl, rfl⟩ := H
                have p4 : 0 ≤ (x5_1 : Int) := of_decide_eq_true (by first | (with_reducible assumption) | assumption)
                have q4 : x5_1 < (a0.size : Int) := of_decide_eq_true (by first | (with_reducible assumption) | assumption)
                have hx4 := bt_at a0 x5_1
                replace p4 := eq_true p4
                replace q4 := eq_true q4
                go_wp2
                repeat (go_quiet (fail); try go_wp2)
                go_ret2
                exact ⟨by first | rfl | (simp [errW_none, errW_some] <;> rfl) | (simp [*, errW_none, errW_some] <;> rfl), by repeat (first | (with_reducible first | exact HB.out | apply below_alloc | apply pw_below_drewN | apply below_drew1) | exact HB.out)⟩
              · rw [if_neg c12] at H
                have c12b0 : decide ((a0.size : Int) ≤ (wrap64 ((wrap64 (x5_1 + 1)) + 1))) = false := decide_eq_false c12
                clear c12
                obtain ⟨ji13, hji13⟩ : ∃ j_ : Int, (wrap64 (x5_1 + 1)) = j_ := ⟨_, rfl⟩
                replace H : (if 0 ≤ (ji13) then (if (ji13) < (a0.size : Int) then ((pennantref04_Sixteen.f k1 (bt a0 (ji13))).bind fun t145 => (if 0 ≤ (wrap64 ((ji13) + 1)) then (if (wrap64 ((ji13) + 1)) < (a0.size : Int) then ((pennantref04_Sixteen.f k1 (bt a0 (wrap64 ((ji13) + 1)))).bind fun t146 => (if t145 < 0 then (some ((⟨#[]⟩ : ByteArray), false)) else (if t146 < 0 then (some ((⟨#[]⟩ : ByteArray), false)) else ((some (([(wrap64 ((wrap64 (t145 * 16)) + t146)) % 256] : List Int) : List Int)).bind fun y147 => (if x4_1.size + (strOfNums y147).size ≤ 9223372036854775807 then (pennantref21_Said.l0 k1 a0 (x4_1 ++ (strOfNums y147)) (wrap64 ((ji13) + 2))) else (none)))))) else (none)) else (none))) else (none)) else (none)) = some (r1, r2) := by first | (rw [hji13] at H; exact H) | (simp only [hji13] at H ⊢; exact H)
                (try rw [hji13] at c12b0)
                have hji13w : (IntKind.i64.wrap (x5_1 + 1)) = ji13 := (i64_w _).trans hji13
                by_cases c14 : 0 ≤ (ji13)
                · rw [if_pos c14] at H
                  have c14b0 : decide (0 ≤ (ji13)) = true := decide_eq_true c14
                  clear c14
                  by_cases c15 : (ji13) < (a0.size : Int)
                  · rw [if_pos c15] at H
                    have c15b0 : decide ((ji13) < (a0.size : Int)) = true := decide_eq_true c15
                    clear c15
                    replace H := Option.bind_eq_some_iff.mp H
                    obtain ⟨t145, A170, H⟩ := H
                    replace H : (if 0 ≤ (wrap64 ((ji13) + 1)) then (if (wrap64 ((ji13) + 1)) < (a0.size : Int) then ((pennantref04_Sixteen.f k1 (bt a0 (wrap64 ((ji13) + 1)))).bind fun t146 => (if t145 < 0 then (some ((⟨#[]⟩ : ByteArray), false)) else (if t146 < 0 then (some ((⟨#[]⟩ : ByteArray), false)) else ((some (([(wrap64 ((wrap64 (t145 * 16)) + t146)) % 256] : List Int) : List Int)).bind fun y147 => (if x4_1.size + (strOfNums y147).size ≤ 9223372036854775807 then (pennantref21_Said.l0 k1 a0 (x4_1 ++ (strOfNums y147)) (wrap64 ((ji13) + 2))) else (none)))))) else (none)) else (none)) = some (r1, r2) := H
                    have A17 := Aside0.mk A170
                    clear A170
                    obtain ⟨ji18, hji18⟩ : ∃ j_ : Int, (wrap64 ((ji13) + 1)) = j_ := ⟨_, rfl⟩
                    replace H : (if 0 ≤ (ji18) then (if (ji18) < (a0.size : Int) then ((pennantref04_Sixteen.f k1 (bt a0 (ji18))).bind fun t146 => (if t145 < 0 then (some ((⟨#[]⟩ : ByteArray), false)) else (if t146 < 0 then (some ((⟨#[]⟩ : ByteArray), false)) else ((some (([(wrap64 ((wrap64 (t145 * 16)) + t146)) % 256] : List Int) : List Int)).bind fun y147 => (if x4_1.size + (strOfNums y147).size ≤ 9223372036854775807 then (pennantref21_Said.l0 k1 a0 (x4_1 ++ (strOfNums y147)) (wrap64 ((ji13) + 2))) else (none)))))) else (none)) else (none)) = some (r1, r2) := by first | (rw [hji18] at H; exact H) | (simp only [hji18] at H ⊢; exact H)
                    (try rw [hji18] at A17)
                    (try rw [hji18] at c12b0)
                    have hji18w : (IntKind.i64.wrap ((ji13) + 1)) = ji18 := (i64_w _).trans hji18
                    by_cases c19 : 0 ≤ (ji18)
                    · rw [if_pos c19] at H
                      have c19b0 : decide (0 ≤ (ji18)) = true := decide_eq_true c19
                      clear c19
                      by_cases c20 : (ji18) < (a0.size : Int)
                      · rw [if_pos c20] at H
                        have c20b0 : decide ((ji18) < (a0.size : Int)) = true := decide_eq_true c20
                        clear c20
                        replace H := Option.bind_eq_some_iff.mp H
                        obtain ⟨t146, A220, H⟩ := H
                        replace H : (if t145 < 0 then (some ((⟨#[]⟩ : ByteArray), false)) else (if t146 < 0 then (some ((⟨#[]⟩ : ByteArray), false)) else ((some (([(wrap64 ((wrap64 (t145 * 16)) + t146)) % 256] : List Int) : List Int)).bind fun y147 => (if x4_1.size + (strOfNums y147).size ≤ 9223372036854775807 then (pennantref21_Said.l0 k1 a0 (x4_1 ++ (strOfNums y147)) (wrap64 ((ji13) + 2))) else (none))))) = some (r1, r2) := H
                        have A22 := Aside0.mk A220
                        clear A220
                        by_cases c23 : t145 < 0
                        · rw [if_pos c23] at H
                          have c23b0 : decide (t145 < 0) = true := decide_eq_true c23
                          clear c23
                          simp only [Option.some.injEq, Prod.mk.injEq] at H
                          obtain ⟨rfl, rfl⟩ := H
                          have p4 : 0 ≤ (x5_1 : Int) := of_decide_eq_true (by first | (with_reducible assumption) | assumption)
                          have q4 : x5_1 < (a0.size : Int) := of_decide_eq_true (by first | (with_reducible assumption) | assumption)
                          have hx4 := bt_at a0 x5_1
                          replace p4 := eq_true p4
                          replace q4 := eq_true q4
                          have p16 : 0 ≤ ((ji13) : Int) := of_decide_eq_true (by first | (with_reducible assumption) | assumption)
                          have q16 : (ji13) < (a0.size : Int) := of_decide_eq_true (by first | (with_reducible assumption) | assumption)
                          have hx16 := bt_at a0 (ji13)
                          replace p16 := eq_true p16
                          replace q16 := eq_true q16
                          go_wp2_with (first | (go_at_call 29; (with_reducible refine (pennantref04_Sixteen.calls k1 (bt a0 (ji13)) t145 _ A17.out).mono ?_); rintro e w' ⟨rfl, ⟨nd, rfl⟩⟩; (try first | exact ⟨rfl, _, World.drewN_drewN _ _ _⟩ | exact ⟨rfl, _, Eq.trans (World.drewN_drewN _ _ _) (congrArg (World.drewN _) (Nat.add_assoc _ _ _))⟩); have p21 : 0 ≤ ((ji18) : Int) := of_decide_eq_true (by first | (with_reducible assumption) | assumption); have q21 : (ji18) < (a0.size : Int) := of_decide_eq_true (by first | (with_reducible assumption) | assumption); have hx21 := bt_at a0 (ji18); replace p21 := eq_true p21; replace q21 := eq_true q21) | (go_at_call 29; (with_reducible refine (pennantref04_Sixteen.calls k1 (bt a0 (ji18)) t146 _ A22.out).mono ?_); rintro e w' ⟨rfl, ⟨nd, rfl⟩⟩; (try first | exact ⟨rfl, _, World.drewN_drewN _ _ _⟩ | exact ⟨rfl, _, Eq.trans (World.drewN_drewN _ _ _) (congrArg (World.drewN _) (Nat.add_assoc _ _ _))⟩)))
                          repeat (go_quiet (first | (go_at_call 29; (with_reducible refine (pennantref04_Sixteen.calls k1 (bt a0 (ji13)) t145 _ A17.out).mono ?_); rintro e w' ⟨rfl, ⟨nd, rfl⟩⟩; (try first | exact ⟨rfl, _, World.drewN_drewN _ _ _⟩ | exact ⟨rfl, _, Eq.trans (World.drewN_drewN _ _ _) (congrArg (World.drewN _) (Nat.add_assoc _ _ _))⟩); have p21 : 0 ≤ ((ji18) : Int) := of_decide_eq_true (by first | (with_reducible assumption) | assumption); have q21 : (ji18) < (a0.size : Int) := of_decide_eq_true (by first | (with_reducible assumption) | assumption); have hx21 := bt_at a0 (ji18); replace p21 := eq_true p21; replace q21 := eq_true q21) | (go_at_call 29; (with_reducible refine (pennantref04_Sixteen.calls k1 (bt a0 (ji18)) t146 _ A22.out).mono ?_); rintro e w' ⟨rfl, ⟨nd, rfl⟩⟩; (try first | exact ⟨rfl, _, World.drewN_drewN _ _ _⟩ | exact ⟨rfl, _, Eq.trans (World.drewN_drewN _ _ _) (congrArg (World.drewN _) (Nat.add_assoc _ _ _))⟩))); try go_wp2_with (first | (go_at_call 29; (with_reducible refine (pennantref04_Sixteen.calls k1 (bt a0 (ji13)) t145 _ A17.out).mono ?_); rintro e w' ⟨rfl, ⟨nd, rfl⟩⟩; (try first | exact ⟨rfl, _, World.drewN_drewN _ _ _⟩ | exact ⟨rfl, _, Eq.trans (World.drewN_drewN _ _ _) (congrArg (World.drewN _) (Nat.add_assoc _ _ _))⟩); have p21 : 0 ≤ ((ji18) : Int) := of_decide_eq_true (by first | (with_reducible assumption) | assumption); have q21 : (ji18) < (a0.size : Int) := of_decide_eq_true (by first | (with_reducible assumption) | assumption); have hx21 := bt_at a0 (ji18); replace p21 := eq_true p21; replace q21 := eq_true q21) | (go_at_call 29; (with_reducible refine (pennantref04_Sixteen.calls k1 (bt a0 (ji18)) t146 _ A22.out).mono ?_); rintro e w' ⟨rfl, ⟨nd, rfl⟩⟩; (try first | exact ⟨rfl, _, World.drewN_drewN _ _ _⟩ | exact ⟨rfl, _, Eq.trans (World.drewN_drewN _ _ _) (congrArg (World.drewN _) (Nat.add_assoc _ _ _))⟩))))
                          go_ret2
                          exact ⟨by first | rfl | (simp [errW_none, errW_some] <;> rfl) | (simp only [← hji13, ← hji18]; first | rfl | (simp [errW_none, errW_some] <;> rfl)) | (simp [*, errW_none, errW_some] <;> rfl), by repeat (first | (with_reducible first | exact HB.out | apply below_alloc | apply pw_below_drewN | apply below_drew1) | exact HB.out)⟩
                        · rw [if_neg c23] at H
                          have c23b0 : decide (t145 < 0) = false := decide_eq_false c23
                          clear c23
                          by_cases c24 : t146 < 0
                          · rw [if_pos c24] at H
                            have c24b0 : decide (t146 < 0) = true := decide_eq_true c24
                            clear c24
                            simp only [Option.some.injEq, Prod.mk.injEq] at H
                            obtain ⟨rfl, rfl⟩ := H
                            have p4 : 0 ≤ (x5_1 : Int) := of_decide_eq_true (by first | (with_reducible assumption) | assumption)
                            have q4 : x5_1 < (a0.size : Int) := of_decide_eq_true (by first | (with_reducible assumption) | assumption)
                            have hx4 := bt_at a0 x5_1
                            replace p4 := eq_true p4
                            replace q4 := eq_true q4
                            have p16 : 0 ≤ ((ji13) : Int) := of_decide_eq_true (by first | (with_reducible assumption) | assumption)
                            have q16 : (ji13) < (a0.size : Int) := of_decide_eq_true (by first | (with_reducible assumption) | assumption)
                            have hx16 := bt_at a0 (ji13)
                            replace p16 := eq_true p16
                            replace q16 := eq_true q16
                            go_wp2_with (first | (go_at_call 29; (with_reducible refine (pennantref04_Sixteen.calls k1 (bt a0 (ji13)) t145 _ A17.out).mono ?_); rintro e w' ⟨rfl, ⟨nd, rfl⟩⟩; (try first | exact ⟨rfl, _, World.drewN_drewN _ _ _⟩ | exact ⟨rfl, _, Eq.trans (World.drewN_drewN _ _ _) (congrArg (World.drewN _) (Nat.add_assoc _ _ _))⟩); have p21 : 0 ≤ ((ji18) : Int) := of_decide_eq_true (by first | (with_reducible assumption) | assumption); have q21 : (ji18) < (a0.size : Int) := of_decide_eq_true (by first | (with_reducible assumption) | assumption); have hx21 := bt_at a0 (ji18); replace p21 := eq_true p21; replace q21 := eq_true q21) | (go_at_call 29; (with_reducible refine (pennantref04_Sixteen.calls k1 (bt a0 (ji18)) t146 _ A22.out).mono ?_); rintro e w' ⟨rfl, ⟨nd, rfl⟩⟩; (try first | exact ⟨rfl, _, World.drewN_drewN _ _ _⟩ | exact ⟨rfl, _, Eq.trans (World.drewN_drewN _ _ _) (congrArg (World.drewN _) (Nat.add_assoc _ _ _))⟩)))
                            repeat (go_quiet (first | (go_at_call 29; (with_reducible refine (pennantref04_Sixteen.calls k1 (bt a0 (ji13)) t145 _ A17.out).mono ?_); rintro e w' ⟨rfl, ⟨nd, rfl⟩⟩; (try first | exact ⟨rfl, _, World.drewN_drewN _ _ _⟩ | exact ⟨rfl, _, Eq.trans (World.drewN_drewN _ _ _) (congrArg (World.drewN _) (Nat.add_assoc _ _ _))⟩); have p21 : 0 ≤ ((ji18) : Int) := of_decide_eq_true (by first | (with_reducible assumption) | assumption); have q21 : (ji18) < (a0.size : Int) := of_decide_eq_true (by first | (with_reducible assumption) | assumption); have hx21 := bt_at a0 (ji18); replace p21 := eq_true p21; replace q21 := eq_true q21) | (go_at_call 29; (with_reducible refine (pennantref04_Sixteen.calls k1 (bt a0 (ji18)) t146 _ A22.out).mono ?_); rintro e w' ⟨rfl, ⟨nd, rfl⟩⟩; (try first | exact ⟨rfl, _, World.drewN_drewN _ _ _⟩ | exact ⟨rfl, _, Eq.trans (World.drewN_drewN _ _ _) (congrArg (World.drewN _) (Nat.add_assoc _ _ _))⟩))); try go_wp2_with (first | (go_at_call 29; (with_reducible refine (pennantref04_Sixteen.calls k1 (bt a0 (ji13)) t145 _ A17.out).mono ?_); rintro e w' ⟨rfl, ⟨nd, rfl⟩⟩; (try first | exact ⟨rfl, _, World.drewN_drewN _ _ _⟩ | exact ⟨rfl, _, Eq.trans (World.drewN_drewN _ _ _) (congrArg (World.drewN _) (Nat.add_assoc _ _ _))⟩); have p21 : 0 ≤ ((ji18) : Int) := of_decide_eq_true (by first | (with_reducible assumption) | assumption); have q21 : (ji18) < (a0.size : Int) := of_decide_eq_true (by first | (with_reducible assumption) | assumption); have hx21 := bt_at a0 (ji18); replace p21 := eq_true p21; replace q21 := eq_true q21) | (go_at_call 29; (with_reducible refine (pennantref04_Sixteen.calls k1 (bt a0 (ji18)) t146 _ A22.out).mono ?_); rintro e w' ⟨rfl, ⟨nd, rfl⟩⟩; (try first | exact ⟨rfl, _, World.drewN_drewN _ _ _⟩ | exact ⟨rfl, _, Eq.trans (World.drewN_drewN _ _ _) (congrArg (World.drewN _) (Nat.add_assoc _ _ _))⟩))))
                            go_ret2
                            exact ⟨by first | rfl | (simp [errW_none, errW_some] <;> rfl) | (simp only [← hji13, ← hji18]; first | rfl | (simp [errW_none, errW_some] <;> rfl)) | (simp [*, errW_none, errW_some] <;> rfl), by repeat (first | (with_reducible first | exact HB.out | apply below_alloc | apply pw_below_drewN | apply below_drew1) | exact HB.out)⟩
                          · rw [if_neg c24] at H
                            have c24b0 : decide (t146 < 0) = false := decide_eq_false c24
                            clear c24
                            obtain ⟨y147, hy147⟩ : ∃ y_ : List Int, y_ = (([(wrap64 ((wrap64 (t145 * 16)) + t146)) % 256] : List Int)) := ⟨_, rfl⟩
                            replace H : (if x4_1.size + (strOfNums y147).size ≤ 9223372036854775807 then (pennantref21_Said.l0 k1 a0 (x4_1 ++ (strOfNums y147)) (wrap64 ((ji13) + 2))) else (none)) = some (r1, r2) := by first | (rw [hy147]; with_reducible exact H) | (have H2_ := (Option.bind_some _ _).symm.trans H; rw [hy147]; with_reducible exact H2_) | (have H2_ := (Option.bind_some _ _).symm.trans H; with_reducible exact H2_) | with_reducible exact H | (rw [hy147]; exact H) | exact H
                            have Ny147 := Aside0.mk hy147
                            clear hy147
                            by_cases c25 : x4_1.size + (strOfNums y147).size ≤ 9223372036854775807
                            · rw [if_pos c25] at H
                              have c25b0 := eq_true c25
                              have c25b1 : decide (x4_1.size + (strOfNums y147).size ≤ 9223372036854775807) = true := decide_eq_true c25
                              try have c25b2 : (9223372036854775807 < x4_1.size + (strOfNums y147).size) = False := eq_false (Nat.not_lt.2 c25)
                              have H' := Aside0.mk H
                              clear H
                              have p4 : 0 ≤ (x5_1 : Int) := of_decide_eq_true (by first | (with_reducible assumption) | assumption)
                              have q4 : x5_1 < (a0.size : Int) := of_decide_eq_true (by first | (with_reducible assumption) | assumption)
                              have hx4 := bt_at a0 x5_1
                              replace p4 := eq_true p4
                              replace q4 := eq_true q4
                              have p16 : 0 ≤ ((ji13) : Int) := of_decide_eq_true (by first | (with_reducible assumption) | assumption)
                              have q16 : (ji13) < (a0.size : Int) := of_decide_eq_true (by first | (with_reducible assumption) | assumption)
                              have hx16 := bt_at a0 (ji13)
                              replace p16 := eq_true p16
                              replace q16 := eq_true q16
                              go_wp2_with (first | (go_at_call 29; (with_reducible refine (pennantref04_Sixteen.calls k1 (bt a0 (ji13)) t145 _ A17.out).mono ?_); rintro e w' ⟨rfl, ⟨nd, rfl⟩⟩; (try first | exact ⟨rfl, _, World.drewN_drewN _ _ _⟩ | exact ⟨rfl, _, Eq.trans (World.drewN_drewN _ _ _) (congrArg (World.drewN _) (Nat.add_assoc _ _ _))⟩); have p21 : 0 ≤ ((ji18) : Int) := of_decide_eq_true (by first | (with_reducible assumption) | assumption); have q21 : (ji18) < (a0.size : Int) := of_decide_eq_true (by first | (with_reducible assumption) | assumption); have hx21 := bt_at a0 (ji18); replace p21 := eq_true p21; replace q21 := eq_true q21) | (go_at_call 29; (with_reducible refine (pennantref04_Sixteen.calls k1 (bt a0 (ji18)) t146 _ A22.out).mono ?_); rintro e w' ⟨rfl, ⟨nd, rfl⟩⟩; (try first | exact ⟨rfl, _, World.drewN_drewN _ _ _⟩ | exact ⟨rfl, _, Eq.trans (World.drewN_drewN _ _ _) (congrArg (World.drewN _) (Nat.add_assoc _ _ _))⟩)) | ((with_reducible refine gate_dst (N := 51) rfl ?_); refine Kd.R_lit (Kd.int .u8) _ 5 ?hg (N := 51) ?hd (xs := ([(wrap64 ((wrap64 (t145 * 16)) + t146)) % 256] : List Int)) (inner := [.int .u8 ((wrap64 ((wrap64 (t145 * 16)) + t146)) % 256)]) (ok := fun _ => True) (okp := fun _ => True) ?hr ?hp (fun _ hk => hk) trivial (Below.refl _ _) (Nat.le_refl _) (by simp) ?_; (case hd => rfl); (case hg => rfl); (case hr => first | (go_simp; done) | (go_simp; rfl) | (simp only [or128_and63]; go_simp; done) | (simp only [or128_and63]; go_simp; rfl)); (case hp => exact (Reps.one (show Kd.M (Kd.int .u8) _ _ _ ((wrap64 ((wrap64 (t145 * 16)) + t146)) % 256) [.int .u8 ((wrap64 ((wrap64 (t145 * 16)) + t146)) % 256)] from rfl) (Reps.none _ _))); intro v148 w26 ho27 hb hg_ hnew_; clear hg_ hnew_; (first | rw [← Ny147.out] at ho27 | (simp only [Int.reduceToNat] at ho27; rw [← Ny147.out] at ho27)); have n0_ := Aside0.mk (Kd.R_lower ho27 (below_size (by repeat (first | (with_reducible first | exact HB.out | apply below_alloc | apply pw_below_drewN | apply below_drew1) | exact HB.out)))); have n1_ := Aside0.mk (below_step (by repeat (first | (with_reducible first | exact HB.out | apply below_alloc | apply pw_below_drewN | apply below_drew1) | exact HB.out)) hb); clear HB; have HO149 := n0_; have HB := n1_; clear n0_ n1_; clear hb ho27; have hcv28 := own_string (P := Tryd.prog) Tryd.underlying51 Tryd.underlying5 Tryd.underlying9 (Kd.own_of_R HO149.out); have hcw29 := fun (nq : Nat) => own_string (P := Tryd.prog) Tryd.underlying51 Tryd.underlying5 Tryd.underlying9 (Kd.own_of_R (Kd.R_drewN HO149.out nq))))
                              repeat (go_quiet (first | (go_at_call 29; (with_reducible refine (pennantref04_Sixteen.calls k1 (bt a0 (ji13)) t145 _ A17.out).mono ?_); rintro e w' ⟨rfl, ⟨nd, rfl⟩⟩; (try first | exact ⟨rfl, _, World.drewN_drewN _ _ _⟩ | exact ⟨rfl, _, Eq.trans (World.drewN_drewN _ _ _) (congrArg (World.drewN _) (Nat.add_assoc _ _ _))⟩); have p21 : 0 ≤ ((ji18) : Int) := of_decide_eq_true (by first | (with_reducible assumption) | assumption); have q21 : (ji18) < (a0.size : Int) := of_decide_eq_true (by first | (with_reducible assumption) | assumption); have hx21 := bt_at a0 (ji18); replace p21 := eq_true p21; replace q21 := eq_true q21) | (go_at_call 29; (with_reducible refine (pennantref04_Sixteen.calls k1 (bt a0 (ji18)) t146 _ A22.out).mono ?_); rintro e w' ⟨rfl, ⟨nd, rfl⟩⟩; (try first | exact ⟨rfl, _, World.drewN_drewN _ _ _⟩ | exact ⟨rfl, _, Eq.trans (World.drewN_drewN _ _ _) (congrArg (World.drewN _) (Nat.add_assoc _ _ _))⟩)) | ((with_reducible refine gate_dst (N := 51) rfl ?_); refine Kd.R_lit (Kd.int .u8) _ 5 ?hg (N := 51) ?hd (xs := ([(wrap64 ((wrap64 (t145 * 16)) + t146)) % 256] : List Int)) (inner := [.int .u8 ((wrap64 ((wrap64 (t145 * 16)) + t146)) % 256)]) (ok := fun _ => True) (okp := fun _ => True) ?hr ?hp (fun _ hk => hk) trivial (Below.refl _ _) (Nat.le_refl _) (by simp) ?_; (case hd => rfl); (case hg => rfl); (case hr => first | (go_simp; done) | (go_simp; rfl) | (simp only [or128_and63]; go_simp; done) | (simp only [or128_and63]; go_simp; rfl)); (case hp => exact (Reps.one (show Kd.M (Kd.int .u8) _ _ _ ((wrap64 ((wrap64 (t145 * 16)) + t146)) % 256) [.int .u8 ((wrap64 ((wrap64 (t145 * 16)) + t146)) % 256)] from rfl) (Reps.none _ _))); intro v148 w26 ho27 hb hg_ hnew_; clear hg_ hnew_; (first | rw [← Ny147.out] at ho27 | (simp only [Int.reduceToNat] at ho27; rw [← Ny147.out] at ho27)); have n0_ := Aside0.mk (Kd.R_lower ho27 (below_size (by repeat (first | (with_reducible first | exact HB.out | apply below_alloc | apply pw_below_drewN | apply below_drew1) | exact HB.out)))); have n1_ := Aside0.mk (below_step (by repeat (first | (with_reducible first | exact HB.out | apply below_alloc | apply pw_below_drewN | apply below_drew1) | exact HB.out)) hb); clear HB; have HO149 := n0_; have HB := n1_; clear n0_ n1_; clear hb ho27; have hcv28 := own_string (P := Tryd.prog) Tryd.underlying51 Tryd.underlying5 Tryd.underlying9 (Kd.own_of_R HO149.out); have hcw29 := fun (nq : Nat) => own_string (P := Tryd.prog) Tryd.underlying51 Tryd.underlying5 Tryd.underlying9 (Kd.own_of_R (Kd.R_drewN HO149.out nq)))); try go_wp2_with (first | (go_at_call 29; (with_reducible refine (pennantref04_Sixteen.calls k1 (bt a0 (ji13)) t145 _ A17.out).mono ?_); rintro e w' ⟨rfl, ⟨nd, rfl⟩⟩; (try first | exact ⟨rfl, _, World.drewN_drewN _ _ _⟩ | exact ⟨rfl, _, Eq.trans (World.drewN_drewN _ _ _) (congrArg (World.drewN _) (Nat.add_assoc _ _ _))⟩); have p21 : 0 ≤ ((ji18) : Int) := of_decide_eq_true (by first | (with_reducible assumption) | assumption); have q21 : (ji18) < (a0.size : Int) := of_decide_eq_true (by first | (with_reducible assumption) | assumption); have hx21 := bt_at a0 (ji18); replace p21 := eq_true p21; replace q21 := eq_true q21) | (go_at_call 29; (with_reducible refine (pennantref04_Sixteen.calls k1 (bt a0 (ji18)) t146 _ A22.out).mono ?_); rintro e w' ⟨rfl, ⟨nd, rfl⟩⟩; (try first | exact ⟨rfl, _, World.drewN_drewN _ _ _⟩ | exact ⟨rfl, _, Eq.trans (World.drewN_drewN _ _ _) (congrArg (World.drewN _) (Nat.add_assoc _ _ _))⟩)) | ((with_reducible refine gate_dst (N := 51) rfl ?_); refine Kd.R_lit (Kd.int .u8) _ 5 ?hg (N := 51) ?hd (xs := ([(wrap64 ((wrap64 (t145 * 16)) + t146)) % 256] : List Int)) (inner := [.int .u8 ((wrap64 ((wrap64 (t145 * 16)) + t146)) % 256)]) (ok := fun _ => True) (okp := fun _ => True) ?hr ?hp (fun _ hk => hk) trivial (Below.refl _ _) (Nat.le_refl _) (by simp) ?_; (case hd => rfl); (case hg => rfl); (case hr => first | (go_simp; done) | (go_simp; rfl) | (simp only [or128_and63]; go_simp; done) | (simp only [or128_and63]; go_simp; rfl)); (case hp => exact (Reps.one (show Kd.M (Kd.int .u8) _ _ _ ((wrap64 ((wrap64 (t145 * 16)) + t146)) % 256) [.int .u8 ((wrap64 ((wrap64 (t145 * 16)) + t146)) % 256)] from rfl) (Reps.none _ _))); intro v148 w26 ho27 hb hg_ hnew_; clear hg_ hnew_; (first | rw [← Ny147.out] at ho27 | (simp only [Int.reduceToNat] at ho27; rw [← Ny147.out] at ho27)); have n0_ := Aside0.mk (Kd.R_lower ho27 (below_size (by repeat (first | (with_reducible first | exact HB.out | apply below_alloc | apply pw_below_drewN | apply below_drew1) | exact HB.out)))); have n1_ := Aside0.mk (below_step (by repeat (first | (with_reducible first | exact HB.out | apply below_alloc | apply pw_below_drewN | apply below_drew1) | exact HB.out)) hb); clear HB; have HO149 := n0_; have HB := n1_; clear n0_ n1_; clear hb ho27; have hcv28 := own_string (P := Tryd.prog) Tryd.underlying51 Tryd.underlying5 Tryd.underlying9 (Kd.own_of_R HO149.out); have hcw29 := fun (nq : Nat) => own_string (P := Tryd.prog) Tryd.underlying51 Tryd.underlying5 Tryd.underlying9 (Kd.own_of_R (Kd.R_drewN HO149.out nq)))))
                              go_roundg k1
                              case measure => have := HK1.out; omega
                              case rel => exact ⟨(x4_1 ++ (strOfNums y147)), (wrap64 ((ji13) + 2)), (by first | rfl | (simp; done) | (simp [*]; done)), (by first | rfl | (simp; done) | (simp only [← hji13] <;> (first | rfl | simp)) | (simp [*]; done)), H', ⟨by have := HK1.out; omega⟩, ⟨by repeat (first | (with_reducible first | exact HB.out | apply below_alloc | apply pw_below_drewN | apply below_drew1) | exact HB.out)⟩⟩
                            · rw [if_neg c25] at H
                              exact absurd H (by simp)
                      · rw [if_neg c20] at H
                        exact absurd H (by simp)
                    · rw [if_neg c19] at H
                      exact absurd H (by simp)
                  · rw [if_neg c15] at H
                    exact absurd H (by simp)
                · rw [if_neg c14] at H
                  exact absurd H (by simp)
            · rw [if_neg c11] at H
              have c11b0 : ((bt a0 x5_1) == 37) = false := beq_eq_false_iff_ne.mpr c11
              have c11b1 : ((bt a0 x5_1) != 37) = true := bne_iff_ne.mpr c11
              obtain ⟨y150, hy150⟩ : ∃ y_ : List Int, y_ = (([bt a0 x5_1] : List Int)) := ⟨_, rfl⟩
              replace H : (if x4_1.size + (strOfNums y150).size ≤ 9223372036854775807 then (pennantref21_Said.l0 k1 a0 (x4_1 ++ (strOfNums y150)) (wrap64 (x5_1 + 1))) else (none)) = some (r1, r2) := by first | (rw [hy150]; with_reducible exact H) | (have H2_ := (Option.bind_some _ _).symm.trans H; rw [hy150]; with_reducible exact H2_) | (have H2_ := (Option.bind_some _ _).symm.trans H; with_reducible exact H2_) | with_reducible exact H | (rw [hy150]; exact H) | exact H
              have Ny150 := Aside0.mk hy150
              clear hy150
              by_cases c30 : x4_1.size + (strOfNums y150).size ≤ 9223372036854775807
              · rw [if_pos c30] at H
                have c30b0 := eq_true c30
                have c30b1 : decide (x4_1.size + (strOfNums y150).size ≤ 9223372036854775807) = true := decide_eq_true c30
                try have c30b2 : (9223372036854775807 < x4_1.size + (strOfNums y150).size) = False := eq_false (Nat.not_lt.2 c30)
                have H' := Aside0.mk H
                clear H
                have p4 : 0 ≤ (x5_1 : Int) := of_decide_eq_true (by first | (with_reducible assumption) | assumption)
                have q4 : x5_1 < (a0.size : Int) := of_decide_eq_true (by first | (with_reducible assumption) | assumption)
                have hx4 := bt_at a0 x5_1
                replace p4 := eq_true p4
                replace q4 := eq_true q4
                go_wp2_with (first | ((with_reducible refine gate_dst (N := 51) rfl ?_); refine Kd.R_lit (Kd.int .u8) _ 5 ?hg (N := 51) ?hd (xs := ([bt a0 x5_1] : List Int)) (inner := [.int .u8 (bt a0 x5_1)]) (ok := fun _ => True) (okp := fun _ => True) ?hr ?hp (fun _ hk => hk) trivial (Below.refl _ _) (Nat.le_refl _) (by simp) ?_; (case hd => rfl); (case hg => rfl); (case hr => first | (go_simp; done) | (go_simp; rfl) | (simp only [or128_and63]; go_simp; done) | (simp only [or128_and63]; go_simp; rfl)); (case hp => exact (Reps.one (show Kd.M (Kd.int .u8) _ _ _ (bt a0 x5_1) [.int .u8 (bt a0 x5_1)] from rfl) (Reps.none _ _))); intro v151 w31 ho32 hb hg_ hnew_; clear hg_ hnew_; (first | rw [← Ny150.out] at ho32 | (simp only [Int.reduceToNat] at ho32; rw [← Ny150.out] at ho32)); have n0_ := Aside0.mk (Kd.R_lower ho32 (below_size (by repeat (first | (with_reducible first | exact HB.out | apply below_alloc | apply pw_below_drewN | apply below_drew1) | exact HB.out)))); have n1_ := Aside0.mk (below_step (by repeat (first | (with_reducible first | exact HB.out | apply below_alloc | apply pw_below_drewN | apply below_drew1) | exact HB.out)) hb); clear HB; have HO152 := n0_; have HB := n1_; clear n0_ n1_; clear hb ho32; have hcv33 := own_string (P := Tryd.prog) Tryd.underlying51 Tryd.underlying5 Tryd.underlying9 (Kd.own_of_R HO152.out); have hcw34 := fun (nq : Nat) => own_string (P := Tryd.prog) Tryd.underlying51 Tryd.underlying5 Tryd.underlying9 (Kd.own_of_R (Kd.R_drewN HO152.out nq))))
                repeat (go_quiet (first | ((with_reducible refine gate_dst (N := 51) rfl ?_); refine Kd.R_lit (Kd.int .u8) _ 5 ?hg (N := 51) ?hd (xs := ([bt a0 x5_1] : List Int)) (inner := [.int .u8 (bt a0 x5_1)]) (ok := fun _ => True) (okp := fun _ => True) ?hr ?hp (fun _ hk => hk) trivial (Below.refl _ _) (Nat.le_refl _) (by simp) ?_; (case hd => rfl); (case hg => rfl); (case hr => first | (go_simp; done) | (go_simp; rfl) | (simp only [or128_and63]; go_simp; done) | (simp only [or128_and63]; go_simp; rfl)); (case hp => exact (Reps.one (show Kd.M (Kd.int .u8) _ _ _ (bt a0 x5_1) [.int .u8 (bt a0 x5_1)] from rfl) (Reps.none _ _))); intro v151 w31 ho32 hb hg_ hnew_; clear hg_ hnew_; (first | rw [← Ny150.out] at ho32 | (simp only [Int.reduceToNat] at ho32; rw [← Ny150.out] at ho32)); have n0_ := Aside0.mk (Kd.R_lower ho32 (below_size (by repeat (first | (with_reducible first | exact HB.out | apply below_alloc | apply pw_below_drewN | apply below_drew1) | exact HB.out)))); have n1_ := Aside0.mk (below_step (by repeat (first | (with_reducible first | exact HB.out | apply below_alloc | apply pw_below_drewN | apply below_drew1) | exact HB.out)) hb); clear HB; have HO152 := n0_; have HB := n1_; clear n0_ n1_; clear hb ho32; have hcv33 := own_string (P := Tryd.prog) Tryd.underlying51 Tryd.underlying5 Tryd.underlying9 (Kd.own_of_R HO152.out); have hcw34 := fun (nq : Nat) => own_string (P := Tryd.prog) Tryd.underlying51 Tryd.underlying5 Tryd.underlying9 (Kd.own_of_R (Kd.R_drewN HO152.out nq)))); try go_wp2_with (first | ((with_reducible refine gate_dst (N := 51) rfl ?_); refine Kd.R_lit (Kd.int .u8) _ 5 ?hg (N := 51) ?hd (xs := ([bt a0 x5_1] : List Int)) (inner := [.int .u8 (bt a0 x5_1)]) (ok := fun _ => True) (okp := fun _ => True) ?hr ?hp (fun _ hk => hk) trivial (Below.refl _ _) (Nat.le_refl _) (by simp) ?_; (case hd => rfl); (case hg => rfl); (case hr => first | (go_simp; done) | (go_simp; rfl) | (simp only [or128_and63]; go_simp; done) | (simp only [or128_and63]; go_simp; rfl)); (case hp => exact (Reps.one (show Kd.M (Kd.int .u8) _ _ _ (bt a0 x5_1) [.int .u8 (bt a0 x5_1)] from rfl) (Reps.none _ _))); intro v151 w31 ho32 hb hg_ hnew_; clear hg_ hnew_; (first | rw [← Ny150.out] at ho32 | (simp only [Int.reduceToNat] at ho32; rw [← Ny150.out] at ho32)); have n0_ := Aside0.mk (Kd.R_lower ho32 (below_size (by repeat (first | (with_reducible first | exact HB.out | apply below_alloc | apply pw_below_drewN | apply below_drew1) | exact HB.out)))); have n1_ := Aside0.mk (below_step (by repeat (first | (with_reducible first | exact HB.out | apply below_alloc | apply pw_below_drewN | apply below_drew1) | exact HB.out)) hb); clear HB; have HO152 := n0_; have HB := n1_; clear n0_ n1_; clear hb ho32; have hcv33 := own_string (P := Tryd.prog) Tryd.underlying51 Tryd.underlying5 Tryd.underlying9 (Kd.own_of_R HO152.out); have hcw34 := fun (nq : Nat) => own_string (P := Tryd.prog) Tryd.underlying51 Tryd.underlying5 Tryd.underlying9 (Kd.own_of_R (Kd.R_drewN HO152.out nq)))))
                go_roundg k1
                case measure => have := HK1.out; omega
                case rel => exact ⟨(x4_1 ++ (strOfNums y150)), (wrap64 (x5_1 + 1)), (by first | rfl | (simp; done) | (simp [*]; done)), (by first | rfl | (simp; done) | (simp [*]; done)), H', ⟨by have := HK1.out; omega⟩, ⟨by repeat (first | (with_reducible first | exact HB.out | apply below_alloc | apply pw_below_drewN | apply below_drew1) | exact HB.out)⟩⟩
              · rw [if_neg c30] at H
                exact absurd H (by simp)
        · rw [if_neg c3] at H
          exact absurd H (by simp)
      · rw [if_neg c2] at H
        have c2b0 : decide (x5_1 < (a0.size : Int)) = false := decide_eq_false c2
        clear c2
        simp only [Option.some.injEq, Prod.mk.injEq] at H
        obtain ⟨rfl, rfl⟩ := H
        go_wp2
        repeat (go_quiet (fail); try go_wp2)
        go_ret2
        exact ⟨by first | rfl | (simp [errW_none, errW_some] <;> rfl) | (simp [*, errW_none, errW_some] <;> rfl), by repeat (first | (with_reducible first | exact HB.out | apply below_alloc | apply pw_below_drewN | apply below_drew1) | exact HB.out)⟩

/-! ### pennantref21_Parse: function 11 -/
mutual
def pennantref21_Parse.l0 : Nat → ByteArray → List (S34) → Int → Int → Option ((List (S34)) × Int)
  | 0, _, _, _, _ => none
  | k + 1, x0, x4, x5, x6 => if x6 ≤ (x0.size : Int) then (if x6 < (x0.size : Int) then (if 0 ≤ x6 then (pennantref21_Parse.j1 k x0 x4 x5 x6 ((bt x0 x6) != 38)) else (none)) else (pennantref21_Parse.j1 k x0 x4 x5 x6 false)) else (if (x4.length : Int) > 32 then (some (([] : List (S34)), 4)) else (some (x4, 0)))
def pennantref21_Parse.j1 : Nat → ByteArray → List (S34) → Int → Int → Bool → Option ((List (S34)) × Int)
  | 0, _, _, _, _, _ => none
  | k + 1, x0, x4, x5, x6, x31 => if x31 = true then (pennantref21_Parse.l0 k x0 x4 x5 (wrap64 (x6 + 1))) else (if 0 ≤ x5 then (if x5 ≤ x6 then (if x6 ≤ (x0.size : Int) then (if (x0.extract (x5 : Int).toNat (x6 : Int).toNat).toList = ([] : List UInt8) then (pennantref21_Parse.l0 k x0 x4 (wrap64 (x6 + 1)) (wrap64 (x6 + 1))) else (pennantref21_Parse.l1 k x0 x4 (wrap64 (x6 + 1)) x6 (x0.extract (x5 : Int).toNat (x6 : Int).toNat) 0)) else (none)) else (none)) else (none))
def pennantref21_Parse.j3 : Nat → ByteArray → List (S34) → Int → Int → ByteArray → Int → Option ((List (S34)) × Int)
  | 0, _, _, _, _, _, _ => none
  | k + 1, x0, x4, x5, x6, x7, x8 => if 0 ≤ x8 then (if x8 ≤ (x7.size : Int) then ((pennantref21_Said.f k (x7.extract 0 (x8 : Int).toNat)).bind fun bt153 => (if 0 ≤ (mn (wrap64 (x8 + 1)) (x7.size : Int)) then (if (mn (wrap64 (x8 + 1)) (x7.size : Int)) ≤ (x7.size : Int) then ((pennantref21_Said.f k (x7.extract ((mn (wrap64 (x8 + 1)) (x7.size : Int)) : Int).toNat x7.size)).bind fun bt155 => (if bt153.2 = true then (if bt155.2 = true then (if x4.length < 4398046511104 then (pennantref21_Parse.l0 k x0 (x4 ++ [(⟨bt153.1, bt155.1⟩ : S34)]) x5 (wrap64 (x6 + 1))) else (none)) else (some (([] : List (S34)), 210))) else (some (([] : List (S34)), 210)))) else (none)) else (none))) else (none)) else (none)
def pennantref21_Parse.l1 : Nat → ByteArray → List (S34) → Int → Int → ByteArray → Int → Option ((List (S34)) × Int)
  | 0, _, _, _, _, _, _ => none
  | k + 1, x0, x4, x5, x6, x7, x8 => if x8 < (x7.size : Int) then (if 0 ≤ x8 then (if (bt x7 x8) = 61 then (pennantref21_Parse.j3 k x0 x4 x5 x6 x7 x8) else (pennantref21_Parse.l1 k x0 x4 x5 x6 x7 (wrap64 (x8 + 1)))) else (none)) else (pennantref21_Parse.j3 k x0 x4 x5 x6 x7 x8)
end
def pennantref21_Parse.f (k : Nat) (a0 : ByteArray) : Option ((List (S34)) × Int) := if (a0.size : Int) > 4096 then (some (([] : List (S34)), 2)) else (pennantref21_Parse.l0 k a0 ([] : List (S34)) 0 0)
theorem pennantref21_Parse.mono_l : ∀ k, (∀ y0 y1 y2 y3, LeO (pennantref21_Parse.l0 k y0 y1 y2 y3) (pennantref21_Parse.l0 (k + 1) y0 y1 y2 y3)) ∧ (∀ y0 y1 y2 y3 y4, LeO (pennantref21_Parse.j1 k y0 y1 y2 y3 y4) (pennantref21_Parse.j1 (k + 1) y0 y1 y2 y3 y4)) ∧ (∀ y0 y1 y2 y3 y4 y5, LeO (pennantref21_Parse.j3 k y0 y1 y2 y3 y4 y5) (pennantref21_Parse.j3 (k + 1) y0 y1 y2 y3 y4 y5)) ∧ (∀ y0 y1 y2 y3 y4 y5, LeO (pennantref21_Parse.l1 k y0 y1 y2 y3 y4 y5) (pennantref21_Parse.l1 (k + 1) y0 y1 y2 y3 y4 y5))
  | 0 => ⟨fun _ _ _ _ r h => by simp [pennantref21_Parse.l0] at h, fun _ _ _ _ _ r h => by simp [pennantref21_Parse.j1] at h, fun _ _ _ _ _ _ r h => by simp [pennantref21_Parse.j3] at h, fun _ _ _ _ _ _ r h => by simp [pennantref21_Parse.l1] at h⟩
  | k + 1 => by
    obtain ⟨ih0, ih1, ih2, ih3⟩ := pennantref21_Parse.mono_l k
    refine ⟨?_, ?_, ?_, ?_⟩
    · intro y0 y1 y2 y3
      unfold pennantref21_Parse.l0
      repeat' first
      | (with_reducible exact ih0 _ _ _ _)
      | (with_reducible exact ih1 _ _ _ _ _)
      | (with_reducible exact ih2 _ _ _ _ _ _)
      | (with_reducible exact ih3 _ _ _ _ _ _)
      | (with_reducible exact pennantref21_Said.mono _ _)
      | (with_reducible exact LeO.refl _)
      | (with_reducible exact LeO.none _)
      | (with_reducible refine LeO.ite ?_ ?_)
      | (with_reducible refine LeO.bind ?_ (fun _ => ?_))
      | exact ih0 _ _ _ _
      | exact ih1 _ _ _ _ _
      | exact ih2 _ _ _ _ _ _
      | exact ih3 _ _ _ _ _ _
      | exact pennantref21_Said.mono _ _
      | exact LeO.none _
      | refine LeO.ite ?_ ?_
      | refine LeO.bind ?_ (fun _ => ?_)
    · intro y0 y1 y2 y3 y4
      unfold pennantref21_Parse.j1
      repeat' first
      | (with_reducible exact ih0 _ _ _ _)
      | (with_reducible exact ih1 _ _ _ _ _)
      | (with_reducible exact ih2 _ _ _ _ _ _)
      | (with_reducible exact ih3 _ _ _ _ _ _)
      | (with_reducible exact pennantref21_Said.mono _ _)
      | (with_reducible exact LeO.refl _)
      | (with_reducible exact LeO.none _)
      | (with_reducible refine LeO.ite ?_ ?_)
      | (with_reducible refine LeO.bind ?_ (fun _ => ?_))
      | exact ih0 _ _ _ _
      | exact ih1 _ _ _ _ _
      | exact ih2 _ _ _ _ _ _
      | exact ih3 _ _ _ _ _ _
      | exact pennantref21_Said.mono _ _
      | exact LeO.none _
      | refine LeO.ite ?_ ?_
      | refine LeO.bind ?_ (fun _ => ?_)
    · intro y0 y1 y2 y3 y4 y5
      unfold pennantref21_Parse.j3
      repeat' first
      | (with_reducible exact ih0 _ _ _ _)
      | (with_reducible exact ih1 _ _ _ _ _)
      | (with_reducible exact ih2 _ _ _ _ _ _)
      | (with_reducible exact ih3 _ _ _ _ _ _)
      | (with_reducible exact pennantref21_Said.mono _ _)
      | (with_reducible exact LeO.refl _)
      | (with_reducible exact LeO.none _)
      | (with_reducible refine LeO.ite ?_ ?_)
      | (with_reducible refine LeO.bind ?_ (fun _ => ?_))
      | exact ih0 _ _ _ _
      | exact ih1 _ _ _ _ _
      | exact ih2 _ _ _ _ _ _
      | exact ih3 _ _ _ _ _ _
      | exact pennantref21_Said.mono _ _
      | exact LeO.none _
      | refine LeO.ite ?_ ?_
      | refine LeO.bind ?_ (fun _ => ?_)
    · intro y0 y1 y2 y3 y4 y5
      unfold pennantref21_Parse.l1
      repeat' first
      | (with_reducible exact ih0 _ _ _ _)
      | (with_reducible exact ih1 _ _ _ _ _)
      | (with_reducible exact ih2 _ _ _ _ _ _)
      | (with_reducible exact ih3 _ _ _ _ _ _)
      | (with_reducible exact pennantref21_Said.mono _ _)
      | (with_reducible exact LeO.refl _)
      | (with_reducible exact LeO.none _)
      | (with_reducible refine LeO.ite ?_ ?_)
      | (with_reducible refine LeO.bind ?_ (fun _ => ?_))
      | exact ih0 _ _ _ _
      | exact ih1 _ _ _ _ _
      | exact ih2 _ _ _ _ _ _
      | exact ih3 _ _ _ _ _ _
      | exact pennantref21_Said.mono _ _
      | exact LeO.none _
      | refine LeO.ite ?_ ?_
      | refine LeO.bind ?_ (fun _ => ?_)
theorem pennantref21_Parse.mono : ∀ a0 k, LeO (pennantref21_Parse.f k a0) (pennantref21_Parse.f (k + 1) a0) := by
  intro a0 k
  obtain ⟨ih0, ih1, ih2, ih3⟩ := pennantref21_Parse.mono_l k
  unfold pennantref21_Parse.f
  repeat' first
      | (with_reducible exact ih0 _ _ _ _)
      | (with_reducible exact ih1 _ _ _ _ _)
      | (with_reducible exact ih2 _ _ _ _ _ _)
      | (with_reducible exact ih3 _ _ _ _ _ _)
      | (with_reducible exact pennantref21_Said.mono _ _)
      | (with_reducible exact LeO.refl _)
      | (with_reducible exact LeO.none _)
      | (with_reducible refine LeO.ite ?_ ?_)
      | (with_reducible refine LeO.bind ?_ (fun _ => ?_))
      | exact ih0 _ _ _ _
      | exact ih1 _ _ _ _ _
      | exact ih2 _ _ _ _ _ _
      | exact ih3 _ _ _ _ _ _
      | exact pennantref21_Said.mono _ _
      | exact LeO.none _
      | refine LeO.ite ?_ ?_
      | refine LeO.bind ?_ (fun _ => ?_)
set_option maxHeartbeats 8000000 in
set_option maxRecDepth 100000 in
theorem pennantref21_Parse.calls (k : Nat) (a0 : ByteArray) (r1 : List (S34)) (r2 : Int) (w : World) (h : pennantref21_Parse.f k a0 = some (r1, r2)) :
    Calls Tryd.prog 11 #[.string a0] w fun e w' => ∃ v0_ : Value, e = .returned (.tuple #[v0_, .int .i64 r2]) ∧ Kd.R k34 34 w' w.heap.size (fun _ => True) v0_ r1 ∧ Below w.heap.size w w' := by
  have hu34 := Tryd.underlying34
  have HB := Aside0.mk (Below.refl w.heap.size w)
  have H : (if (a0.size : Int) > 4096 then (some (([] : List (S34)), 2)) else (pennantref21_Parse.l0 k a0 ([] : List (S34)) 0 0)) = some (r1, r2) := h
  clear h
  by_cases c2 : (a0.size : Int) > 4096
  · rw [if_pos c2] at H
    have c2b0 : decide (4096 < (a0.size : Int)) = true := decide_eq_true c2
    have c2b1 : decide (4096 < a0.size) = true := decide_eq_true (by omega)
    clear c2
    simp only [Option.some.injEq, Prod.mk.injEq] at H
    obtain ⟨rfl, rfl⟩ := H
    go_enter Tryd.func11, Tryd.ntmps11
    go_wp2
    go_ret2
    exact ⟨_, by first | rfl | (simp [errW_none, errW_some] <;> rfl) | (simp [*, errW_none, errW_some] <;> rfl), by first | exact Kd.R_nil _ _ _ _ _ | exact Kd.N_nil _ _ _ _ _ | exact Kd.V_nil _ _ _ _ _ | exact Kd.Q_nil _ _ _ _ _ | exact Kd.S_nil _ _ _ _ _, by repeat (first | (with_reducible first | exact HB.out | apply below_alloc | apply pw_below_drewN | apply below_drew1) | exact HB.out)⟩
  · rw [if_neg c2] at H
    have c2b0 : decide (4096 < (a0.size : Int)) = false := decide_eq_false c2
    have c2b1 : decide (4096 < a0.size) = false := decide_eq_false (by omega)
    clear c2
    have H' := Aside0.mk H
    clear H
    go_enter Tryd.func11, Tryd.ntmps11
    go_wp2
    go_loopg [4, 5, 6] k (fun kq v4 v5 v6 w' => ∃ (x4_1 : List (S34)) (x5_1 : Int) (x6_1 : Int), v5 = .int .i64 x5_1 ∧ v6 = .int .i64 x6_1 ∧ Aside0 (pennantref21_Parse.l0 kq a0 x4_1 x5_1 x6_1 = some (r1, r2)) ∧ Aside0 (kq ≤ k) ∧ Aside0 (Kd.R k34 34 w' w.heap.size (fun _ => True) v4 x4_1) ∧ Aside0 (Below w.heap.size w w'))
    case atStart => exact ⟨(([] : List (S34))), (0), (0), (by first | rfl | (simp; done) | (simp [*]; done)), (by first | rfl | (simp; done) | (simp [*]; done)), H', ⟨Nat.le_refl _⟩, ⟨by first | exact Kd.R_nil _ _ _ _ _ | exact Kd.N_nil _ _ _ _ _ | exact Kd.V_nil _ _ _ _ _ | exact Kd.Q_nil _ _ _ _ _ | exact Kd.S_nil _ _ _ _ _⟩, ⟨by repeat (first | (with_reducible first | exact HB.out | apply below_alloc | apply pw_below_drewN | apply below_drew1) | exact HB.out)⟩⟩
    case round =>
      clear H'
      try clear c1
      try clear c2
      try clear c2b0
      try clear c2b1
      try clear p2
      obtain ⟨x4_1, x5_1, x6_1, rfl, rfl, HA, HK1, HO_4, HB⟩ := hrel
      cases gk with
      | zero => exact absurd HA.out (by simp [pennantref21_Parse.l0])
      | succ k1 =>
        have H := HA.out
        clear HA
        simp only [pennantref21_Parse.l0] at H
        by_cases c3 : x6_1 ≤ (a0.size : Int)
        · rw [if_pos c3] at H
          have c3b0 : decide (x6_1 ≤ (a0.size : Int)) = true := decide_eq_true c3
          clear c3
          have HC4 := Aside0.mk H
          clear H
          go_upto_region 8 with (fail)
          go_cut [31] (fun v31 wc => ∃ (kq : Nat) (x31_3 : Bool), v31 = .bool x31_3 ∧ Aside0 (pennantref21_Parse.j1 kq a0 x4_1 x5_1 x6_1 x31_3 = some (r1, r2)) ∧ Aside0 (kq ≤ k1) ∧ Aside0 (Kd.R k34 34 wc w.heap.size (fun _ => True) u4 x4_1) ∧ Aside0 (Below w.heap.size w wc))
          case first =>
            have H := HC4.out
            clear HC4
            by_cases c5 : x6_1 < (a0.size : Int)
            · rw [if_pos c5] at H
              have c5b0 : decide (x6_1 < (a0.size : Int)) = true := decide_eq_true c5
              clear c5
              (first | rw [c5b0] | (simp only [i64_w, i32_w]; rw [c5b0]) | skip)
              by_cases c6 : 0 ≤ x6_1
              · rw [if_pos c6] at H
                have c6b0 : decide (0 ≤ x6_1) = true := decide_eq_true c6
                clear c6
                have H' := Aside0.mk H
                clear H
                have p7 : 0 ≤ (x6_1 : Int) := of_decide_eq_true (by first | (with_reducible assumption) | assumption)
                have q7 : x6_1 < (a0.size : Int) := of_decide_eq_true (by first | (with_reducible assumption) | assumption)
                have hx7 := bt_at a0 x6_1
                replace p7 := eq_true p7
                replace q7 := eq_true q7
                (try have q7m_ := q7); (try rw [ByteArray.size_extract] at q7m_)
                go_wp2
                go_meet
                case rel => exact ⟨_, (((bt a0 x6_1) != 38)), (by first | rfl | (simp; done) | (simp [*]; done)), H', ⟨by have := HK1.out; first | omega | exact Nat.le_refl _⟩, ⟨by (with_reducible repeat (first | apply Kd.R_alloc | apply Kd.R_drewN | apply Kd.R_drew)); exact HO_4.out⟩, ⟨by repeat (first | (with_reducible first | exact HB.out | apply below_alloc | apply pw_below_drewN | apply below_drew1) | exact HB.out)⟩⟩
              · rw [if_neg c6] at H
                exact absurd H (by simp)
            · rw [if_neg c5] at H
              have c5b0 : decide (x6_1 < (a0.size : Int)) = false := decide_eq_false c5
              clear c5
              (first | rw [c5b0] | (simp only [i64_w, i32_w]; rw [c5b0]) | skip)
              have H' := Aside0.mk H
              clear H
              go_wp2
              go_meet
              case rel => exact ⟨_, (false), (by first | rfl | (simp; done) | (simp [*]; done)), H', ⟨by have := HK1.out; first | omega | exact Nat.le_refl _⟩, ⟨by (with_reducible repeat (first | apply Kd.R_alloc | apply Kd.R_drewN | apply Kd.R_drew)); exact HO_4.out⟩, ⟨by repeat (first | (with_reducible first | exact HB.out | apply below_alloc | apply pw_below_drewN | apply below_drew1) | exact HB.out)⟩⟩
          case rest =>
            clear HC4
            try clear c1
            try clear c2
            try clear c2b0
            try clear c2b1
            try clear p2
            try clear c3
            try clear c3b0
            try clear c5
            try clear c5b0
            try clear c6
            try clear c6b0
            try clear p7
            try clear q7
            try clear hx7
            try clear p2
            try clear p7
            try clear q7
            obtain ⟨kq, x31_3, rfl, HA, HJ3, HO_4, HB⟩ := hcut
            cases kq with
            | zero => exact absurd HA.out (by simp [pennantref21_Parse.j1])
            | succ kj3 =>
              have H := HA.out
              clear HA
              simp only [pennantref21_Parse.j1] at H
              by_cases c8 : x31_3 = true
              · subst c8
                have H1 : (pennantref21_Parse.l0 kj3 a0 x4_1 x5_1 (wrap64 (x6_1 + 1))) = some (r1, r2) := by rw [if_pos rfl] at H; exact H
                clear H
                have H := H1
                clear H1
                have H' := Aside0.mk H
                clear H
                go_wp2
                go_roundg kj3
                case measure => have := HK1.out; have := HJ3.out; omega
                case rel => exact ⟨(x4_1), (x5_1), (wrap64 (x6_1 + 1)), (by first | rfl | (simp; done) | (simp [*]; done)), (by first | rfl | (simp; done) | (simp [*]; done)), H', ⟨by have := HK1.out; have := HJ3.out; omega⟩, ⟨by (with_reducible repeat (first | apply Kd.R_alloc | apply Kd.R_drewN | apply Kd.R_drew)); exact HO_4.out⟩, ⟨by repeat (first | (with_reducible first | exact HB.out | apply below_alloc | apply pw_below_drewN | apply below_drew1) | exact HB.out)⟩⟩
              · replace c8 := Bool.eq_false_iff.mpr c8
                subst c8
                have H1 : (if 0 ≤ x5_1 then (if x5_1 ≤ x6_1 then (if x6_1 ≤ (a0.size : Int) then (if (a0.extract (x5_1 : Int).toNat (x6_1 : Int).toNat).toList = ([] : List UInt8) then (pennantref21_Parse.l0 kj3 a0 x4_1 (wrap64 (x6_1 + 1)) (wrap64 (x6_1 + 1))) else (pennantref21_Parse.l1 kj3 a0 x4_1 (wrap64 (x6_1 + 1)) x6_1 (a0.extract (x5_1 : Int).toNat (x6_1 : Int).toNat) 0)) else (none)) else (none)) else (none)) = some (r1, r2) := by rw [if_neg (show ¬ (false = true) by decide)] at H; exact H
                clear H
                have H := H1
                clear H1
                by_cases c9 : 0 ≤ x5_1
                · rw [if_pos c9] at H
                  have c9b0 := eq_true c9
                  have c9b1 : decide (0 ≤ x5_1) = true := decide_eq_true c9
                  clear c9
                  by_cases c10 : x5_1 ≤ x6_1
                  · rw [if_pos c10] at H
                    have c10b0 := eq_true c10
                    have c10b1 : decide (x5_1 ≤ x6_1) = true := decide_eq_true c10
                    clear c10
                    by_cases c11 : x6_1 ≤ (a0.size : Int)
                    · rw [if_pos c11] at H
                      have c11b0 := eq_true c11
                      have c11b1 : decide (x6_1 ≤ (a0.size : Int)) = true := decide_eq_true c11
                      clear c11
                      by_cases c12 : (a0.extract (x5_1 : Int).toNat (x6_1 : Int).toNat).toList = ([] : List UInt8)
                      · rw [if_pos c12] at H
                        have c12b0 : ((a0.extract (x5_1 : Int).toNat (x6_1 : Int).toNat).toList == ([] : List UInt8)) = true := beq_iff_eq.mpr c12
                        have c12b1 : ((a0.extract (x5_1 : Int).toNat (x6_1 : Int).toNat).toList != ([] : List UInt8)) = false := bne_eq_false_iff_eq.mpr c12
                        clear c12
                        have H' := Aside0.mk H
                        clear H
                        go_wp2
                        go_roundg kj3
                        case measure => have := HK1.out; have := HJ3.out; omega
                        case rel => exact ⟨(x4_1), (wrap64 (x6_1 + 1)), (wrap64 (x6_1 + 1)), (by first | rfl | (simp; done) | (simp [*]; done)), (by first | rfl | (simp; done) | (simp [*]; done)), H', ⟨by have := HK1.out; have := HJ3.out; omega⟩, ⟨by (with_reducible repeat (first | apply Kd.R_alloc | apply Kd.R_drewN | apply Kd.R_drew)); exact HO_4.out⟩, ⟨by repeat (first | (with_reducible first | exact HB.out | apply below_alloc | apply pw_below_drewN | apply below_drew1) | exact HB.out)⟩⟩
                      · rw [if_neg c12] at H
                        have c12b0 : ((a0.extract (x5_1 : Int).toNat (x6_1 : Int).toNat).toList == ([] : List UInt8)) = false := beq_eq_false_iff_ne.mpr c12
                        have c12b1 : ((a0.extract (x5_1 : Int).toNat (x6_1 : Int).toNat).toList != ([] : List UInt8)) = true := bne_iff_ne.mpr c12
                        have HC13 := Aside0.mk H
                        clear H
                        go_upto_block 2 with (fail)
                        go_cut [8] (fun v8 wc => ∃ (kq : Nat) (x8_12 : Int), v8 = .int .i64 x8_12 ∧ Aside0 (pennantref21_Parse.j3 kq a0 x4_1 (wrap64 (x6_1 + 1)) x6_1 (a0.extract (x5_1 : Int).toNat (x6_1 : Int).toNat) x8_12 = some (r1, r2)) ∧ Aside0 (kq ≤ kj3) ∧ Aside0 (Kd.R k34 34 wc w.heap.size (fun _ => True) u4 x4_1) ∧ Aside0 (Below w.heap.size w wc))
                        case first =>
                          have H := HC13.out
                          clear HC13
                          have H' := Aside0.mk H
                          clear H
                          go_wp2
                          go_loopg [8] kj3 (fun kq v8 w' => ∃ (x8_3 : Int), v8 = .int .i64 x8_3 ∧ Aside0 (pennantref21_Parse.l1 kq a0 x4_1 (wrap64 (x6_1 + 1)) x6_1 (a0.extract (x5_1 : Int).toNat (x6_1 : Int).toNat) x8_3 = some (r1, r2)) ∧ Aside0 (kq ≤ kj3) ∧ Aside0 (Kd.R k34 34 w' w.heap.size (fun _ => True) u4 x4_1) ∧ Aside0 (Below w.heap.size w w'))
                          case atStart => exact ⟨(0), (by first | rfl | (simp; done) | (simp [*]; done)), H', ⟨Nat.le_refl _⟩, ⟨by (with_reducible repeat (first | apply Kd.R_alloc | apply Kd.R_drewN | apply Kd.R_drew)); exact HO_4.out⟩, ⟨by repeat (first | (with_reducible first | exact HB.out | apply below_alloc | apply pw_below_drewN | apply below_drew1) | exact HB.out)⟩⟩
                          case round =>
                            clear H'
                            try clear c1
                            try clear c2
                            try clear c2b0
                            try clear c2b1
                            try clear p2
                            try clear c3
                            try clear c3b0
                            try clear c5
                            try clear c5b0
                            try clear c6
                            try clear c6b0
                            try clear p6
                            try clear p7
                            try clear q7
                            try clear hx7
                            try clear c8
                            try clear c9
                            try clear c9b0
                            try clear c9b1
                            try clear c10
                            try clear c10b0
                            try clear c10b1
                            try clear c11
                            try clear c11b0
                            try clear c11b1
                            try clear c12
                            try clear c12b0
                            try clear c12b1
                            try clear p2
                            try clear p7
                            try clear q7
                            obtain ⟨x8_3, rfl, HA, HK3, HO_4, HB⟩ := hrel
                            cases gk with
                            | zero => exact absurd HA.out (by simp [pennantref21_Parse.l1])
                            | succ k3 =>
                              have H := HA.out
                              clear HA
                              simp only [pennantref21_Parse.l1] at H
                              by_cases c14 : x8_3 < ((a0.extract (x5_1 : Int).toNat (x6_1 : Int).toNat).size : Int)
                              · rw [if_pos c14] at H
                                have c14b0 : decide (x8_3 < ((a0.extract (x5_1 : Int).toNat (x6_1 : Int).toNat).size : Int)) = true := decide_eq_true c14
                                (try have c14b0m_ := c14b0); (try rw [ByteArray.size_extract] at c14b0m_)
                                clear c14
                                (first | rw [c14b0] | (simp only [i64_w, i32_w]; rw [c14b0]) | skip)
                                by_cases c15 : 0 ≤ x8_3
                                · rw [if_pos c15] at H
                                  have c15b0 : decide (0 ≤ x8_3) = true := decide_eq_true c15
                                  clear c15
                                  by_cases c17 : (bt (a0.extract (x5_1 : Int).toNat (x6_1 : Int).toNat) x8_3) = 61
                                  · rw [if_pos c17] at H
                                    have c17b0 : ((bt (a0.extract (x5_1 : Int).toNat (x6_1 : Int).toNat) x8_3) == 61) = true := beq_iff_eq.mpr c17
                                    have c17b1 : ((bt (a0.extract (x5_1 : Int).toNat (x6_1 : Int).toNat) x8_3) != 61) = false := bne_eq_false_iff_eq.mpr c17
                                    clear c17
                                    have H' := Aside0.mk H
                                    clear H
                                    have p16 : 0 ≤ (x8_3 : Int) := of_decide_eq_true (by first | (with_reducible assumption) | assumption)
                                    have q16 : x8_3 < ((a0.extract (x5_1 : Int).toNat (x6_1 : Int).toNat).size : Int) := of_decide_eq_true (by first | (with_reducible assumption) | assumption)
                                    have hx16 := bt_at (a0.extract (x5_1 : Int).toNat (x6_1 : Int).toNat) x8_3
                                    replace p16 := eq_true p16
                                    replace q16 := eq_true q16
                                    (try have q16m_ := q16); (try rw [ByteArray.size_extract] at q16m_)
                                    go_wp2
                                    go_meet
                                    case rel => exact ⟨_, (x8_3), (by first | rfl | (simp; done) | (simp [*]; done)), H', ⟨by have := HK1.out; have := HJ3.out; have := HK3.out; first | omega | exact Nat.le_refl _⟩, ⟨by (with_reducible repeat (first | apply Kd.R_alloc | apply Kd.R_drewN | apply Kd.R_drew)); exact HO_4.out⟩, ⟨by repeat (first | (with_reducible first | exact HB.out | apply below_alloc | apply pw_below_drewN | apply below_drew1) | exact HB.out)⟩⟩
                                  · rw [if_neg c17] at H
                                    have c17b0 : ((bt (a0.extract (x5_1 : Int).toNat (x6_1 : Int).toNat) x8_3) == 61) = false := beq_eq_false_iff_ne.mpr c17
                                    have c17b1 : ((bt (a0.extract (x5_1 : Int).toNat (x6_1 : Int).toNat) x8_3) != 61) = true := bne_iff_ne.mpr c17
                                    have H' := Aside0.mk H
                                    clear H
                                    have p16 : 0 ≤ (x8_3 : Int) := of_decide_eq_true (by first | (with_reducible assumption) | assumption)
                                    have q16 : x8_3 < ((a0.extract (x5_1 : Int).toNat (x6_1 : Int).toNat).size : Int) := of_decide_eq_true (by first | (with_reducible assumption) | assumption)
                                    have hx16 := bt_at (a0.extract (x5_1 : Int).toNat (x6_1 : Int).toNat) x8_3
                                    replace p16 := eq_true p16
                                    replace q16 := eq_true q16
                                    (try have q16m_ := q16); (try rw [ByteArray.size_extract] at q16m_)
                                    go_wp2
                                    go_roundg k3
                                    case measure => have := HK1.out; have := HJ3.out; have := HK3.out; omega
                                    case rel => exact ⟨(wrap64 (x8_3 + 1)), (by first | rfl | (simp; done) | (simp [*]; done)), H', ⟨by have := HK1.out; have := HJ3.out; have := HK3.out; omega⟩, ⟨by (with_reducible repeat (first | apply Kd.R_alloc | apply Kd.R_drewN | apply Kd.R_drew)); exact HO_4.out⟩, ⟨by repeat (first | (with_reducible first | exact HB.out | apply below_alloc | apply pw_below_drewN | apply below_drew1) | exact HB.out)⟩⟩
                                · rw [if_neg c15] at H
                                  exact absurd H (by simp)
                              · rw [if_neg c14] at H
                                have c14b0 : decide (x8_3 < ((a0.extract (x5_1 : Int).toNat (x6_1 : Int).toNat).size : Int)) = false := decide_eq_false c14
                                (try have c14b0m_ := c14b0); (try rw [ByteArray.size_extract] at c14b0m_)
                                clear c14
                                (first | rw [c14b0] | (simp only [i64_w, i32_w]; rw [c14b0]) | skip)
                                have H' := Aside0.mk H
                                clear H
                                go_wp2
                                go_meet
                                case rel => exact ⟨_, (x8_3), (by first | rfl | (simp; done) | (simp [*]; done)), H', ⟨by have := HK1.out; have := HJ3.out; have := HK3.out; first | omega | exact Nat.le_refl _⟩, ⟨by (with_reducible repeat (first | apply Kd.R_alloc | apply Kd.R_drewN | apply Kd.R_drew)); exact HO_4.out⟩, ⟨by repeat (first | (with_reducible first | exact HB.out | apply below_alloc | apply pw_below_drewN | apply below_drew1) | exact HB.out)⟩⟩
                        case rest =>
                          clear HC13
                          try clear c1
                          try clear p1
                          try clear q1
                          try clear hx1
                          try clear c2
                          try clear c2b0
                          try clear c2b1
                          try clear p2
                          try clear c3
                          try clear c3b0
                          try clear c5
                          try clear c5b0
                          try clear c6
                          try clear c6b0
                          try clear p6
                          try clear p7
                          try clear q7
                          try clear hx7
                          try clear c8
                          try clear c9
                          try clear c9b0
                          try clear c9b1
                          try clear c10
                          try clear c10b0
                          try clear c10b1
                          try clear c11
                          try clear c11b0
                          try clear c11b1
                          try clear c12
                          try clear c12b0
                          try clear c12b1
                          try clear c14
                          try clear c14b0
                          try clear c15
                          try clear c15b0
                          try clear p16
                          try clear q16
                          try clear hx16
                          try clear c17
                          try clear c17b0
                          try clear c17b1
                          try clear p16
                          try clear p2
                          try clear p6
                          try clear p7
                          try clear q16
                          try clear q7
                          obtain ⟨kq, x8_12, rfl, HA, HJ12, HO_4, HB⟩ := hcut
                          cases kq with
                          | zero => exact absurd HA.out (by simp [pennantref21_Parse.j3])
                          | succ kj12 =>
                            have H := HA.out
                            clear HA
                            simp only [pennantref21_Parse.j3] at H
                            by_cases c18 : 0 ≤ x8_12
                            · rw [if_pos c18] at H
                              have c18b0 := eq_true c18
                              (try have c18b0eqm_ := c18b0); (try rw [ByteArray.size_extract] at c18b0eqm_)
                              have c18b1 : decide (0 ≤ x8_12) = true := decide_eq_true c18
                              clear c18
                              by_cases c19 : x8_12 ≤ ((a0.extract (x5_1 : Int).toNat (x6_1 : Int).toNat).size : Int)
                              · rw [if_pos c19] at H
                                have c19b0 := eq_true c19
                                (try have c19b0eqm_ := c19b0); (try rw [ByteArray.size_extract] at c19b0eqm_)
                                have c19b1 : decide (x8_12 ≤ ((a0.extract (x5_1 : Int).toNat (x6_1 : Int).toNat).size : Int)) = true := decide_eq_true c19
                                clear c19
                                replace H := Option.bind_eq_some_iff.mp H
                                obtain ⟨⟨t153, t154⟩, A200, H⟩ := H
                                replace H : (if 0 ≤ (mn (wrap64 (x8_12 + 1)) ((a0.extract (x5_1 : Int).toNat (x6_1 : Int).toNat).size : Int)) then (if (mn (wrap64 (x8_12 + 1)) ((a0.extract (x5_1 : Int).toNat (x6_1 : Int).toNat).size : Int)) ≤ ((a0.extract (x5_1 : Int).toNat (x6_1 : Int).toNat).size : Int) then ((pennantref21_Said.f kj12 ((a0.extract (x5_1 : Int).toNat (x6_1 : Int).toNat).extract ((mn (wrap64 (x8_12 + 1)) ((a0.extract (x5_1 : Int).toNat (x6_1 : Int).toNat).size : Int)) : Int).toNat (a0.extract (x5_1 : Int).toNat (x6_1 : Int).toNat).size)).bind fun bt155 => (if t154 = true then (if bt155.2 = true then (if x4_1.length < 4398046511104 then (pennantref21_Parse.l0 kj12 a0 (x4_1 ++ [(⟨t153, bt155.1⟩ : S34)]) (wrap64 (x6_1 + 1)) (wrap64 (x6_1 + 1))) else (none)) else (some (([] : List (S34)), 210))) else (some (([] : List (S34)), 210)))) else (none)) else (none)) = some (r1, r2) := H
                                have A20 := Aside0.mk A200
                                clear A200
                                obtain ⟨ji21, hji21⟩ : ∃ j_ : Int, (mn (wrap64 (x8_12 + 1)) ((a0.extract (x5_1 : Int).toNat (x6_1 : Int).toNat).size : Int)) = j_ := ⟨_, rfl⟩
                                replace H : (if 0 ≤ (ji21) then (if (ji21) ≤ ((a0.extract (x5_1 : Int).toNat (x6_1 : Int).toNat).size : Int) then ((pennantref21_Said.f kj12 ((a0.extract (x5_1 : Int).toNat (x6_1 : Int).toNat).extract ((ji21) : Int).toNat (a0.extract (x5_1 : Int).toNat (x6_1 : Int).toNat).size)).bind fun bt155 => (if t154 = true then (if bt155.2 = true then (if x4_1.length < 4398046511104 then (pennantref21_Parse.l0 kj12 a0 (x4_1 ++ [(⟨t153, bt155.1⟩ : S34)]) (wrap64 (x6_1 + 1)) (wrap64 (x6_1 + 1))) else (none)) else (some (([] : List (S34)), 210))) else (some (([] : List (S34)), 210)))) else (none)) else (none)) = some (r1, r2) := by first | (rw [hji21] at H; exact H) | (simp only [hji21] at H ⊢; exact H)
                                (try rw [hji21] at A20)
                                (try rw [hji21] at c12b0)
                                have hji21_ : (if ((a0.extract (x5_1 : Int).toNat (x6_1 : Int).toNat).size : Int) < (wrap64 (x8_12 + 1)) then ((a0.extract (x5_1 : Int).toNat (x6_1 : Int).toNat).size : Int) else (wrap64 (x8_12 + 1))) = ji21 := hji21
                                (try have hji21m_ := hji21_); (try rw [ByteArray.size_extract] at hji21m_)
                                by_cases c22 : 0 ≤ (ji21)
                                · rw [if_pos c22] at H
                                  have c22b0 := eq_true c22
                                  (try have c22b0eqm_ := c22b0); (try rw [ByteArray.size_extract] at c22b0eqm_)
                                  have c22b1 : decide (0 ≤ (ji21)) = true := decide_eq_true c22
                                  clear c22
                                  by_cases c23 : (ji21) ≤ ((a0.extract (x5_1 : Int).toNat (x6_1 : Int).toNat).size : Int)
                                  · rw [if_pos c23] at H
                                    have c23b0 := eq_true c23
                                    (try have c23b0eqm_ := c23b0); (try rw [ByteArray.size_extract] at c23b0eqm_)
                                    have c23b1 : decide ((ji21) ≤ ((a0.extract (x5_1 : Int).toNat (x6_1 : Int).toNat).size : Int)) = true := decide_eq_true c23
                                    clear c23
                                    replace H := Option.bind_eq_some_iff.mp H
                                    obtain ⟨⟨t155, t156⟩, A240, H⟩ := H
                                    replace H : (if t154 = true then (if t156 = true then (if x4_1.length < 4398046511104 then (pennantref21_Parse.l0 kj12 a0 (x4_1 ++ [(⟨t153, t155⟩ : S34)]) (wrap64 (x6_1 + 1)) (wrap64 (x6_1 + 1))) else (none)) else (some (([] : List (S34)), 210))) else (some (([] : List (S34)), 210))) = some (r1, r2) := H
                                    rw [ByteArray.size_extract] at A240
                                    have A24 := Aside0.mk A240
                                    clear A240
                                    by_cases c25 : t154 = true
                                    · subst c25
                                      have H1 : (if t156 = true then (if x4_1.length < 4398046511104 then (pennantref21_Parse.l0 kj12 a0 (x4_1 ++ [(⟨t153, t155⟩ : S34)]) (wrap64 (x6_1 + 1)) (wrap64 (x6_1 + 1))) else (none)) else (some (([] : List (S34)), 210))) = some (r1, r2) := by rw [if_pos rfl] at H; exact H
                                      clear H
                                      have H := H1
                                      clear H1
                                      by_cases c26 : t156 = true
                                      · subst c26
                                        have H1 : (if x4_1.length < 4398046511104 then (pennantref21_Parse.l0 kj12 a0 (x4_1 ++ [(⟨t153, t155⟩ : S34)]) (wrap64 (x6_1 + 1)) (wrap64 (x6_1 + 1))) else (none)) = some (r1, r2) := by rw [if_pos rfl] at H; exact H
                                        clear H
                                        have H := H1
                                        clear H1
                                        by_cases c27 : x4_1.length < 4398046511104
                                        · rw [if_pos c27] at H
                                          have LMc27 := Aside0.mk c27
                                          clear c27
                                          obtain ⟨y157, hy157⟩ : ∃ y_ : List (S34), y_ = (x4_1 ++ [(⟨t153, t155⟩ : S34)]) := ⟨_, rfl⟩
                                          replace H : (pennantref21_Parse.l0 kj12 a0 y157 (wrap64 (x6_1 + 1)) (wrap64 (x6_1 + 1))) = some (r1, r2) := by first | (rw [hy157]; with_reducible exact H) | (have H2_ := (Option.bind_some _ _).symm.trans H; rw [hy157]; with_reducible exact H2_) | (have H2_ := (Option.bind_some _ _).symm.trans H; with_reducible exact H2_) | with_reducible exact H | (rw [hy157]; exact H) | exact H
                                          have Ny157 := Aside0.mk hy157
                                          clear hy157
                                          have H' := Aside0.mk H
                                          clear H
                                          go_wp2_with (first | ((with_reducible refine gate_callee (f := 20) rfl ?_); refine goesL_ (some 56) rfl rfl Tryd.func20 (by kernel_rfl) rfl #[.string ((a0.extract (x5_1 : Int).toNat (x6_1 : Int).toNat).extract 0 (x8_12 : Int).toNat)] rfl (by (try simp only [List.map_toArray, List.map_cons, List.map_nil]); first | done | rfl | (simp only [List.length_drop, List.length_take]; rfl)) ?_; (with_reducible refine (pennantref21_Said.calls kj12 ((a0.extract (x5_1 : Int).toNat (x6_1 : Int).toNat).extract 0 (x8_12 : Int).toNat) t153 true _ A20.out).mono ?_); rintro e w28 ⟨rfl, hb⟩; refine ⟨_, rfl, ?_⟩; have n0_ := Aside0.mk (Kd.R_below (by (with_reducible repeat (first | apply Kd.R_alloc | apply Kd.R_drewN | apply Kd.R_drew)); exact HO_4.out) hb); have n1_ := Aside0.mk (below_step (by repeat (first | (with_reducible first | exact HB.out | apply below_alloc | apply pw_below_drewN | apply below_drew1) | exact HB.out)) hb); clear HO_4; clear HB; have HO_4 := n0_; have HB := n1_; clear n0_ n1_; (try clear hb); (try clear hb2); (try clear hk); (try clear hi)) | ((with_reducible refine gate_callee (f := 20) rfl ?_); refine goesL_ (some 67) rfl rfl Tryd.func20 (by kernel_rfl) rfl #[.string ((a0.extract (x5_1 : Int).toNat (x6_1 : Int).toNat).extract ((ji21) : Int).toNat (min (x6_1 : Int).toNat a0.size - (x5_1 : Int).toNat))] rfl (by (try simp only [List.map_toArray, List.map_cons, List.map_nil]); first | done | (simp only [hji21]; rfl) | rfl | (simp only [List.length_drop, List.length_take]; rfl)) ?_; (with_reducible refine (pennantref21_Said.calls kj12 ((a0.extract (x5_1 : Int).toNat (x6_1 : Int).toNat).extract ((ji21) : Int).toNat (min (x6_1 : Int).toNat a0.size - (x5_1 : Int).toNat)) t155 true _ A24.out).mono ?_); rintro e w29 ⟨rfl, hb⟩; refine ⟨_, rfl, ?_⟩; have n0_ := Aside0.mk (Kd.R_below (by (with_reducible repeat (first | apply Kd.R_alloc | apply Kd.R_drewN | apply Kd.R_drew)); exact HO_4.out) hb); have n1_ := Aside0.mk (below_step (by repeat (first | (with_reducible first | exact HB.out | apply below_alloc | apply pw_below_drewN | apply below_drew1) | exact HB.out)) hb); clear HO_4; clear HB; have HO_4 := n0_; have HB := n1_; clear n0_ n1_; (try clear hb); (try clear hb2); (try clear hk); (try clear hi)) | ((with_reducible refine gate_builtin (b := .append) (xs := #[.tmp 76, .tmp 80]) rfl ?_); at_builtin; refine Kd.R_append k34 (w0 := w) w.heap.size rfl (.tmp 76) (.tmp 80) 23 34 (.agg #[(.string ⟨#[]⟩), (.string ⟨#[]⟩)]) 32 rfl Tryd.underlying23 info34 rfl (by decide) (by omega) u4 x4_1 (⟨t153, t155⟩ : S34) [.string t153, .string t155] (fun _ => True) (fun _ => False) rfl rfl ?aP (fun _ hk => hk.elim) ?aF ?aO ?aB ?aS ?aL ?_; (case aP => exact k34_mkM _ _ _ (⟨t153, t155⟩ : S34)); (case aB => exact (by repeat (first | (with_reducible first | exact HB.out | apply below_alloc | apply pw_below_drewN | apply below_drew1) | exact HB.out))); (case aF => exact (fun _ _ => trivial)); (case aO => exact (by (with_reducible repeat (first | apply Kd.R_alloc | apply Kd.R_drewN | apply Kd.R_drew)); exact HO_4.out)); (case aS => exact (below_size (by repeat (first | (with_reducible first | exact HB.out | apply below_alloc | apply pw_below_drewN | apply below_drew1) | exact HB.out)))); (case aL => have := LMc27.out; omega); intro v158 w30 ho hb hg hat; rw [← Ny157.out] at ho; have n0_ := Aside0.mk (hb); have n1_ := Aside0.mk (ho); clear HB; clear HO_4; have HB := n0_; have HO159 := n1_; clear n0_ n1_; clear ho hb hg hat))
                                          go_roundg kj12
                                          case measure => have := HK1.out; have := HJ3.out; have := HJ12.out; omega
                                          case rel => exact ⟨(y157), ((wrap64 (x6_1 + 1))), (wrap64 (x6_1 + 1)), (by first | rfl | (simp; done) | (simp [*]; done)), (by first | rfl | (simp; done) | (simp [*]; done)), H', ⟨by have := HK1.out; have := HJ3.out; have := HJ12.out; omega⟩, ⟨by (with_reducible repeat (first | apply Kd.R_alloc | apply Kd.R_drewN | apply Kd.R_drew)); exact HO159.out⟩, ⟨by repeat (first | (with_reducible first | exact HB.out | apply below_alloc | apply pw_below_drewN | apply below_drew1) | exact HB.out)⟩⟩
                                        · rw [if_neg c27] at H
                                          exact absurd H (by simp)
                                      · replace c26 := Bool.eq_false_iff.mpr c26
                                        subst c26
                                        have H1 : (some (([] : List (S34)), 210)) = some (r1, r2) := by rw [if_neg (show ¬ (false = true) by decide)] at H; exact H
                                        clear H
                                        have H := H1
                                        clear H1
                                        simp only [Option.some.injEq, Prod.mk.injEq] at H
                                        obtain ⟨rfl, rfl⟩ := H
                                        go_wp2_with (first | ((with_reducible refine gate_callee (f := 20) rfl ?_); refine goesL_ (some 56) rfl rfl Tryd.func20 (by kernel_rfl) rfl #[.string ((a0.extract (x5_1 : Int).toNat (x6_1 : Int).toNat).extract 0 (x8_12 : Int).toNat)] rfl (by (try simp only [List.map_toArray, List.map_cons, List.map_nil]); first | done | rfl | (simp only [List.length_drop, List.length_take]; rfl)) ?_; (with_reducible refine (pennantref21_Said.calls kj12 ((a0.extract (x5_1 : Int).toNat (x6_1 : Int).toNat).extract 0 (x8_12 : Int).toNat) t153 true _ A20.out).mono ?_); rintro e w31 ⟨rfl, hb⟩; refine ⟨_, rfl, ?_⟩; have n0_ := Aside0.mk (Kd.R_below (by (with_reducible repeat (first | apply Kd.R_alloc | apply Kd.R_drewN | apply Kd.R_drew)); exact HO_4.out) hb); have n1_ := Aside0.mk (below_step (by repeat (first | (with_reducible first | exact HB.out | apply below_alloc | apply pw_below_drewN | apply below_drew1) | exact HB.out)) hb); clear HO_4; clear HB; have HO_4 := n0_; have HB := n1_; clear n0_ n1_; (try clear hb); (try clear hb2); (try clear hk); (try clear hi)) | ((with_reducible refine gate_callee (f := 20) rfl ?_); refine goesL_ (some 67) rfl rfl Tryd.func20 (by kernel_rfl) rfl #[.string ((a0.extract (x5_1 : Int).toNat (x6_1 : Int).toNat).extract ((ji21) : Int).toNat (min (x6_1 : Int).toNat a0.size - (x5_1 : Int).toNat))] rfl (by (try simp only [List.map_toArray, List.map_cons, List.map_nil]); first | done | (simp only [hji21]; rfl) | rfl | (simp only [List.length_drop, List.length_take]; rfl)) ?_; (with_reducible refine (pennantref21_Said.calls kj12 ((a0.extract (x5_1 : Int).toNat (x6_1 : Int).toNat).extract ((ji21) : Int).toNat (min (x6_1 : Int).toNat a0.size - (x5_1 : Int).toNat)) t155 false _ A24.out).mono ?_); rintro e w32 ⟨rfl, hb⟩; refine ⟨_, rfl, ?_⟩; have n0_ := Aside0.mk (Kd.R_below (by (with_reducible repeat (first | apply Kd.R_alloc | apply Kd.R_drewN | apply Kd.R_drew)); exact HO_4.out) hb); have n1_ := Aside0.mk (below_step (by repeat (first | (with_reducible first | exact HB.out | apply below_alloc | apply pw_below_drewN | apply below_drew1) | exact HB.out)) hb); clear HO_4; clear HB; have HO_4 := n0_; have HB := n1_; clear n0_ n1_; (try clear hb); (try clear hb2); (try clear hk); (try clear hi)))
                                        go_ret2
                                        exact ⟨_, by first | rfl | (simp [errW_none, errW_some] <;> rfl) | (simp only [← hji21]; first | rfl | (simp [errW_none, errW_some] <;> rfl)) | (simp [*, errW_none, errW_some] <;> rfl), by first | exact Kd.R_nil _ _ _ _ _ | exact Kd.N_nil _ _ _ _ _ | exact Kd.V_nil _ _ _ _ _ | exact Kd.Q_nil _ _ _ _ _ | exact Kd.S_nil _ _ _ _ _, by repeat (first | (with_reducible first | exact HB.out | apply below_alloc | apply pw_below_drewN | apply below_drew1) | exact HB.out)⟩
                                    · replace c25 := Bool.eq_false_iff.mpr c25
                                      subst c25
                                      have H1 : (some (([] : List (S34)), 210)) = some (r1, r2) := by rw [if_neg (show ¬ (false = true) by decide)] at H; exact H
                                      clear H
                                      have H := H1
                                      clear H1
                                      simp only [Option.some.injEq, Prod.mk.injEq] at H
                                      obtain ⟨rfl, rfl⟩ := H
                                      go_wp2_with (first | ((with_reducible refine gate_callee (f := 20) rfl ?_); refine goesL_ (some 56) rfl rfl Tryd.func20 (by kernel_rfl) rfl #[.string ((a0.extract (x5_1 : Int).toNat (x6_1 : Int).toNat).extract 0 (x8_12 : Int).toNat)] rfl (by (try simp only [List.map_toArray, List.map_cons, List.map_nil]); first | done | rfl | (simp only [List.length_drop, List.length_take]; rfl)) ?_; (with_reducible refine (pennantref21_Said.calls kj12 ((a0.extract (x5_1 : Int).toNat (x6_1 : Int).toNat).extract 0 (x8_12 : Int).toNat) t153 false _ A20.out).mono ?_); rintro e w33 ⟨rfl, hb⟩; refine ⟨_, rfl, ?_⟩; have n0_ := Aside0.mk (Kd.R_below (by (with_reducible repeat (first | apply Kd.R_alloc | apply Kd.R_drewN | apply Kd.R_drew)); exact HO_4.out) hb); have n1_ := Aside0.mk (below_step (by repeat (first | (with_reducible first | exact HB.out | apply below_alloc | apply pw_below_drewN | apply below_drew1) | exact HB.out)) hb); clear HO_4; clear HB; have HO_4 := n0_; have HB := n1_; clear n0_ n1_; (try clear hb); (try clear hb2); (try clear hk); (try clear hi)) | ((with_reducible refine gate_callee (f := 20) rfl ?_); refine goesL_ (some 67) rfl rfl Tryd.func20 (by kernel_rfl) rfl #[.string ((a0.extract (x5_1 : Int).toNat (x6_1 : Int).toNat).extract ((ji21) : Int).toNat (min (x6_1 : Int).toNat a0.size - (x5_1 : Int).toNat))] rfl (by (try simp only [List.map_toArray, List.map_cons, List.map_nil]); first | done | (simp only [hji21]; rfl) | rfl | (simp only [List.length_drop, List.length_take]; rfl)) ?_; (with_reducible refine (pennantref21_Said.calls kj12 ((a0.extract (x5_1 : Int).toNat (x6_1 : Int).toNat).extract ((ji21) : Int).toNat (min (x6_1 : Int).toNat a0.size - (x5_1 : Int).toNat)) t155 t156 _ A24.out).mono ?_); rintro e w34 ⟨rfl, hb⟩; refine ⟨_, rfl, ?_⟩; have n0_ := Aside0.mk (Kd.R_below (by (with_reducible repeat (first | apply Kd.R_alloc | apply Kd.R_drewN | apply Kd.R_drew)); exact HO_4.out) hb); have n1_ := Aside0.mk (below_step (by repeat (first | (with_reducible first | exact HB.out | apply below_alloc | apply pw_below_drewN | apply below_drew1) | exact HB.out)) hb); clear HO_4; clear HB; have HO_4 := n0_; have HB := n1_; clear n0_ n1_; (try clear hb); (try clear hb2); (try clear hk); (try clear hi)))
                                      go_ret2
                                      exact ⟨_, by first | rfl | (simp [errW_none, errW_some] <;> rfl) | (simp only [← hji21]; first | rfl | (simp [errW_none, errW_some] <;> rfl)) | (simp [*, errW_none, errW_some] <;> rfl), by first | exact Kd.R_nil _ _ _ _ _ | exact Kd.N_nil _ _ _ _ _ | exact Kd.V_nil _ _ _ _ _ | exact Kd.Q_nil _ _ _ _ _ | exact Kd.S_nil _ _ _ _ _, by repeat (first | (with_reducible first | exact HB.out | apply below_alloc | apply pw_below_drewN | apply below_drew1) | exact HB.out)⟩
                                  · rw [if_neg c23] at H
                                    exact absurd H (by simp)
                                · rw [if_neg c22] at H
                                  exact absurd H (by simp)
                              · rw [if_neg c19] at H
                                exact absurd H (by simp)
                            · rw [if_neg c18] at H
                              exact absurd H (by simp)
                    · rw [if_neg c11] at H
                      exact absurd H (by simp)
                  · rw [if_neg c10] at H
                    exact absurd H (by simp)
                · rw [if_neg c9] at H
                  exact absurd H (by simp)
        · rw [if_neg c3] at H
          have c3b0 : decide (x6_1 ≤ (a0.size : Int)) = false := decide_eq_false c3
          clear c3
          by_cases c35 : (x4_1.length : Int) > 32
          · rw [if_pos c35] at H
            have c35b0 : decide (32 < (x4_1.length : Int)) = true := decide_eq_true c35
            have c35b1 : decide (32 < x4_1.length) = true := decide_eq_true (by omega)
            clear c35
            simp only [Option.some.injEq, Prod.mk.injEq] at H
            obtain ⟨rfl, rfl⟩ := H
            obtain ⟨Ao36, co36, eo36⟩ := Kd.R_slice HO_4.out
            subst eo36
            go_wp2
            go_ret2
            exact ⟨_, by first | rfl | (simp [errW_none, errW_some] <;> rfl) | (simp [*, errW_none, errW_some] <;> rfl), by first | exact Kd.R_nil _ _ _ _ _ | exact Kd.N_nil _ _ _ _ _ | exact Kd.V_nil _ _ _ _ _ | exact Kd.Q_nil _ _ _ _ _ | exact Kd.S_nil _ _ _ _ _, by repeat (first | (with_reducible first | exact HB.out | apply below_alloc | apply pw_below_drewN | apply below_drew1) | exact HB.out)⟩
          · rw [if_neg c35] at H
            have c35b0 : decide (32 < (x4_1.length : Int)) = false := decide_eq_false c35
            have c35b1 : decide (32 < x4_1.length) = false := decide_eq_false (by omega)
            clear c35
            simp only [Option.some.injEq, Prod.mk.injEq] at H
            obtain ⟨rfl, rfl⟩ := H
            obtain ⟨Ao37, co37, eo37⟩ := Kd.R_slice HO_4.out
            subst eo37
            go_wp2
            go_ret2
            exact ⟨_, by first | rfl | (simp [errW_none, errW_some] <;> rfl) | (simp [*, errW_none, errW_some] <;> rfl), by (with_reducible repeat (first | apply Kd.R_alloc | apply Kd.R_drewN | apply Kd.R_drew)); exact HO_4.out, by repeat (first | (with_reducible first | exact HB.out | apply below_alloc | apply pw_below_drewN | apply below_drew1) | exact HB.out)⟩

end Go.Proofs.YtmddmlmmmgbejaaDoor.PFld
