-- Written by a program of this session (a turned copy of the print): the machine's side.
import Derived.Test.YtmddmlmmmgbejaaDoorPFldx0
import Derived.Test.YtmddmlmmmgbejaaDoorPFldx6
namespace Go.Proofs.YtmddmlmmmgbejaaDoor.PFld
open Go.RowKit Go.Proofs.YtmddmlmmmgbejaaDoorW.PrintWords Go.Proofs.YtmddmlmmmgbejaaDoorW.PrintLast Go.Proofs.YtmddmlmmmgbejaaDoorW.PrintMore Go.Proofs.YtmddmlmmmgbejaaDoor.Hand
attribute [local go_sem] max2_int min2_int max_two min_two max_three min_three max_four min_four   -- for this text's walks alone
set_option linter.unusedVariables false
set_option linter.unusedSimpArgs false

/-! ### pennantref21_Write: function 16 -/
def pennantref21_Write.l0 : Nat → List (S34) → ByteArray → Int → Option (ByteArray × Int)
  | 0, _, _, _ => none
  | k + 1, x0, x4, x5 => if x5 < (x0.length : Int) then (if x5 > 0 then (if x4.size + 1 ≤ 9223372036854775807 then (if 0 ≤ x5 then ((pennantref21_Coded.f k ((rd_T34 x0 x5).f0)).bind fun t179 => (if x4.size + 1 + t179.size ≤ 9223372036854775807 then (if x4.size + 1 + t179.size + 1 ≤ 9223372036854775807 then ((pennantref21_Coded.f k ((rd_T34 x0 x5).f1)).bind fun t181 => (if x4.size + 1 + t179.size + 1 + t181.size ≤ 9223372036854775807 then (pennantref21_Write.l0 k x0 ((((x4 ++ (⟨#[38]⟩ : ByteArray)) ++ t179) ++ (⟨#[61]⟩ : ByteArray)) ++ t181) (wrap64 (x5 + 1))) else (none))) else (none)) else (none))) else (none)) else (none)) else (if 0 ≤ x5 then ((pennantref21_Coded.f k ((rd_T34 x0 x5).f0)).bind fun t183 => (if x4.size + t183.size ≤ 9223372036854775807 then (if x4.size + t183.size + 1 ≤ 9223372036854775807 then ((pennantref21_Coded.f k ((rd_T34 x0 x5).f1)).bind fun t185 => (if x4.size + t183.size + 1 + t185.size ≤ 9223372036854775807 then (pennantref21_Write.l0 k x0 (((x4 ++ t183) ++ (⟨#[61]⟩ : ByteArray)) ++ t185) (wrap64 (x5 + 1))) else (none))) else (none)) else (none))) else (none))) else (if (x4.size : Int) > 4096 then (some ((⟨#[]⟩ : ByteArray), 2)) else (some (x4, 0)))
def pennantref21_Write.f (k : Nat) (l0 : List (S34)) : Option (ByteArray × Int) := if (l0.length : Int) > 32 then (some ((⟨#[]⟩ : ByteArray), 4)) else (pennantref21_Write.l0 k l0 (⟨#[]⟩ : ByteArray) 0)
theorem pennantref21_Write.mono_l : ∀ k, (∀ y0 y1 y2, LeO (pennantref21_Write.l0 k y0 y1 y2) (pennantref21_Write.l0 (k + 1) y0 y1 y2))
  | 0 => fun _ _ _ r h => by simp [pennantref21_Write.l0] at h
  | k + 1 => by
    have ih0 := pennantref21_Write.mono_l k
    · intro y0 y1 y2
      unfold pennantref21_Write.l0
      repeat' first
      | (with_reducible exact ih0 _ _ _)
      | (with_reducible exact pennantref21_Coded.mono _ _)
      | (with_reducible exact LeO.refl _)
      | (with_reducible exact LeO.none _)
      | (with_reducible refine LeO.ite ?_ ?_)
      | (with_reducible refine LeO.bind ?_ (fun _ => ?_))
      | exact ih0 _ _ _
      | exact pennantref21_Coded.mono _ _
      | exact LeO.none _
      | refine LeO.ite ?_ ?_
      | refine LeO.bind ?_ (fun _ => ?_)
theorem pennantref21_Write.mono : ∀ a0 k, LeO (pennantref21_Write.f k a0) (pennantref21_Write.f (k + 1) a0) := by
  intro a0 k
  have ih0 := pennantref21_Write.mono_l k
  unfold pennantref21_Write.f
  repeat' first
      | (with_reducible exact ih0 _ _ _)
      | (with_reducible exact pennantref21_Coded.mono _ _)
      | (with_reducible exact LeO.refl _)
      | (with_reducible exact LeO.none _)
      | (with_reducible refine LeO.ite ?_ ?_)
      | (with_reducible refine LeO.bind ?_ (fun _ => ?_))
      | exact ih0 _ _ _
      | exact pennantref21_Coded.mono _ _
      | exact LeO.none _
      | refine LeO.ite ?_ ?_
      | refine LeO.bind ?_ (fun _ => ?_)
set_option maxHeartbeats 8000000 in
set_option maxRecDepth 100000 in
theorem pennantref21_Write.calls (k : Nat) (A0 : Option Addr) (c0 : Nat) (l0 : List (S34)) (r1 : ByteArray) (r2 : Int) (w : World) (hr0 : Kd.C k34 w A0 l0.length l0) (hc0 : l0.length ≤ c0) (h : pennantref21_Write.f k l0 = some (r1, r2)) :
    Calls Tryd.prog 16 #[.slice A0 l0.length c0] w fun e w' => e = .returned (.tuple #[.string r1, .int .i64 r2]) ∧ Drawn0 w w' := by
  have HR0 := Aside0.mk hr0
  have HC0 := Aside0.mk hc0
  clear hr0 hc0
  have H : (if (l0.length : Int) > 32 then (some ((⟨#[]⟩ : ByteArray), 4)) else (pennantref21_Write.l0 k l0 (⟨#[]⟩ : ByteArray) 0)) = some (r1, r2) := h
  clear h
  by_cases c2 : (l0.length : Int) > 32
  · rw [if_pos c2] at H
    have c2b0 : decide (32 < (l0.length : Int)) = true := decide_eq_true c2
    have c2b1 : decide (32 < l0.length) = true := decide_eq_true (by omega)
    clear c2
    simp only [Option.some.injEq, Prod.mk.injEq] at H
    obtain ⟨rfl, rfl⟩ := H
    go_enter Tryd.func16, Tryd.ntmps16
    go_wp2
    repeat (go_quiet (fail); try go_wp2)
    go_ret2
    exact ⟨by first | rfl | (simp; done) | (simp [*]; done), by repeat (first | exact Drawn0.refl _ | apply Drawn0.step)⟩
  · rw [if_neg c2] at H
    have c2b0 : decide (32 < (l0.length : Int)) = false := decide_eq_false c2
    have c2b1 : decide (32 < l0.length) = false := decide_eq_false (by omega)
    clear c2
    have H' := Aside0.mk H
    clear H
    go_enter Tryd.func16, Tryd.ntmps16
    go_wp2
    repeat (go_quiet (fail); try go_wp2)
    go_loopg [4, 5] k (fun kq v4 v5 w' => ∃ (x4_1 : ByteArray) (x5_1 : Int), v4 = .string x4_1 ∧ v5 = .int .i64 x5_1 ∧ Aside0 (pennantref21_Write.l0 kq l0 x4_1 x5_1 = some (r1, r2)) ∧ Aside0 (kq ≤ k) ∧ Drawn0 w w')
    case atStart => exact ⟨((⟨#[]⟩ : ByteArray)), (0), (by first | rfl | (simp; done) | (simp [*]; done)), (by first | rfl | (simp; done) | (simp [*]; done)), H', ⟨Nat.le_refl _⟩, by repeat (first | exact Drawn0.refl _ | apply Drawn0.step)⟩
    case round =>
      clear H'
      try clear c1
      try clear c2
      try clear c2b0
      try clear c2b1
      try clear p2
      obtain ⟨x4_1, x5_1, rfl, rfl, HA, HK1, ⟨m1, rfl⟩⟩ := hrel
      cases gk with
      | zero => exact absurd HA.out (by simp [pennantref21_Write.l0])
      | succ k1 =>
        have H := HA.out
        clear HA
        simp only [pennantref21_Write.l0] at H
        by_cases c3 : x5_1 < (l0.length : Int)
        · rw [if_pos c3] at H
          have c3b0 : decide (x5_1 < (l0.length : Int)) = true := decide_eq_true c3
          clear c3
          by_cases c4 : x5_1 > 0
          · rw [if_pos c4] at H
            have c4b0 : decide (0 < x5_1) = true := decide_eq_true c4
            clear c4
            by_cases c5 : x4_1.size + 1 ≤ 9223372036854775807
            · rw [if_pos c5] at H
              have c5b0 := eq_true c5
              have c5b1 : decide (x4_1.size + 1 ≤ 9223372036854775807) = true := decide_eq_true c5
              try have c5b2 : (9223372036854775807 < x4_1.size + 1) = False := eq_false (Nat.not_lt.2 c5)
              by_cases c6 : 0 ≤ x5_1
              · rw [if_pos c6] at H
                have c6b0 : decide (0 ≤ x5_1) = true := decide_eq_true c6
                clear c6
                replace H := Option.bind_eq_some_iff.mp H
                obtain ⟨t179, A70, H⟩ := H
                replace H : (if x4_1.size + 1 + t179.size ≤ 9223372036854775807 then (if x4_1.size + 1 + t179.size + 1 ≤ 9223372036854775807 then ((pennantref21_Coded.f k1 ((rd_T34 l0 x5_1).f1)).bind fun t181 => (if x4_1.size + 1 + t179.size + 1 + t181.size ≤ 9223372036854775807 then (pennantref21_Write.l0 k1 l0 ((((x4_1 ++ (⟨#[38]⟩ : ByteArray)) ++ t179) ++ (⟨#[61]⟩ : ByteArray)) ++ t181) (wrap64 (x5_1 + 1))) else (none))) else (none)) else (none)) = some (r1, r2) := H
                have A7 := Aside0.mk A70
                clear A70
                by_cases c8 : x4_1.size + 1 + t179.size ≤ 9223372036854775807
                · rw [if_pos c8] at H
                  have c8b0 := eq_true c8
                  have c8b1 : decide (x4_1.size + 1 + t179.size ≤ 9223372036854775807) = true := decide_eq_true c8
                  try have c8b2 : (9223372036854775807 < x4_1.size + 1 + t179.size) = False := eq_false (Nat.not_lt.2 c8)
                  by_cases c9 : x4_1.size + 1 + t179.size + 1 ≤ 9223372036854775807
                  · rw [if_pos c9] at H
                    have c9b0 := eq_true c9
                    have c9b1 : decide (x4_1.size + 1 + t179.size + 1 ≤ 9223372036854775807) = true := decide_eq_true c9
                    try have c9b2 : (9223372036854775807 < x4_1.size + 1 + t179.size + 1) = False := eq_false (Nat.not_lt.2 c9)
                    replace H := Option.bind_eq_some_iff.mp H
                    obtain ⟨t181, A100, H⟩ := H
                    replace H : (if x4_1.size + 1 + t179.size + 1 + t181.size ≤ 9223372036854775807 then (pennantref21_Write.l0 k1 l0 ((((x4_1 ++ (⟨#[38]⟩ : ByteArray)) ++ t179) ++ (⟨#[61]⟩ : ByteArray)) ++ t181) (wrap64 (x5_1 + 1))) else (none)) = some (r1, r2) := H
                    have A10 := Aside0.mk A100
                    clear A100
                    by_cases c11 : x4_1.size + 1 + t179.size + 1 + t181.size ≤ 9223372036854775807
                    · rw [if_pos c11] at H
                      have c11b0 := eq_true c11
                      have c11b1 : decide (x4_1.size + 1 + t179.size + 1 + t181.size ≤ 9223372036854775807) = true := decide_eq_true c11
                      try have c11b2 : (9223372036854775807 < x4_1.size + 1 + t179.size + 1 + t181.size) = False := eq_false (Nat.not_lt.2 c11)
                      have H' := Aside0.mk H
                      clear H
                      have p178 : 0 ≤ (x5_1 : Int) := of_decide_eq_true (by first | (with_reducible assumption) | assumption)
                      have q178 : x5_1 < (l0.length : Int) := of_decide_eq_true (by first | (with_reducible assumption) | assumption)
                      obtain ⟨ad178, e178, hx178_0, hx178_1⟩ := at_T34 HR0.out x5_1 p178 q178
                      cases e178
                      replace p178 := eq_true p178
                      replace q178 := eq_true q178
                      go_wp2_with (first | (go_at_call 23; (with_reducible refine (pennantref21_Coded.calls k1 ((rd_T34 l0 x5_1).f0) t179 _ A7.out).mono ?_); rintro e w' ⟨rfl, ⟨nd, rfl⟩⟩; (try first | exact ⟨rfl, _, World.drewN_drewN _ _ _⟩ | exact ⟨rfl, _, Eq.trans (World.drewN_drewN _ _ _) (congrArg (World.drewN _) (Nat.add_assoc _ _ _))⟩); have p180 : 0 ≤ (x5_1 : Int) := of_decide_eq_true (by first | (with_reducible assumption) | assumption); have q180 : x5_1 < (l0.length : Int) := of_decide_eq_true (by first | (with_reducible assumption) | assumption); obtain ⟨ad180, e180, hx180_0, hx180_1⟩ := at_T34 HR0.out x5_1 p180 q180; obtain rfl : ad178 = ad180 := (by injection e180); replace p180 := eq_true p180; replace q180 := eq_true q180) | (go_at_call 23; (with_reducible refine (pennantref21_Coded.calls k1 ((rd_T34 l0 x5_1).f1) t181 _ A10.out).mono ?_); rintro e w' ⟨rfl, ⟨nd, rfl⟩⟩; (try first | exact ⟨rfl, _, World.drewN_drewN _ _ _⟩ | exact ⟨rfl, _, Eq.trans (World.drewN_drewN _ _ _) (congrArg (World.drewN _) (Nat.add_assoc _ _ _))⟩)))
                      repeat (go_quiet (first | (go_at_call 23; (with_reducible refine (pennantref21_Coded.calls k1 ((rd_T34 l0 x5_1).f0) t179 _ A7.out).mono ?_); rintro e w' ⟨rfl, ⟨nd, rfl⟩⟩; (try first | exact ⟨rfl, _, World.drewN_drewN _ _ _⟩ | exact ⟨rfl, _, Eq.trans (World.drewN_drewN _ _ _) (congrArg (World.drewN _) (Nat.add_assoc _ _ _))⟩); have p180 : 0 ≤ (x5_1 : Int) := of_decide_eq_true (by first | (with_reducible assumption) | assumption); have q180 : x5_1 < (l0.length : Int) := of_decide_eq_true (by first | (with_reducible assumption) | assumption); obtain ⟨ad180, e180, hx180_0, hx180_1⟩ := at_T34 HR0.out x5_1 p180 q180; obtain rfl : ad178 = ad180 := (by injection e180); replace p180 := eq_true p180; replace q180 := eq_true q180) | (go_at_call 23; (with_reducible refine (pennantref21_Coded.calls k1 ((rd_T34 l0 x5_1).f1) t181 _ A10.out).mono ?_); rintro e w' ⟨rfl, ⟨nd, rfl⟩⟩; (try first | exact ⟨rfl, _, World.drewN_drewN _ _ _⟩ | exact ⟨rfl, _, Eq.trans (World.drewN_drewN _ _ _) (congrArg (World.drewN _) (Nat.add_assoc _ _ _))⟩))); try go_wp2_with (first | (go_at_call 23; (with_reducible refine (pennantref21_Coded.calls k1 ((rd_T34 l0 x5_1).f0) t179 _ A7.out).mono ?_); rintro e w' ⟨rfl, ⟨nd, rfl⟩⟩; (try first | exact ⟨rfl, _, World.drewN_drewN _ _ _⟩ | exact ⟨rfl, _, Eq.trans (World.drewN_drewN _ _ _) (congrArg (World.drewN _) (Nat.add_assoc _ _ _))⟩); have p180 : 0 ≤ (x5_1 : Int) := of_decide_eq_true (by first | (with_reducible assumption) | assumption); have q180 : x5_1 < (l0.length : Int) := of_decide_eq_true (by first | (with_reducible assumption) | assumption); obtain ⟨ad180, e180, hx180_0, hx180_1⟩ := at_T34 HR0.out x5_1 p180 q180; obtain rfl : ad178 = ad180 := (by injection e180); replace p180 := eq_true p180; replace q180 := eq_true q180) | (go_at_call 23; (with_reducible refine (pennantref21_Coded.calls k1 ((rd_T34 l0 x5_1).f1) t181 _ A10.out).mono ?_); rintro e w' ⟨rfl, ⟨nd, rfl⟩⟩; (try first | exact ⟨rfl, _, World.drewN_drewN _ _ _⟩ | exact ⟨rfl, _, Eq.trans (World.drewN_drewN _ _ _) (congrArg (World.drewN _) (Nat.add_assoc _ _ _))⟩))))
                      go_roundg k1
                      case measure => have := HK1.out; omega
                      case rel => exact ⟨((((x4_1 ++ (⟨#[38]⟩ : ByteArray)) ++ t179) ++ (⟨#[61]⟩ : ByteArray)) ++ t181), (wrap64 (x5_1 + 1)), (by first | rfl | (simp; done) | (simp [*]; done)), (by first | rfl | (simp; done) | (simp [*]; done)), H', ⟨by have := HK1.out; omega⟩, by repeat (first | exact Drawn0.refl _ | apply Drawn0.step)⟩
                    · rw [if_neg c11] at H
                      exact absurd H (by simp)
                  · rw [if_neg c9] at H
                    exact absurd H (by simp)
                · rw [if_neg c8] at H
                  exact absurd H (by simp)
              · rw [if_neg c6] at H
                exact absurd H (by simp)
            · rw [if_neg c5] at H
              exact absurd H (by simp)
          · rw [if_neg c4] at H
            have c4b0 : decide (0 < x5_1) = false := decide_eq_false c4
            clear c4
            by_cases c12 : 0 ≤ x5_1
            · rw [if_pos c12] at H
              have c12b0 : decide (0 ≤ x5_1) = true := decide_eq_true c12
              clear c12
              replace H := Option.bind_eq_some_iff.mp H
              obtain ⟨t183, A130, H⟩ := H
              replace H : (if x4_1.size + t183.size ≤ 9223372036854775807 then (if x4_1.size + t183.size + 1 ≤ 9223372036854775807 then ((pennantref21_Coded.f k1 ((rd_T34 l0 x5_1).f1)).bind fun t185 => (if x4_1.size + t183.size + 1 + t185.size ≤ 9223372036854775807 then (pennantref21_Write.l0 k1 l0 (((x4_1 ++ t183) ++ (⟨#[61]⟩ : ByteArray)) ++ t185) (wrap64 (x5_1 + 1))) else (none))) else (none)) else (none)) = some (r1, r2) := H
              have A13 := Aside0.mk A130
              clear A130
              by_cases c14 : x4_1.size + t183.size ≤ 9223372036854775807
              · rw [if_pos c14] at H
                have c14b0 := eq_true c14
                have c14b1 : decide (x4_1.size + t183.size ≤ 9223372036854775807) = true := decide_eq_true c14
                try have c14b2 : (9223372036854775807 < x4_1.size + t183.size) = False := eq_false (Nat.not_lt.2 c14)
                by_cases c15 : x4_1.size + t183.size + 1 ≤ 9223372036854775807
                · rw [if_pos c15] at H
                  have c15b0 := eq_true c15
                  have c15b1 : decide (x4_1.size + t183.size + 1 ≤ 9223372036854775807) = true := decide_eq_true c15
                  try have c15b2 : (9223372036854775807 < x4_1.size + t183.size + 1) = False := eq_false (Nat.not_lt.2 c15)
                  replace H := Option.bind_eq_some_iff.mp H
                  obtain ⟨t185, A160, H⟩ := H
                  replace H : (if x4_1.size + t183.size + 1 + t185.size ≤ 9223372036854775807 then (pennantref21_Write.l0 k1 l0 (((x4_1 ++ t183) ++ (⟨#[61]⟩ : ByteArray)) ++ t185) (wrap64 (x5_1 + 1))) else (none)) = some (r1, r2) := H
                  have A16 := Aside0.mk A160
                  clear A160
                  by_cases c17 : x4_1.size + t183.size + 1 + t185.size ≤ 9223372036854775807
                  · rw [if_pos c17] at H
                    have c17b0 := eq_true c17
                    have c17b1 : decide (x4_1.size + t183.size + 1 + t185.size ≤ 9223372036854775807) = true := decide_eq_true c17
                    try have c17b2 : (9223372036854775807 < x4_1.size + t183.size + 1 + t185.size) = False := eq_false (Nat.not_lt.2 c17)
                    have H' := Aside0.mk H
                    clear H
                    have p182 : 0 ≤ (x5_1 : Int) := of_decide_eq_true (by first | (with_reducible assumption) | assumption)
                    have q182 : x5_1 < (l0.length : Int) := of_decide_eq_true (by first | (with_reducible assumption) | assumption)
                    obtain ⟨ad182, e182, hx182_0, hx182_1⟩ := at_T34 HR0.out x5_1 p182 q182
                    cases e182
                    replace p182 := eq_true p182
                    replace q182 := eq_true q182
                    go_wp2_with (first | (go_at_call 23; (with_reducible refine (pennantref21_Coded.calls k1 ((rd_T34 l0 x5_1).f0) t183 _ A13.out).mono ?_); rintro e w' ⟨rfl, ⟨nd, rfl⟩⟩; (try first | exact ⟨rfl, _, World.drewN_drewN _ _ _⟩ | exact ⟨rfl, _, Eq.trans (World.drewN_drewN _ _ _) (congrArg (World.drewN _) (Nat.add_assoc _ _ _))⟩); have p184 : 0 ≤ (x5_1 : Int) := of_decide_eq_true (by first | (with_reducible assumption) | assumption); have q184 : x5_1 < (l0.length : Int) := of_decide_eq_true (by first | (with_reducible assumption) | assumption); obtain ⟨ad184, e184, hx184_0, hx184_1⟩ := at_T34 HR0.out x5_1 p184 q184; obtain rfl : ad182 = ad184 := (by injection e184); replace p184 := eq_true p184; replace q184 := eq_true q184) | (go_at_call 23; (with_reducible refine (pennantref21_Coded.calls k1 ((rd_T34 l0 x5_1).f1) t185 _ A16.out).mono ?_); rintro e w' ⟨rfl, ⟨nd, rfl⟩⟩; (try first | exact ⟨rfl, _, World.drewN_drewN _ _ _⟩ | exact ⟨rfl, _, Eq.trans (World.drewN_drewN _ _ _) (congrArg (World.drewN _) (Nat.add_assoc _ _ _))⟩)))
                    repeat (go_quiet (first | (go_at_call 23; (with_reducible refine (pennantref21_Coded.calls k1 ((rd_T34 l0 x5_1).f0) t183 _ A13.out).mono ?_); rintro e w' ⟨rfl, ⟨nd, rfl⟩⟩; (try first | exact ⟨rfl, _, World.drewN_drewN _ _ _⟩ | exact ⟨rfl, _, Eq.trans (World.drewN_drewN _ _ _) (congrArg (World.drewN _) (Nat.add_assoc _ _ _))⟩); have p184 : 0 ≤ (x5_1 : Int) := of_decide_eq_true (by first | (with_reducible assumption) | assumption); have q184 : x5_1 < (l0.length : Int) := of_decide_eq_true (by first | (with_reducible assumption) | assumption); obtain ⟨ad184, e184, hx184_0, hx184_1⟩ := at_T34 HR0.out x5_1 p184 q184; obtain rfl : ad182 = ad184 := (by injection e184); replace p184 := eq_true p184; replace q184 := eq_true q184) | (go_at_call 23; (with_reducible refine (pennantref21_Coded.calls k1 ((rd_T34 l0 x5_1).f1) t185 _ A16.out).mono ?_); rintro e w' ⟨rfl, ⟨nd, rfl⟩⟩; (try first | exact ⟨rfl, _, World.drewN_drewN _ _ _⟩ | exact ⟨rfl, _, Eq.trans (World.drewN_drewN _ _ _) (congrArg (World.drewN _) (Nat.add_assoc _ _ _))⟩))); try go_wp2_with (first | (go_at_call 23; (with_reducible refine (pennantref21_Coded.calls k1 ((rd_T34 l0 x5_1).f0) t183 _ A13.out).mono ?_); rintro e w' ⟨rfl, ⟨nd, rfl⟩⟩; (try first | exact ⟨rfl, _, World.drewN_drewN _ _ _⟩ | exact ⟨rfl, _, Eq.trans (World.drewN_drewN _ _ _) (congrArg (World.drewN _) (Nat.add_assoc _ _ _))⟩); have p184 : 0 ≤ (x5_1 : Int) := of_decide_eq_true (by first | (with_reducible assumption) | assumption); have q184 : x5_1 < (l0.length : Int) := of_decide_eq_true (by first | (with_reducible assumption) | assumption); obtain ⟨ad184, e184, hx184_0, hx184_1⟩ := at_T34 HR0.out x5_1 p184 q184; obtain rfl : ad182 = ad184 := (by injection e184); replace p184 := eq_true p184; replace q184 := eq_true q184) | (go_at_call 23; (with_reducible refine (pennantref21_Coded.calls k1 ((rd_T34 l0 x5_1).f1) t185 _ A16.out).mono ?_); rintro e w' ⟨rfl, ⟨nd, rfl⟩⟩; (try first | exact ⟨rfl, _, World.drewN_drewN _ _ _⟩ | exact ⟨rfl, _, Eq.trans (World.drewN_drewN _ _ _) (congrArg (World.drewN _) (Nat.add_assoc _ _ _))⟩))))
                    go_roundg k1
                    case measure => have := HK1.out; omega
                    case rel => exact ⟨(((x4_1 ++ t183) ++ (⟨#[61]⟩ : ByteArray)) ++ t185), (wrap64 (x5_1 + 1)), (by first | rfl | (simp; done) | (simp [*]; done)), (by first | rfl | (simp; done) | (simp [*]; done)), H', ⟨by have := HK1.out; omega⟩, by repeat (first | exact Drawn0.refl _ | apply Drawn0.step)⟩
                  · rw [if_neg c17] at H
                    exact absurd H (by simp)
                · rw [if_neg c15] at H
                  exact absurd H (by simp)
              · rw [if_neg c14] at H
                exact absurd H (by simp)
            · rw [if_neg c12] at H
              exact absurd H (by simp)
        · rw [if_neg c3] at H
          have c3b0 : decide (x5_1 < (l0.length : Int)) = false := decide_eq_false c3
          clear c3
          by_cases c18 : (x4_1.size : Int) > 4096
          · rw [if_pos c18] at H
            have c18b0 : decide (4096 < (x4_1.size : Int)) = true := decide_eq_true c18
            have c18b1 : decide (4096 < x4_1.size) = true := decide_eq_true (by omega)
            clear c18
            simp only [Option.some.injEq, Prod.mk.injEq] at H
            obtain ⟨rfl, rfl⟩ := H
            go_wp2
            repeat (go_quiet (fail); try go_wp2)
            go_ret2
            exact ⟨by first | rfl | (simp; done) | (simp [*]; done), by repeat (first | exact Drawn0.refl _ | apply Drawn0.step)⟩
          · rw [if_neg c18] at H
            have c18b0 : decide (4096 < (x4_1.size : Int)) = false := decide_eq_false c18
            have c18b1 : decide (4096 < x4_1.size) = false := decide_eq_false (by omega)
            clear c18
            simp only [Option.some.injEq, Prod.mk.injEq] at H
            obtain ⟨rfl, rfl⟩ := H
            go_wp2
            repeat (go_quiet (fail); try go_wp2)
            go_ret2
            exact ⟨by first | rfl | (simp; done) | (simp [*]; done), by repeat (first | exact Drawn0.refl _ | apply Drawn0.step)⟩
end Go.Proofs.YtmddmlmmmgbejaaDoor.PFld
