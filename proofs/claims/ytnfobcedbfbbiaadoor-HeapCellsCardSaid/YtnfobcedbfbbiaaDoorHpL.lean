/- Put: the rest of its ways. -/
import Derived.Test.YtnfobcedbfbbiaaDoorHpK
namespace Go.Proofs.YtnfobcedbfbbiaaDoor.Hp
open Go.RowKit Go.Proofs.YtnfobcedbfbbiaaDoorW.PrintWords Go.Proofs.YtnfobcedbfbbiaaDoorW.PrintLast Go.Proofs.YtnfobcedbfbbiaaDoorW.PrintMore Go.Proofs.YtnfobcedbfbbiaaDoor.Hand Go.Proofs.YtnfobcedbfbbiaaDoor.PIx Go.Proofs.YtnfobcedbfbbiaaDoor.Pure
set_option linter.unusedVariables false
set_option linter.unusedSimpArgs false
/-- A number without its part behind the point. -/
def truncV (x : Nat) : Nat := FloatKind.f64.encode ((FloatKind.f64.decode x).integral .zero)
theorem trunc_run (x : Nat) (hx : feq x x = true) (w : World) : (callFunc 64 #[.float .f64 x]).run Tryd.prog w = .ok (.value (.float .f64 (truncV x))) w := by
  rw [run_callFunc_extern (e := Extern.MathFloor.toIntegral "math.archTrunc" .zero) Tryd.func64 (by kernel_rfl) (by kernel_rfl) (by kernel_rfl) (by kernel_rfl)]
  have hn : ∀ s t, FloatKind.f64.decode x ≠ .nan s t := by
    intro s t e
    unfold feq at hx
    have : FloatKind.f64.format.order x x = none := by
      show (FloatKind.f64.decode x).order (FloatKind.f64.decode x) = none
      rw [e]; rfl
    rw [this] at hx
    cases hx
  unfold truncV Extern.MathFloor.toIntegral
  generalize FloatKind.decode .f64 = D at *
  cases hd : D x with
  | nan s t => exact absurd hd (hn s t)
  | infinity s =>
    conv => lhs; arg 1; arg 2; whnf
    rw [hd]
    rfl
  | number s m e =>
    conv => lhs; arg 1; arg 2; whnf
    rw [hd]
    rfl
def wholeV (x : Nat) : Nat := if feq x x = true then truncV x else 0
theorem whole_calls (x : Nat) (w : World) : Calls Tryd.prog 41 #[.float .f64 x] w fun e w' => e = .returned (.float .f64 (wholeV x)) ∧ w' = w := by
  unfold wholeV
  cases hx : feq x x with
  | true =>
    rw [if_pos rfl]
    have h := trunc_run x hx
    have g := feq_t hx
    clear hx
    go_enter Tryd.func41, Tryd.ntmps41
    go_wp2
    go_ret
    exact ⟨rfl, rfl⟩
  | false =>
    rw [if_neg (by simp)]
    have g := feq_fn hx
    clear hx
    go_enter Tryd.func41, Tryd.ntmps41
    go_wp2
    go_ret
    exact ⟨rfl, rfl⟩
/-- What goes into a length: a whole number, not negative, not above the most. -/
structure LenOk (v : Val) : Prop where
  kind : v.kind = 3
  whole : feq (wholeV v.num) v.num = true
  low : (FloatKind.f64.format.order v.num 0 == some Ordering.lt) = false
  high : (FloatKind.f64.format.order v.num 4746794007244308480 == some Ordering.gt) = false
theorem shl_two (m k : Nat) : m <<< k = m * 2 ^ k := Nat.shiftLeft_eq m k
theorem cut_le (m : Nat) (i : Int) (h : m * 2 ^ (i - min i (-22)).toNat ≤ 9007199250546688 * 2 ^ (-22 - min i (-22)).toNat) : (m * 2 ^ i.toNat) / 2 ^ (min (-i).toNat ((m * 2 ^ i.toNat).log2 + 2)) ≤ 2147483647 := by
  by_cases c : 0 ≤ i
  · have e1 : (-i).toNat = 0 := by omega
    have e2 : (i - min i (-22)).toNat = i.toNat + 22 := by omega
    have e3 : (-22 - min i (-22)).toNat = 0 := by omega
    rw [e2, e3, Nat.pow_add, ← Nat.mul_assoc] at h
    rw [e1, Nat.zero_min, Nat.pow_zero, Nat.div_one]
    omega
  · have e0 : i.toNat = 0 := by omega
    rw [e0, Nat.pow_zero, Nat.mul_one]
    have hm : m ≤ 2147483647 * 2 ^ (-i).toNat := by
      by_cases c2 : -22 ≤ i
      · have e2 : (i - min i (-22)).toNat = 22 - (-i).toNat := by omega
        have e3 : (-22 - min i (-22)).toNat = 0 := by omega
        rw [e2, e3, Nat.pow_zero, Nat.mul_one] at h
        have hp : 2 ^ (-i).toNat * 2 ^ (22 - (-i).toNat) = 4194304 := by rw [← Nat.pow_add, show (-i).toNat + (22 - (-i).toNat) = 22 by omega]
        have hpos : 0 < 2 ^ (22 - (-i).toNat) := Nat.pow_pos (by decide)
        refine Nat.le_of_mul_le_mul_right (c := 2 ^ (22 - (-i).toNat)) ?_ hpos
        rw [Nat.mul_assoc, hp]
        exact h
      · have e2 : (i - min i (-22)).toNat = 0 := by omega
        have e3 : (-22 - min i (-22)).toNat = (-i).toNat - 22 := by omega
        rw [e2, e3, Nat.pow_zero, Nat.mul_one] at h
        have hp : 4194304 * 2 ^ ((-i).toNat - 22) = 2 ^ (-i).toNat := by
          rw [show (4194304 : Nat) = 2 ^ 22 by decide, ← Nat.pow_add, show 22 + ((-i).toNat - 22) = (-i).toNat by omega]
        rw [← hp, ← Nat.mul_assoc]
        exact h
    by_cases c3 : (-i).toNat ≤ m.log2 + 2
    · rw [Nat.min_eq_left c3]
      exact Nat.div_le_of_le_mul (by rw [Nat.mul_comm]; exact hm)
    · rw [Nat.min_eq_right (by omega)]
      have : m / 2 ^ (m.log2 + 2) = 0 := Nat.div_eq_of_lt (Nat.lt_of_lt_of_le Nat.lt_log2_self (Nat.pow_le_pow_right (by decide) (by omega)))
      omega
/-- A number between 0 and the most is cut to an integer there. -/
theorem toInt_of {x : Nat} (hx : feq x x = true) (h0 : (FloatKind.f64.format.order x 0 == some Ordering.lt) = false) (h1 : (FloatKind.f64.format.order x 4746794007244308480 == some Ordering.gt) = false) :
    ∃ n : Nat, (FloatKind.f64.decode x).toInt .zero = some (n : Int) ∧ n ≤ 2147483647 := by
  have hzero : FloatKind.f64.decode 0 = .number false 0 (-1074) := by kernel_rfl
  have hmost : FloatKind.f64.decode 4746794007244308480 = .number false 9007199250546688 (-22) := by kernel_rfl
  have e0 : FloatKind.f64.format.order x 0 = (FloatKind.f64.decode x).order (.number false 0 (-1074)) := by rw [← hzero]; rfl
  have e1 : FloatKind.f64.format.order x 4746794007244308480 = (FloatKind.f64.decode x).order (.number false 9007199250546688 (-22)) := by rw [← hmost]; rfl
  have ex : FloatKind.f64.format.order x x = (FloatKind.f64.decode x).order (FloatKind.f64.decode x) := rfl
  unfold feq at hx
  rw [e0] at h0
  rw [e1] at h1
  rw [ex] at hx
  clear e0 e1 ex hzero hmost
  cases hd : FloatKind.f64.decode x with
  | nan s t => rw [hd] at hx; cases hx
  | infinity s =>
    rw [hd] at h0 h1
    cases s with
    | false => cases h1
    | true => cases h0
  | number s m i =>
    rw [hd] at h0 h1
    simp only [Ieee.Datum.order, Ieee.Datum.toInt, Ieee.Datum.integral, Ieee.signed, Ieee.Toward.cut] at h0 h1 ⊢
    have h0' : ¬ ((if s = true then -((m <<< (i - min i (-1074)).toNat : Nat) : Int) else ((m <<< (i - min i (-1074)).toNat : Nat) : Int)) < 0) := by
      intro hlt
      have : compare (if s = true then -((m <<< (i - min i (-1074)).toNat : Nat) : Int) else ((m <<< (i - min i (-1074)).toNat : Nat) : Int)) (if false = true then -((0 <<< (-1074 - min i (-1074)).toNat : Nat) : Int) else ((0 <<< (-1074 - min i (-1074)).toNat : Nat) : Int)) = Ordering.lt := by
        rw [if_neg (show ¬ (false = true) by decide), Nat.zero_shiftLeft]
        exact Int.compare_eq_lt.2 hlt
      rw [this] at h0
      cases h0
    cases s with
    | true =>
      rw [if_pos rfl, shl_two] at h0'
      have hm : m = 0 := by
        have hz : m * 2 ^ (i - min i (-1074)).toNat = 0 := by omega
        rcases Nat.mul_eq_zero.1 hz with e | e
        · exact e
        · exact absurd e (Nat.ne_of_gt (Nat.pow_pos (by decide)))
      subst hm
      refine ⟨0, ?_, by decide⟩
      simp
    | false =>
      rw [if_neg (show ¬ (false = true) by decide), if_neg (show ¬ (false = true) by decide)] at h1
      have h1' : m * 2 ^ (i - min i (-22)).toNat ≤ 9007199250546688 * 2 ^ (-22 - min i (-22)).toNat := by
        by_cases c : m * 2 ^ (i - min i (-22)).toNat ≤ 9007199250546688 * 2 ^ (-22 - min i (-22)).toNat
        · exact c
        · have : compare ((m <<< (i - min i (-22)).toNat : Nat) : Int) ((9007199250546688 <<< (-22 - min i (-22)).toNat : Nat) : Int) = Ordering.gt := by
            rw [shl_two, shl_two]
            exact Int.compare_eq_gt.2 (by omega)
          rw [this] at h1
          cases h1
      have := cut_le m i h1'
      refine ⟨(m * 2 ^ i.toNat) / 2 ^ (min (-i).toNat ((m * 2 ^ i.toNat).log2 + 2)), ?_, this⟩
      rw [if_neg (by decide)]
      simp [shl_two]
end Go.Proofs.YtnfobcedbfbbiaaDoor.Hp
