/- Numbers that are floats: their sign, the same number; is a value right. -/
import Derived.Test.YtnfobcedbfbbiaaDoorHeapA
import Derived.WalkLawsBesides
import Derived.Laws.Externs
namespace Go.Proofs.YtnfobcedbfbbiaaDoor.Hp
open Go.RowKit Go.Proofs.YtnfobcedbfbbiaaDoorW.PrintWords Go.Proofs.YtnfobcedbfbbiaaDoorW.PrintLast Go.Proofs.YtnfobcedbfbbiaaDoorW.PrintMore Go.Proofs.YtnfobcedbfbbiaaDoor.Hand Go.Proofs.YtnfobcedbfbbiaaDoor.PIx
set_option linter.unusedVariables false
set_option linter.unusedSimpArgs false
theorem run_store_float {P : Program} {w : World} {a : Addr} {m : Mode} (k : FloatKind) (b : Nat) : (store a (.float k b) m).run P w = stored P w a (.float k b) m := run_store P w a _ m rfl
attribute [go_sem] run_store_float
theorem bits_run (x : Nat) (w : World) : (callFunc 59 #[.float .f64 x]).run Tryd.prog w = .ok (.value (.int .u64 x)) w := by
  rw [run_callFunc_extern (e := Extern.MathFloatBits.float64bits) Tryd.func59 (by kernel_rfl) (by kernel_rfl) (by kernel_rfl) (by kernel_rfl)]
  rfl
def signV (x : Nat) : Bool := decide (wrap64 (x : Int) < 0)
theorem sign_calls (x : Nat) (w : World) : Calls Tryd.prog 63 #[.float .f64 x] w fun e w' => e = .returned (.bool (signV x)) ∧ w' = w := by
  have h := bits_run x
  go_enter Tryd.func63, Tryd.ntmps63
  go_wp2
  go_ret
  exact ⟨rfl, rfl⟩
/-- Are two numbers equal, as == has it. -/
def feq (x y : Nat) : Bool := FloatKind.f64.format.order x y == some Ordering.eq
/-- The same number? -/
def sameV (x y : Nat) : Bool := if feq x x = true then (if feq y y = true then feq x y && (signV x == signV y) else false) else !feq y y
theorem feq_t {x y : Nat} (h : feq x y = true) : FloatKind.f64.format.order x y = some Ordering.eq := by unfold feq at h; exact beq_iff_eq.1 h
theorem feq_f {x y : Nat} (h : feq x y = false) : ¬ FloatKind.f64.format.order x y = some Ordering.eq := by unfold feq at h; exact beq_eq_false_iff_ne.1 h
theorem feq_fb {x y : Nat} (h : feq x y = false) : (FloatKind.f64.format.order x y == some Ordering.eq) = false := h
theorem feq_fn {x y : Nat} (h : feq x y = false) : (FloatKind.f64.format.order x y != some Ordering.eq) = true := by unfold feq at h; unfold bne; rw [h]; rfl
set_option maxHeartbeats 1000000 in
theorem same_ff (x y : Nat) (w : World) (g1 : (FloatKind.f64.format.order x x != some Ordering.eq) = true) (g2 : (FloatKind.f64.format.order y y != some Ordering.eq) = true) : Calls Tryd.prog 57 #[.float .f64 x, .float .f64 y] w fun e w' => e = .returned (.bool true) ∧ w' = w := by
  go_enter Tryd.func57, Tryd.ntmps57
  go_wp2
  go_ret
  exact ⟨rfl, rfl⟩
set_option maxHeartbeats 1000000 in
theorem same_ft (x y : Nat) (w : World) (g0 : (FloatKind.f64.format.order x x != some Ordering.eq) = true) (g1 : FloatKind.f64.format.order y y = some Ordering.eq) : Calls Tryd.prog 57 #[.float .f64 x, .float .f64 y] w fun e w' => e = .returned (.bool false) ∧ w' = w := by
  go_enter Tryd.func57, Tryd.ntmps57
  go_wp2
  go_ret
  exact ⟨rfl, rfl⟩
set_option maxHeartbeats 1000000 in
theorem same_tf (x y : Nat) (w : World) (g0 : FloatKind.f64.format.order x x = some Ordering.eq) (g1 : (FloatKind.f64.format.order y y != some Ordering.eq) = true) : Calls Tryd.prog 57 #[.float .f64 x, .float .f64 y] w fun e w' => e = .returned (.bool false) ∧ w' = w := by
  go_enter Tryd.func57, Tryd.ntmps57
  go_wp2
  go_ret
  exact ⟨rfl, rfl⟩
set_option maxHeartbeats 1000000 in
theorem same_ttf (x y : Nat) (w : World) (g0 : FloatKind.f64.format.order x x = some Ordering.eq) (g1 : FloatKind.f64.format.order y y = some Ordering.eq) (g2 : (FloatKind.f64.format.order x y == some Ordering.eq) = false) : Calls Tryd.prog 57 #[.float .f64 x, .float .f64 y] w fun e w' => e = .returned (.bool false) ∧ w' = w := by
  go_enter Tryd.func57, Tryd.ntmps57
  go_wp2
  go_ret
  exact ⟨rfl, rfl⟩
set_option maxHeartbeats 1000000 in
theorem same_ttt (x y : Nat) (w : World) (g0 : FloatKind.f64.format.order x x = some Ordering.eq) (g1 : FloatKind.f64.format.order y y = some Ordering.eq) (g2 : FloatKind.f64.format.order x y = some Ordering.eq) : Calls Tryd.prog 57 #[.float .f64 x, .float .f64 y] w fun e w' => e = .returned (.bool (signV x == signV y)) ∧ w' = w := by
  have HS := fun z => Aside0.mk (sign_calls z)
  go_enter Tryd.func57, Tryd.ntmps57
  go_wp2_with (first | (go_at_call 63; refine ((HS _).out _).mono ?_; rintro e w' ⟨rfl, rfl⟩))
  go_ret
  exact ⟨rfl, rfl⟩
theorem same_calls (x y : Nat) (w : World) : Calls Tryd.prog 57 #[.float .f64 x, .float .f64 y] w fun e w' => e = .returned (.bool (sameV x y)) ∧ w' = w := by
  cases hx : feq x x with
  | true =>
    cases hy : feq y y with
    | true =>
      cases hz : feq x y with
      | true => rw [show sameV x y = (signV x == signV y) by simp [sameV, hx, hy, hz]]; exact same_ttt x y w (feq_t hx) (feq_t hy) (feq_t hz)
      | false => rw [show sameV x y = false by simp [sameV, hx, hy, hz]]; exact same_ttf x y w (feq_t hx) (feq_t hy) (feq_fb hz)
    | false => rw [show sameV x y = false by simp [sameV, hx, hy]]; exact same_tf x y w (feq_t hx) (feq_fn hy)
  | false =>
    cases hy : feq y y with
    | true => rw [show sameV x y = false by simp [sameV, hx, hy]]; exact same_ft x y w (feq_fn hx) (feq_t hy)
    | false => rw [show sameV x y = true by simp [sameV, hx, hy]]; exact same_ff x y w (feq_fn hx) (feq_fn hy)
/-- Has a value no text, no object? -/
def bareV (v : Val) : Bool := (v.text.toList == []) && decide (v.ref = 0)
/-- Is a value right, in a heap of n objects? -/
def rightV (n : Nat) (v : Val) : Bool :=
  if v.kind = 0 ∨ v.kind = 1 then sameV v.num 0 && bareV v
  else if v.kind = 2 then (sameV v.num 0 || feq v.num 4607182418800017408) && bareV v
  else if v.kind = 3 then bareV v
  else if v.kind = 4 then sameV v.num 0 && decide (v.ref = 0) && decide (v.text.size % 2 = 0)
  else if v.kind = 5 ∨ v.kind = 6 then sameV v.num 0 && (v.text.toList == []) && decide (0 ≤ v.ref) && (decide (v.kind = 6) || decide (v.ref < n))
  else false
/-- A number, as a value. -/
abbrev numV (x : Nat) : Val := ⟨3, x, ⟨#[]⟩, 0⟩
theorem right_num (n x : Nat) : rightV n (numV x) = true := by
  unfold rightV bareV
  simp [Lib.toList_data]
set_option maxHeartbeats 1000000 in
theorem right_num_calls {w : World} {p : Nat} (x : Nat) :
    Calls Tryd.prog 37 #[.pointer (some ⟨p, 0, none⟩), (numV x).agg] w fun e w' => e = .returned (.bool true) ∧ Below w.heap.size w w' := by
  go_enter Tryd.func37, Tryd.ntmps37
  go_wp2
  go_ret
  exact ⟨rfl, by repeat (first | exact Below.refl _ _ | apply below_alloc | apply pw_below_drewN | apply below_drew1)⟩
end Go.Proofs.YtnfobcedbfbbiaaDoor.Hp
