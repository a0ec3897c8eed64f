/- A value (a struct of four fields) that came in: opened, and shut. -/
import Derived.Test.YtnfobcedbfbbiaaDoorSh0
import Derived.Test.YtnfobcedbfbbiaaDoorRows
import Derived.OpenShut
import Derived.Lib.SmallJoins
import Derived.ShutString
import Derived.ChangeOld
import Derived.Laws.Cover2
namespace Go.Proofs.YtnfobcedbfbbiaaDoor.Hp
open Go.ChangeShapes Go.WideShapes Go.ChangeAt Go.RowKit Go.Joins
set_option linter.unusedVariables false
section
variable {H : Type} {enc : TypeId × Value → H} {w : World} {base : Nat} {spare : Nat → Bool} {held : Bool}
theorem trod_float {n : Nat} {v : Value} {y : DataW H × List MemPlace} (h : DataW.trod enc Tryd.prog w base spare held n 31 [v] = some y) : ∃ x, v = .float .f64 x ∧ y = (.lit (.float .f64 x), []) ∧ (Lit.float .f64 x).wf = true := by
  cases n with
  | zero => simp [DataW.trod] at h
  | succ n =>
    simp only [DataW.trod, Tryd.underlying31] at h
    cases v with
    | float k b =>
      cases k with
      | f32 => simp at h
      | f64 =>
        by_cases hw : (Lit.float .f64 b).wf = true
        · simp [hw] at h
          exact ⟨b, rfl, h.symm, hw⟩
        · simp [hw] at h
    | _ => simp at h
/-- A value's datum. -/
def datV (v : Val) : DataW H := .agg [.lit (.int .i64 v.kind), .lit (.float .f64 v.num), .lit (.string v.text.data.toList), .lit (.int .i64 v.ref)]
structure ValOk (v : Val) : Prop where
  kind : (Lit.int .i64 v.kind).wf = true
  num : (Lit.float .f64 v.num).wf = true
  text : v.text.size ≤ maxLen
  ref : (Lit.int .i64 v.ref).wf = true
set_option maxRecDepth 100000 in
theorem open_val {r : Reach} {b0 : Nat} {v : Value} {d : DataW H} {p : List MemPlace} (hv : Value.okWide Tryd.prog w r b0 33 v) (h : DataW.Trod enc Tryd.prog w base spare held 33 v d p) :
    ∃ a : Val, v = a.agg ∧ d = datV a ∧ p = [] ∧ ValOk a := by
  obtain ⟨v0, v1, v2, v3, y0, y1, y2, y3, n, rfl, rfl, rfl, t0, t1, t2, t3⟩ := open_agg4 Tryd.underlying33 (by kernel_rfl) (show Tryd.prog.cellsOf 33 = 4 by kernel_rfl) hv h
  obtain ⟨k, e0, rfl, w0⟩ := DataW.trod_int Tryd.underlying3 t0
  obtain ⟨x, rfl, rfl, w1⟩ := trod_float t1
  obtain ⟨s, e2, rfl, w2⟩ := DataW.trod_string Tryd.underlying9 t2
  obtain ⟨q, e3, rfl, w3⟩ := DataW.trod_int Tryd.underlying3 t3
  simp at e0 e2 e3
  subst e0 e2 e3
  exact ⟨⟨k, x, s, q⟩, rfl, rfl, rfl, ⟨w0, w1, w2, w3⟩⟩
set_option maxRecDepth 100000 in
theorem shut_val {a : Val} (h : ValOk a) : DataW.Trod enc Tryd.prog w base spare held 33 a.agg (datV a) [] := by
  have := shut_agg4 (enc := enc) (w := w) (base := base) (spare := spare) (held := held) (v0 := .int .i64 a.kind) (v1 := .float .f64 a.num) (v2 := .string a.text) (v3 := .int .i64 a.ref)
    (y0 := (.lit (.int .i64 a.kind), [])) (y1 := (.lit (.float .f64 a.num), [])) (y2 := (.lit (.string a.text.data.toList), [])) (y3 := (.lit (.int .i64 a.ref), [])) Tryd.underlying33 (by kernel_rfl) (show Tryd.prog.cellsOf 33 = 4 by kernel_rfl)
    ⟨1, by simp [DataW.trod, Tryd.underlying3, h.kind]⟩ ⟨1, by simp [DataW.trod, Tryd.underlying31, h.num]⟩ ⟨1, by simp [DataW.trod, Tryd.underlying9, h.text]⟩ ⟨1, by simp [DataW.trod, Tryd.underlying3, h.ref]⟩
  exact this
end
end Go.Proofs.YtnfobcedbfbbiaaDoor.Hp
