/- FieldsMany, the plain law: as many fields as the limit says are read and written, and no more. -/
import Derived.Test.YtmddmlmmmgbejaaDoorPureC
import Derived.Test.YtmddmlmmmgbejaaDoorPFldMany
import Derived.OpenShut
namespace Go.Proofs.YtmddmlmmmgbejaaDoor.Pure
open Go.RowKit Go.Proofs.YtmddmlmmmgbejaaDoor.PFld Go.Proofs.YtmddmlmmmgbejaaDoorW.PrintWords Go.Proofs.YtmddmlmmmgbejaaDoorW.PrintLast Go.Proofs.YtmddmlmmmgbejaaDoorW.PrintMore Go.Proofs.YtmddmlmmmgbejaaDoor.Hand
set_option linter.unusedVariables false
def tail (e : Bool) : List UInt8 := if e = true then [38] else []
def kv : Fl := ([107], [118])
/-- The text behind so many rounds. -/
def manyL (e : Bool) : Nat → List UInt8
  | 0 => []
  | 1 => [107, 61, 118] ++ tail e
  | n + 2 => manyL e (n + 1) ++ 38 :: ([107, 61, 118] ++ tail e)
theorem form_one (e : Bool) : formL ([107, 61, 118] ++ tail e) = some [kv] := by
  cases e <;> decide
theorem form_many (e : Bool) : ∀ n, formL (manyL e n) = some (List.replicate n kv)
  | 0 => rfl
  | 1 => form_one e
  | n + 2 => by
    rw [manyL, formL_join, form_many e (n + 1), form_one e]
    simp only [Option.some.injEq]
    rw [List.replicate_succ' (n := n + 1)]
theorem many_len (e : Bool) : ∀ n, (manyL e n).length ≤ 5 * n
  | 0 => Nat.le_refl _
  | 1 => by cases e <;> decide
  | n + 2 => by
    have := many_len e (n + 1)
    have h : ([107, 61, 118] ++ tail e : List UInt8).length ≤ 4 := by cases e <;> decide
    rw [manyL, List.length_append, List.length_cons]
    omega
theorem write_many (n : Nat) : (writeL (List.replicate n kv)).length ≤ 4 * n := by
  refine Nat.le_trans (writeL_len _) ?_
  rw [List.map_replicate, List.sum_replicate_nat]
  have : (writeF kv).length + 1 = 4 := by decide
  rw [this]; omega
theorem many_end (e : Bool) (n : Nat) (hn : n ≤ 70) : Ev (fun k => pennantlaw21_FieldsMany.l0 k e ⟨(manyL e n).toArray⟩ ((List.replicate n kv).map toS) (n : Int) (n : Int)) true := by
  have hl := many_len e n
  have h1 := parse_told ⟨(manyL e n).toArray⟩ (by rw [size_mk]; omega)
  rw [if_neg (by rw [size_mk]; omega), list_mk, form_many] at h1
  have h2 := write_told ((List.replicate n kv).map toS) (fun _ f hfm => by
    obtain ⟨g, hg, rfl⟩ := List.mem_map.1 hfm
    obtain ⟨_, rfl⟩ := List.mem_replicate.1 hg
    exact ⟨by decide, by decide⟩)
  rw [map_toF_toS] at h2
  have hw := write_many n
  unfold done at h1
  simp only at h1
  by_cases c : 32 < n
  · rw [if_pos (by simpa using c)] at h1
    rw [if_pos (by simpa using c)] at h2
    refine Ev.step (fun k => ?_) (Ev.bind h1 (f := fun k bt256 => ((fields_Write.f k ((List.replicate n kv).map toS)).bind fun bt260 => (if (((List.replicate n kv).map toS).length : Int) > 32 then (if bt256.2 = 4 then (if bt260.2 = 4 then (if (bt256.1.length : Int) = 0 then (some (bt260.1.toList == ([] : List UInt8))) else (some false)) else (some false)) else (some false)) else (if bt256.2 = 0 then (if bt260.2 = 0 then (some ((bt256.1.length : Int) == (((List.replicate n kv).map toS).length : Int))) else (some false)) else (some false)))))
      (Ev.bind h2 (Ev.congr (fun k => ?_) (Ev.now _))))
    · rw [pennantlaw21_FieldsMany.l0, if_neg (by omega)]
    · rw [if_pos (by simp; omega), if_pos rfl, if_pos rfl, if_pos (by simp), toL_data]; rfl
  · rw [if_neg (by simpa using c)] at h1
    rw [if_neg (by simpa using c)] at h2
    unfold wdone at h2
    rw [if_neg (by omega)] at h2
    refine Ev.step (fun k => ?_) (Ev.bind h1 (f := fun k bt256 => ((fields_Write.f k ((List.replicate n kv).map toS)).bind fun bt260 => (if (((List.replicate n kv).map toS).length : Int) > 32 then (if bt256.2 = 4 then (if bt260.2 = 4 then (if (bt256.1.length : Int) = 0 then (some (bt260.1.toList == ([] : List UInt8))) else (some false)) else (some false)) else (some false)) else (if bt256.2 = 0 then (if bt260.2 = 0 then (some ((bt256.1.length : Int) == (((List.replicate n kv).map toS).length : Int))) else (some false)) else (some false)))))
      (Ev.bind h2 (Ev.congr (fun k => ?_) (Ev.now _))))
    · rw [pennantlaw21_FieldsMany.l0, if_neg (by omega)]
    · rw [if_neg (by simp; omega), if_pos rfl, if_pos rfl]; simp
theorem put_bytes (a : List UInt8) (b : Array UInt8) : (⟨a.toArray⟩ : ByteArray) ++ (⟨b⟩ : ByteArray) = ⟨(a ++ b.toList).toArray⟩ := by
  apply ByteArray.ext
  simp
theorem many_loop (e : Bool) (n : Nat) (hn : n ≤ 70) : ∀ (d i : Nat), i + d = n → Ev (fun k => pennantlaw21_FieldsMany.l0 k e ⟨(manyL e i).toArray⟩ ((List.replicate i kv).map toS) (n : Int) (i : Int)) true
  | 0, i, h => by
    obtain rfl : i = n := by omega
    exact many_end e i hn
  | d + 1, i, h => by
    have ih := many_loop e n hn d (i + 1) (by omega)
    have e1 : wrap64 ((i : Int) + 1) = ((i + 1 : Nat) : Int) := wrap_nat (by omega) (by omega)
    have hl := many_len e i
    have er : (List.replicate i kv).map toS ++ [(⟨(⟨#[107]⟩ : ByteArray), (⟨#[118]⟩ : ByteArray)⟩ : S34)] = (List.replicate (i + 1) kv).map toS := by
      rw [List.replicate_succ', List.map_append]; rfl
    refine Ev.step (fun k => ?_) ih
    have hll : ((List.replicate i kv).map toS).length < 4398046511104 := by simp; omega
    cases i with
    | zero =>
      rw [pennantlaw21_FieldsMany.l0, if_pos (by omega), if_neg (by decide), if_pos (by rw [size_mk]; omega)]
      cases e with
      | true =>
        rw [if_pos rfl, if_pos (by rw [size_mk]; omega), if_pos hll, er, e1, put_bytes, put_bytes]; rfl
      | false =>
        rw [if_neg (by decide), if_pos hll, er, e1, put_bytes]; rfl
    | succ j =>
      rw [pennantlaw21_FieldsMany.l0, if_pos (by omega), if_pos (by omega), if_pos (by rw [size_mk]; omega), if_pos (by rw [size_mk]; omega)]
      cases e with
      | true =>
        rw [if_pos rfl, if_pos (by rw [size_mk]; omega), if_pos hll, er, e1, put_bytes, put_bytes, put_bytes]
        rw [show manyL true (j + 1 + 1) = manyL true (j + 1) ++ [38] ++ [107, 61, 118] ++ [38] by rw [manyL]; simp [tail]]
      | false =>
        rw [if_neg (by decide), if_pos hll, er, e1, put_bytes, put_bytes]
        rw [show manyL false (j + 1 + 1) = manyL false (j + 1) ++ [38] ++ [107, 61, 118] by rw [manyL]; simp [tail]]
theorem FieldsMany : pennantlaw21_FieldsMany.Pure := by
  intro n e hn
  obtain ⟨h0, h1⟩ : 0 ≤ n ∧ n ≤ 255 := bounds_u8 hn
  obtain ⟨k, rfl⟩ := Int.eq_ofNat_of_zero_le h0
  have e1 : Int.tmod (k : Int) 70 = ((k % 70 : Nat) : Int) := by rw [Int.tmod_eq_emod_of_nonneg (by omega)]; rfl
  have e2 : wrap64 ((k % 70 : Nat) : Int) = ((k % 70 : Nat) : Int) := by unfold wrap64; omega
  have h := many_loop e (k % 70) (by omega) (k % 70) 0 (by omega)
  obtain ⟨K0, g0⟩ := awake_ev
  obtain ⟨K1, g1⟩ := h
  simp only at g0 g1
  refine ⟨K0 + K1, ?_⟩
  unfold pennantlaw21_FieldsMany.f
  rw [g0 _ (by omega), bsome, if_pos rfl, e1, e2]
  exact g1 _ (by omega)
end Go.Proofs.YtmddmlmmmgbejaaDoor.Pure
