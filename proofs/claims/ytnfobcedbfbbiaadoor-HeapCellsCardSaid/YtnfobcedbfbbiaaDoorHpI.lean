/- Keys. -/
import Derived.Test.YtnfobcedbfbbiaaDoorHpH
namespace Go.Proofs.YtnfobcedbfbbiaaDoor.Hp
open Go.RowKit Go.Proofs.YtnfobcedbfbbiaaDoorW.PrintWords Go.Proofs.YtnfobcedbfbbiaaDoorW.PrintLast Go.Proofs.YtnfobcedbfbbiaaDoorW.PrintMore Go.Proofs.YtnfobcedbfbbiaaDoor.Hand Go.Proofs.YtnfobcedbfbbiaaDoor.PIx Go.Proofs.YtnfobcedbfbbiaaDoor.Pure
set_option linter.unusedVariables false
set_option linter.unusedSimpArgs false
/-- A number's key. -/
def key10 (n : Nat) : ByteArray := bytesOf (wideL (Lib.itoa (n : Int)))
def keyL (k : Nat) : List ByteArray := (List.range k).map key10
theorem keyL_succ (k : Nat) : keyL (k + 1) = keyL k ++ [key10 k] := by unfold keyL; rw [List.range_succ, List.map_append]; rfl
theorem keyL_len (k : Nat) : (keyL k).length = k := by unfold keyL; simp
theorem key10_calls (n : Nat) (hn : n ≤ 1000000) (w : World) (hT : Tabs w) : Calls Tryd.prog 11 #[.int .i64 n] w fun e w' => e = .returned (.string (key10 n)) ∧ Below w.heap.size w w' := by
  obtain ⟨K, g⟩ := (key_is (n : Int) (by omega) (by omega)).rounds
  exact esheap_Key.calls K n _ w hT g
/-- An object's keys, told. -/
def keysS (o : OSt) : List ByteArray := keyL o.items.length ++ o.keys
def KeysPost (ks : List ByteArray) (w : World) (e : Ending) (w' : World) : Prop := ∃ v1, e = .returned v1 ∧ w'.ownsRow w.heap.size 9 1 v1 ks.length (ks.map Value.string) ∧ Below w.heap.size w w'
theorem keys_none {w : World} {B p : Nat} {K : List (Nat × Obj)} {σ : HSt} {ov : Value} {Ls : List Lay} (h : HeapAt w B K p σ ov Ls) (hf : Fit σ) (i : Int) (ho : objS σ i = none) :
    Calls Tryd.prog 18 #[.pointer (some ⟨p, 0, none⟩), .int .i64 i] w (KeysPost [] w) := by
  have HC := Aside0.mk (at_nil h (by have := hf.objs; have := h.len; omega) i (by rw [h.len]; exact objS_none ho))
  clear h hf ho
  go_enter Tryd.func18, Tryd.ntmps18
  go_wp2_with (go_at_call 40; refine (HC.out).mono ?_; rintro e w' ⟨rfl, rfl⟩)
  go_ret
  exact ⟨_, rfl, own_nil _ _ _ _, Below.refl _ _⟩
theorem run_append_none (w : World) (base : Nat) (ty : TypeId) (v : Value) (n : Nat) (xs : List Value) (hown : w.ownsRow base 9 1 v n xs) :
    (Builtin.append_ #[41, 41] ty #[v, .slice none 0 0]).run Tryd.prog w = .ok v w := by
  obtain ⟨i, hi, hzz⟩ := Option.map_eq_some_iff.1 info9
  obtain ⟨A, c, rfl⟩ := own_slice hown
  have hle := own_le hown
  cases A with
  | none => simp [Builtin.append_, run_underlying Tryd.underlying41, sizeOf, typeInfo, hi, Builtin.lenOf, hle, Builtin.firstCells]
  | some a => simp [Builtin.append_, run_underlying Tryd.underlying41, sizeOf, typeInfo, hi, Builtin.lenOf, hle, Builtin.firstCells, storeCells]
structure HeapFit (a b : Nat) : Prop where
  one : a ≤ 100000
  two : b ≤ 100000
set_option maxHeartbeats 4000000 in
set_option maxRecDepth 100000 in
theorem keys_some {w : World} {B p : Nat} {K : List (Nat × Obj)} {σ : HSt} {ov : Value} {Ls : List Lay} (h : HeapAt w B K p σ ov Ls) (hf : Fit σ) (hT : Tabs w) (i : Int) (o : OSt) (ho : objS σ i = some o) (hi : o.items.length ≤ 100000) (hks : o.keys.length ≤ 100000) :
    Calls Tryd.prog 18 #[.pointer (some ⟨p, 0, none⟩), .int .i64 i] w (KeysPost (keysS o) w) := by
  obtain ⟨L, hL, h0, hobj⟩ := h.obj ho
  have HC := Aside0.mk (at_obj h (by have := hf.objs; have := h.len; omega) i h0 hL)
  obtain ⟨x0, x1, x5, x6, x7⟩ := hobj.cell
  obtain ⟨A, c, hiv⟩ := own_slice hobj.items
  rw [hiv] at x7
  have HOBJ := Aside0.mk hobj
  have HB := Aside0.mk (Below.refl w.heap.size w)
  have HT := Aside0.mk hT
  have HI := Aside0.mk hi
  have HKS := Aside0.mk hks
  have HOB := Aside0.mk (h.feet_lt _ (mem_feet_lay (List.mem_of_getElem? hL) mem_ob))
  have X5 := Aside0.mk x5
  clear h hf hL h0 hobj x0 x1 x6 hiv hT hi hks ho x5
  go_enter Tryd.func18, Tryd.ntmps18
  go_wp2_with (go_at_call 40; refine (HC.out).mono ?_; rintro e w' ⟨rfl, hw⟩; subst w')
  go_loopg [6, 18] (o.items.length + 1) (fun kq v6 v18 w' => ∃ k : Nat, v18 = .int .i64 k ∧ Aside0 (k + kq = o.items.length + 1 ∧ k ≤ o.items.length) ∧ Aside0 (w'.ownsRow w.heap.size 9 1 v6 (keyL k).length ((keyL k).map Value.string)) ∧ Aside0 (Below w.heap.size w w'))
  case atStart => exact ⟨0, rfl, ⟨by omega, by omega⟩, ⟨own_nil _ _ _ _⟩, HB⟩
  case round =>
    clear HB
    obtain ⟨k, rfl, HK, HO, HB⟩ := hrel
    obtain ⟨A6, c6, rfl⟩ := own_slice HO.out
    by_cases c1 : k < o.items.length
    · have d1 : decide ((k : Int) < (o.items.length : Int)) = true := decide_eq_true (by omega)
      have HC1 := Aside0.mk c1
      have HKey := Aside0.mk (key10_calls k (by have := HI.out; omega) wr (Tabs_below HT.out HB.out))
      have hsz := HB.out.size
      have HSZ := Aside0.mk hsz
      have HE := Aside0.mk (show IntKind.i64.wrap ((k : Int) + 1) = ((k + 1 : Nat) : Int) by rw [IntKind.wrap_i64]; have := HI.out; omega)
      have HE2 := Aside0.mk (show wrap64 ((k : Int) + 1) = ((k + 1 : Nat) : Int) by have := HI.out; unfold wrap64; omega)
      have HLen := Aside0.mk (keyL_len k)
      cases gk with
      | zero => exact absurd HK.out (by omega)
      | succ k1 =>
        clear hsz
        go_upto_region 9 with (first | (go_at_call 11; go_must (refine (HKey.out).mono ?_; rintro e w5 ⟨rfl, hb⟩; have HB5 := Aside0.mk (below_step HB.out hb); have HO5 := Aside0.mk (own_move HO.out (fun q hq => hb.block q (own_lt HO.out q hq))); clear hb HKey HB HO)) | (at_builtin; go_must (refine print_append (w0 := w) (W := w5) w.heap.size rfl _ _ 41 9 (.string ⟨#[]⟩) 16 rfl Tryd.underlying41 info9 rfl (by decide) _ ((keyL k).map Value.string) (.string (key10 k)) rfl rfl rfl (by rw [List.length_map]; exact HO5.out) HB5.out HB5.out.size (by rw [List.length_map, HLen.out]; have := HI.out; have := HK.out; omega) ?_; intro v1 w6 hown hbel hg hat; rw [show (keyL k).map Value.string ++ [Value.string (key10 k)] = (keyL (k + 1)).map Value.string by rw [keyL_succ, List.map_append]; rfl] at hown; have HO6 := Aside0.mk hown; have HB6 := Aside0.mk hbel; clear hown hbel hg hat)))
        go_wp2
        go_roundg k1
        case measure => have := HK.out; omega
        case rel => exact ⟨k + 1, by first | rw [HE.out] | rw [HE2.out], ⟨by have := HK.out; omega, by have := HC1.out; omega⟩, ⟨by have := HO6.out; rw [List.length_map] at this; exact this⟩, HB6⟩
    · have d1 : decide (k < o.items.length) = false := decide_eq_false c1
      have HKN := Aside0.mk (show k = o.items.length by have := HK.out; omega)
      have hobw : wr.heap[L.ob]? = w.heap[L.ob]? := HB.out.block L.ob HOB.out
      have x5 : wr.cell? ⟨L.ob, 5, none⟩ = some L.kv := (World.cell?_of_block (a := ⟨L.ob, 5, none⟩) hobw).trans X5.out
      have hkv := own_move HOBJ.out.keys (fun q hq => HB.out.block q (own_lt HOBJ.out.keys q hq))
      have HOL := Aside0.mk (show HeapFit (keyL k).length o.keys.length by rw [keyL_len]; exact ⟨by have := HKN.out; have := HI.out; omega, HKS.out⟩)
      rcases hkv.2 with ⟨e0, e1⟩ | ⟨g, cap, cur, e0, hbg, hg, hnc, hcm, hcs, htake⟩
      · have HR := Aside0.mk (run_append_none wr w.heap.size 41 (.slice A6 (keyL k).length c6) (keyL k).length _ HO.out)
        rw [e0] at x5
        have HE := Aside0.mk (show keysS o = keyL k by unfold keysS; rw [List.eq_nil_of_length_eq_zero e1, List.append_nil, HKN.out])
        clear hkv hobw e0
        go_upto_region 10 with (fail)
        go_wp2_with (at_builtin; go_must (refine Lib.wpList_append_run _ rfl _ _ 41 41 rfl _ _ rfl rfl _ _ HR.out ?_))
        go_ret
        exact ⟨_, rfl, by rw [HE.out]; exact HO.out, HB.out⟩
      · rw [e0] at x5
        have hcells : ∀ j u, (o.keys.map Value.string)[j]? = some u → wr.cell? ((⟨g, 0, none⟩ : Addr).add j) = some u := World.ownsRow.cells (g := g) hkv (by rw [e0]; rfl)
        obtain ⟨i0, hi0, hzz⟩ := Option.map_eq_some_iff.1 info9
        simp only [Prod.mk.injEq] at hzz
        obtain ⟨hz0, hz1, hz2⟩ := hzz
        have HI0 := Aside0.mk hi0
        have HZ0 := Aside0.mk hz0
        have HZ1 := Aside0.mk hz1
        have HZ2 := Aside0.mk hz2
        have HCells := Aside0.mk hcells
        clear hkv hobw e0 hcells hi0 hz0 hz1 hz2 hcs htake hg hbg
        go_upto_region 10 with (fail)
        go_wp2_with (at_builtin; go_must (refine wpList_append_own_at (w := wr) rfl _ _ 41 rfl w.heap.size 9 i0 _ 1 16 Tryd.underlying41 HI0.out HZ0.out HZ1.out HZ2.out rfl (by decide) _ (keyL k).length _ rfl HO.out ⟨g, 0, none⟩ o.keys.length cap (o.keys.map Value.string) rfl (by rw [List.length_map, Nat.mul_one]) HCells.out (fun u hu => by obtain ⟨x, _, rfl⟩ := List.mem_map.1 hu; rfl) (by have := HOL.out.one; have := HOL.out.two; simp only [maxLen]; omega) (by have := HOL.out.one; have := HOL.out.two; omega) HB.out.size ?_; intro v1 w6 hown hg _ _; have HO6 := Aside0.mk hown; have HG6 := Aside0.mk hg; clear hown hg))
        go_ret
        refine ⟨_, rfl, ?_, HB.out.grown HG6.out HB.out.size (fun q hq => own_base HO.out q hq)⟩
        have := HO6.out
        rw [← List.map_append] at this
        unfold keysS
        rw [← HKN.out, List.length_append]
        exact this
end Go.Proofs.YtnfobcedbfbbiaaDoor.Hp
