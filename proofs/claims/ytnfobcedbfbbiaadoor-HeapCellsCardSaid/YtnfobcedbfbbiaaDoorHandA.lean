/- The law of make([]T, 0, m) as a row of the call's own with no element, and the contract of unicode/utf8.DecodeRuneInString at every string, under the library's two tables as they are laid. -/
import Derived.Test.YtnfobcedbfbbiaaDoorShelf
import Derived.Test.YtnfobcedbfbbiaaDoorWWords
import Derived.Test.YtnfobcedbfbbiaaDoorWMore
import Derived.WalkKit
import Derived.Shelf.Unicode.PredsPay
import Derived.KernelRfl
import Derived.Below
import Derived.Laws.BitsLemmas
namespace Go.Proofs.YtnfobcedbfbbiaaDoor.Hand
open Go.RowKit Go.Proofs.YtnfobcedbfbbiaaDoorW.PrintWords Go.Proofs.YtnfobcedbfbbiaaDoorW.PrintLast Go.Proofs.YtnfobcedbfbbiaaDoorW.PrintMore
set_option linter.unusedVariables false
section
variable {P : Program} {ops : Array Oper} {rest : List Oper} {o : Oper} {a : Act} {Q : Exit → Act → World → Prop} {α : Type}
theorem R_make0 (d : Kd α) {w0 W : World} (base e : Nat) (hgd : o.guard = none) {N : Tmp} (hd : o.dst = some N) (t : TypeId) (x y : Operand) (ho : o.op = .makeSlice t x y) (n : Int) (hx : a.eval x = .int .i64 0) (hy : a.eval y = .int .i64 n)
    (ht : P.underlying t = some (.slice e)) (z : Value) (bytes : Nat) (hinfo : (P.info? e).map (fun i => (i.zero, i.size, i.bytes)) = some (some z, d.sz, bytes)) (hz : z.cells.size = d.sz) (hs0 : 0 < d.sz) (hb0 : 0 < bytes)
    {ok : Nat → Prop} (hfresh : ok W.heap.size) (h0 : 0 ≤ n) (hl : n.toNat * bytes ≤ 281474976710656) (HB : Below base w0 W) (hbase : base ≤ W.heap.size)
    (h : ∀ v1 w1, d.R e w1 base ok v1 [] → Below base w0 w1 → W.grownBy w1 none → (∃ b, v1.ownBlock = some b ∧ W.heap.size ≤ b) → wpList P ops Q rest (a.put o.dst v1) w1) : wpList P ops Q (o :: rest) a W := by
  obtain ⟨m, rfl⟩ := Int.eq_ofNat_of_zero_le h0
  simp only [Int.toNat_natCast] at hl h
  obtain ⟨i0, hi, hzz⟩ := Option.map_eq_some_iff.1 hinfo
  simp only [Prod.mk.injEq] at hzz
  obtain ⟨hz0, hz1, hz2⟩ := hzz
  have hm : m ≤ 281474976710656 := Nat.le_trans (Nat.le_mul_of_pos_right _ hb0) hl
  have hr := run_make (P := P) W t e i0 z ht hi hz0 .i64 .i64 0 (m : Int) (by omega) (by omega)
    (by
      have h3 : ((i0.bytes * m : Nat) : Int) ≤ 281474976710656 := by rw [hz2, Nat.mul_comm]; omega
      rwa [Int.natCast_mul] at h3) (by omega)
  simp only [Int.toNat_natCast] at hr
  rw [hz1] at hr
  refine Kd.event_run hgd (w1 := W.alloc (.cells (madeCells z.cells (m * d.sz)) e)) (v := .slice (some ⟨W.heap.size, 0, none⟩) 0 m) (by simp [execOp, ho, hx, hy, hr]) (h _ _ ⟨fun k hk => ?_, [], ?_, Reps.none _ _⟩ (HB.alloc hbase _) (World.grownBy_alloc W _ none) ⟨W.heap.size, by simp [Value.ownBlock], Nat.le_refl _⟩)
  · have : W.heap.size = k := by simpa [Value.ownBlock] using hk
    subst this
    exact hfresh
  · refine ⟨by simp, .inr ⟨W.heap.size, m, madeCells z.cells (m * d.sz), rfl, hbase, ?_, Nat.zero_le _, ?_, ?_, ?_⟩⟩
    · simpa using heap_alloc_new W _
    · simp [maxLen]; omega
    · simp [size_madeCells]
    · simp
end
theorem or128_and63 (a : Int) : Go.bits .or .u8 128 (Go.bits .and .u8 (a % 256) 63) = 128 + a % 64 := by
  rw [u8_and63 (x := a % 256) (by omega) (by omega), u8_or128 (y := a % 256 % 64) (by omega) (by omega)]
  omega
theorem gPow : Tryd.prog.globalNamed "internal/strconv.uint64pow10" = some 3 := by kernel_rfl
/-- The library's tables, as they are laid. -/
structure Tabs (w : World) : Prop where
  utf : Lib.Utf8Tabs 1 2 w
  pow : Lib.TabIs Tryd.prog w "internal/strconv.uint64pow10" .u64 Lib.pow10Tab
theorem Tabs_below {w w' : World} (h : Tabs w) (hb : Below w.heap.size w w') : Tabs w' := ⟨Utf8Tabs_below h.utf hb, TabIs_below gPow h.pow hb⟩

def s_pos (s : ByteArray) : Prop := 0 < s.size
theorem decodeGo_ascii (s : ByteArray) (h : 0 < s.size) (hx : (s[0]'h).toNat < 128) : Lib.decodeGo s = ((s[0]'h).toNat, 1) := by
  unfold Lib.decodeGo
  rw [if_neg (by omega), Lib.decode_at, Utf8W.get!_of_lt s 0 h]
  unfold Lib.decodeN
  rw [if_pos hx]

def utf8_DecodeRuneInString.f (a0 : ByteArray) : Option (Int × Int) := some (((Lib.decodeGo a0).1 : Int), ((Lib.decodeGo a0).2 : Int))
set_option maxHeartbeats 1000000 in
theorem utf8_DecodeRuneInString.calls (a0 : ByteArray) (r1 r2 : Int) (w : World) (hT_ : Tabs w) (h : utf8_DecodeRuneInString.f a0 = some (r1, r2)) :
    Calls Tryd.prog 61 #[.string a0] w fun e w' => e = .returned (.tuple #[.int .i32 r1, .int .i64 r2]) ∧ Below w.heap.size w w' := by
  simp only [utf8_DecodeRuneInString.f, Option.some.injEq, Prod.mk.injEq] at h
  obtain ⟨rfl, rfl⟩ := h
  by_cases h0 : s_pos a0
  · have h0' := h0
    unfold s_pos at h0
    have hne : a0.toList.isEmpty = false := by
      rw [Lib.toList_data]
      cases h : a0.data.toList with
      | nil => rw [Lib.size_eq, h] at h0; simp at h0
      | cons _ _ => rfl
    have hszz : (0 : Int) < (a0.size : Int) := by omega
    by_cases hx : (a0[0]'h0).toNat < 128
    · have hxz : ((a0[0]'h0).toNat : Int) < 128 := by omega
      have e : Lib.decodeGo a0 = ((a0[0]'h0).toNat, 1) := decodeGo_ascii a0 h0 hx
      rw [e]
      go_enter Tryd.func61, Tryd.ntmps61
      go_wp2
      repeat (go_quiet (fail); try go_wp2)
      go_ret2
      exact ⟨rfl, by repeat (first | exact Below.refl _ _ | apply below_alloc | apply pw_below_drewN | apply below_drew)⟩
    · have hxz : ¬ ((a0[0]'h0).toNat : Int) < 128 := by omega
      clear hx
      have HD := Aside0.mk (Tryd.utf8_decodeRuneInStringSlow a0 w hT_.utf)
      clear hT_
      go_enter Tryd.func61, Tryd.ntmps61
      go_wp2_with (go_at_call 66; refine (HD.out).mono ?_; rintro e w' ⟨rfl, hb⟩)
      go_ret2
      exact ⟨rfl, by assumption⟩
  · have hz : a0.toList = [] := by
      unfold s_pos at h0
      rw [Lib.toList_data]
      rw [Lib.size_eq] at h0
      exact List.eq_nil_of_length_eq_zero (by omega)
    have hne : a0.toList.isEmpty = true := by rw [hz]; rfl
    have HD := Aside0.mk (Tryd.utf8_decodeRuneInStringSlow a0 w hT_.utf)
    clear hT_ h0
    go_enter Tryd.func61, Tryd.ntmps61
    go_wp2_with (go_at_call 66; refine (HD.out).mono ?_; rintro e w' ⟨rfl, hb⟩)
    go_ret2
    exact ⟨rfl, by assumption⟩

theorem below_grow (w : World) (q : Nat) (os : Array Obj) : Below w.heap.size w (Sort.grow (w.drewN q) os) :=
  ⟨rfl, rfl, rfl, by show w.heap.size ≤ (w.heap ++ os).size; simp, fun i hi => by
    show ((w.drewN q).heap ++ os)[i]? = _
    rw [Array.getElem?_append_left (by show i < w.heap.size; omega)]
    rfl⟩
/-- A number's digits. -/
def strconv_Itoa_35.f (a0 : Int) : Option ByteArray := if -9223372036854775808 ≤ a0 then (if a0 ≤ 9223372036854775807 then some ⟨(Lib.itoa a0).toArray⟩ else none) else none
theorem strconv_Itoa_35.calls (a0 : Int) (r : ByteArray) (w : World) (hT_ : Tabs w) (h : strconv_Itoa_35.f a0 = some r) :
    Calls Tryd.prog 35 #[.int .i64 a0] w fun e w' => e = .returned (.string r) ∧ Below w.heap.size w w' := by
  unfold strconv_Itoa_35.f at h
  split at h
  case isFalse => cases h
  split at h
  case isFalse => cases h
  rename_i h0 h1
  obtain rfl := Option.some.inj h
  refine (Tryd.strconv_Itoa a0 h0 h1 w hT_.pow).mono ?_
  rintro e w' ⟨rfl, k, os, rfl⟩
  exact ⟨rfl, below_grow w k os⟩
end Go.Proofs.YtnfobcedbfbbiaaDoor.Hand
