/- The library's functions and the two that go through a builder, in the form in which the printed callers read their contracts. -/
import Derived.Test.YtmddmlmmmgbejaaDoorHandB
import Derived.Lib.SplitLaws
namespace Go.Proofs.YtmddmlmmmgbejaaDoor.Hand
open Go.RowKit Go.Proofs.YtmddmlmmmgbejaaDoorW.PrintWords Go.Proofs.YtmddmlmmmgbejaaDoorW.PrintLast Go.Proofs.YtmddmlmmmgbejaaDoorW.PrintMore
set_option linter.unusedVariables false
set_option linter.unusedSimpArgs false

/-- internal/bytealg.MaxLen holds a number. -/
abbrev Tabs (w : World) : Prop := ∃ m : Int, w.cell? ⟨0, 0, none⟩ = some (.int .i64 m)
theorem Tabs_below {w w' : World} (h : Tabs w) (hb : Below w.heap.size w w') : Tabs w' := by
  obtain ⟨m, hm⟩ := h
  refine ⟨m, ?_⟩
  have h0 : 0 < w.heap.size := by
    by_cases c : 0 < w.heap.size
    · exact c
    · have : w.heap[0]? = none := Array.getElem?_eq_none (by omega)
      simp [World.cell?, this] at hm
  rw [← hm]
  unfold World.cell?
  rw [hb.block 0 h0]

def strings_Cut.f (a0 a1 : ByteArray) : Option (ByteArray × ByteArray × Bool) :=
  if a0.size < 4294967281 then some (⟨(Lib.cut a0.data.toList a1.data.toList).1.toArray⟩, ⟨(Lib.cut a0.data.toList a1.data.toList).2.1.toArray⟩, (Lib.cut a0.data.toList a1.data.toList).2.2) else none
theorem strings_Cut.calls (a0 a1 : ByteArray) (r1 r2 : ByteArray) (r3 : Bool) (w : World) (hT_ : Tabs w) (h : strings_Cut.f a0 a1 = some (r1, r2, r3)) :
    Calls Tryd.prog 18 #[.string a0, .string a1] w fun e w' => e = .returned (.tuple #[.string r1, .string r2, .bool r3]) ∧ Below w.heap.size w w' := by
  unfold strings_Cut.f at h
  split at h
  case isFalse => cases h
  rename_i hs
  simp only [Option.some.injEq, Prod.mk.injEq] at h
  obtain ⟨rfl, rfl, rfl⟩ := h
  obtain ⟨m, hm⟩ := hT_
  refine (Tryd.strings_Cut a0 a1 m w hs hm).mono ?_
  rintro e w' ⟨rfl, n, rfl⟩
  exact ⟨rfl, by apply pw_below_drewN; exact Below.refl _ _⟩

def strings_Split.f (a0 a1 : ByteArray) : Option (List ByteArray) := if a0.size < 4294967281 ∧ 1 ≤ a1.size then some (Lib.splitB a1 0 (Lib.countB a0 a1) a0) else none
theorem reps_string (l : List ByteArray) {w : World} {base : Nat} {ok : Nat → Prop} : Reps (Kd.string.M w base ok) 1 l (l.map Value.string) := by
  refine ⟨by simp, fun j p hj => ?_⟩
  show _ = [Value.string p]
  rw [Nat.mul_one, ← List.map_drop, ← List.map_take]
  have hl : j < l.length := (List.getElem?_eq_some_iff.1 hj).1
  rw [List.drop_eq_getElem_cons hl]
  have e : l[j] = p := (List.getElem?_eq_some_iff.1 hj).2
  simp [e]
theorem strings_Split.calls (a0 a1 : ByteArray) (r : List ByteArray) (w : World) (hT_ : Tabs w) (h : strings_Split.f a0 a1 = some r) :
    Calls Tryd.prog 17 #[.string a0, .string a1] w fun e w' => ∃ v0_ : Value, e = .returned (v0_) ∧ Kd.R Kd.string 9 w' w.heap.size (fun _ => True) v0_ r ∧ Below w.heap.size w w' := by
  unfold strings_Split.f at h
  split at h
  case isFalse => cases h
  rename_i hs
  simp only [Option.some.injEq] at h
  subst h
  obtain ⟨m, hm⟩ := hT_
  have hlen := Lib.splitB_all a1 hs.2 0 (Lib.countB a0 a1) a0 rfl
  have hle := Lib.countB_le a1 hs.2 a0.size a0 (Nat.le_refl _)
  refine (Tryd.strings_Split a0 a1 m w hs.1 hm hs.2).mono ?_
  rintro e w' ⟨rfl, rfl⟩
  refine ⟨_, rfl, ⟨fun _ _ => trivial, ?_⟩, Below.alloc (Below.refl _ _) (Nat.le_refl _) _⟩
  rw [← hlen]
  exact OwnRow.lit w w.heap.size (reps_string _) (Nat.le_refl _) (by omega)

def strings_Join.f (l0 : List ByteArray) (a1 : ByteArray) : Option ByteArray :=
  if (Lib.join (l0.map (·.data.toList)) a1.data.toList).length ≤ 140737488355328 ∧ l0.length ≤ 140737488355328 then some ⟨(Lib.join (l0.map (·.data.toList)) a1.data.toList).toArray⟩ else none
theorem strings_Join.calls (A0 : Option Addr) (c0 : Nat) (l0 : List ByteArray) (a1 : ByteArray) (r : ByteArray) (w : World) (hr0 : Kd.C Kd.string w A0 l0.length l0) (hc0 : l0.length ≤ c0) (h : strings_Join.f l0 a1 = some r) :
    Calls Tryd.prog 22 #[.slice A0 l0.length c0, .string a1] w fun e w' => e = .returned (.string r) ∧ Below w.heap.size w w' := by
  unfold strings_Join.f at h
  split at h
  case isFalse => cases h
  rename_i hs
  simp only [Option.some.injEq] at h
  subst h
  by_cases c : l0 = []
  · subst c
    refine (Tryd.strings_Join_none A0 c0 a1 w).mono ?_
    rintro e w' ⟨rfl, rfl⟩
    exact ⟨rfl, Below.refl _ _⟩
  · have hpos : 0 < l0.length := List.length_pos_iff.2 c
    obtain ⟨ad, rfl, hcell⟩ := hr0.2.2 hpos
    have hx : ∀ (j : Nat) x, l0[j]? = some x → w.cell? (ad.add j) = some (.string x) := by
      intro j x hj
      obtain ⟨cs, _, hK, hc⟩ := hcell j x hj
      have hK' : cs = [Value.string x] := hK
      subst hK'
      have := hc 0 _ rfl
      simpa [Kd.string, Kd.scalar] using this
    obtain ⟨bk, o, sp⟩ := ad
    have h0 := hx 0 l0[0] (List.getElem?_eq_getElem hpos)
    have hsp : sp = none := by
      cases sp with
      | none => rfl
      | some q =>
        simp only [Addr.add, if_true, World.cell?] at h0
        split at h0 <;> simp at h0
    subst hsp
    have hbk : bk < w.heap.size := by
      by_cases c2 : bk < w.heap.size
      · exact c2
      · have : w.heap[bk]? = none := Array.getElem?_eq_none (by omega)
        simp [Addr.add, World.cell?, this] at h0
    refine (Tryd.strings_Join bk o c0 l0 a1 w (fun j x hj => ?_) hbk hs.2 hc0 hs.1)
    have h1 := hx j x hj
    unfold Addr.add at h1
    split at h1
    · rename_i e
      subst e
      exact h1
    · exact h1
theorem plain_mono_l (s : ByteArray) : ∀ k x acc, LeO (plainGo s k x acc) (plainGo s (k + 1) x acc)
  | 0, x, acc => fun r h => by simp [plainGo] at h
  | k + 1, x, acc => by
    have ih := plain_mono_l s k
    rw [plainGo, plainGo]
    repeat' first
      | (with_reducible exact ih _ _)
      | (with_reducible exact LeO.refl _)
      | (with_reducible exact LeO.none _)
      | (with_reducible refine LeO.ite ?_ ?_)
theorem fields_plain.mono : ∀ a0 k, LeO (fields_plain.f k a0) (fields_plain.f (k + 1) a0) := fun a0 k => plain_mono_l a0 k 0 []
end Go.Proofs.YtmddmlmmmgbejaaDoor.Hand
