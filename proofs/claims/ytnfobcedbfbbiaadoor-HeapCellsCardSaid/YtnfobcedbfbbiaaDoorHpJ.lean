/- slices.DeleteFunc at this program; the closure of Drop; Drop. -/
import Derived.Test.YtnfobcedbfbbiaaDoorHpI
import Derived.Shelf.SlicesE.DeleteFunc
import Derived.Lib.OwnBridge
import Derived.Lib.SliceRun
namespace Go.Proofs
open Go.Shelf
def Tryd.laysH10_ren : Go.Shelf.Ren := ⟨fun | 6 => 60 | 10 => 46 | n => n, fun | 22 => 41 | 23 => 9 | 25 => 85 | 0 => 0 | 3 => 3 | 4 => 4 | n => n, fun | n => n⟩
theorem Tryd.laysH10 : Go.Proofs.SlLaysH.n10 Tryd.prog Tryd.laysH10_ren := {
  mixed := by kernel_rfl
  f6 := ⟨Tryd.f60.name, by kernel_rfl, Tryd.func60.trans (congrArg some (by kernel_rfl))⟩
  f10 := ⟨Tryd.f46.name, by kernel_rfl, Tryd.func46.trans (congrArg some (by kernel_rfl))⟩
  t0 := Tryd.underlying0
  a0 := Tryd.isAgg0
  z0 := Tryd.sizeOf0
  v0 := Tryd.zeroValue0
  t3 := Tryd.underlying3
  a3 := Tryd.isAgg3
  z3 := Tryd.sizeOf3
  v3 := Tryd.zeroValue3
  t4 := Tryd.underlying4
  a4 := Tryd.isAgg4
  z4 := Tryd.sizeOf4
  v4 := Tryd.zeroValue4
  t22 := Tryd.underlying41
  a22 := Tryd.isAgg41
  z22 := Tryd.sizeOf41
  v22 := Tryd.zeroValue41
  a23 := Tryd.isAgg9
  z23 := Tryd.sizeOf9
  t25 := Tryd.underlying85
  a25 := Tryd.isAgg85
  z25 := Tryd.sizeOf85
  v25 := Tryd.zeroValue85 }
end Go.Proofs
namespace Go.Proofs.YtnfobcedbfbbiaaDoor.Hp
open Go.RowKit Go.Lib Go.Sort Go.Proofs.YtnfobcedbfbbiaaDoorW.PrintWords Go.Proofs.YtnfobcedbfbbiaaDoorW.PrintLast Go.Proofs.YtnfobcedbfbbiaaDoorW.PrintMore Go.Proofs.YtnfobcedbfbbiaaDoor.Hand Go.Proofs.YtnfobcedbfbbiaaDoor.PIx Go.Proofs.YtnfobcedbfbbiaaDoor.Pure
set_option linter.unusedVariables false
set_option linter.unusedSimpArgs false
theorem gives47 (key x : ByteArray) (b : Nat) (W : World) (hc : W.cell? ⟨b, 0, none⟩ = some (.string key)) :
    FnGives Tryd.prog 47 #[.pointer (some ⟨b, 0, none⟩)] #[.string x] (.bool (x.toList == key.toList)) W := by
  show Calls Tryd.prog 47 #[.string x, .pointer (some ⟨b, 0, none⟩)] W _
  go_enter Tryd.func47, Tryd.ntmps47
  go_wp2
  go_ret
  exact ⟨rfl, 0, rfl⟩
theorem pred47 (key : ByteArray) (b : Nat) (w : World) (hB : b < w.heap.size) (hcell : w.cell? ⟨b, 0, none⟩ = some (.string key)) :
    PredAt Tryd.prog 47 #[.pointer (some ⟨b, 0, none⟩)] Value.string (fun x => x.toList == key.toList) w :=
  fun W x hb => gives47 key x b W ((hb.cell (p := ⟨b, 0, none⟩) hB).trans hcell)
theorem over47 (key : ByteArray) (b blk off size : Nat) (w : World) (hB : b < w.heap.size) (hne : b ≠ blk) (hcell : w.cell? ⟨b, 0, none⟩ = some (.string key)) :
    PredOver Tryd.prog 47 #[.pointer (some ⟨b, 0, none⟩)] Value.string (fun x => x.toList == key.toList) blk off size w :=
  fun n os dk x _ => gives47 key x b _ (by
    unfold sortWorld
    rw [cell?_grow _ _ _ (by show b < (putRow _ _ _ _ _).heap.size; rw [size_putRow]; exact hB), cell?_putRow_other _ _ blk off _ _ (Or.inl hne)]
    exact hcell)
/-- Keys without a key. -/
def lessK (ks : List ByteArray) (key : ByteArray) : List ByteArray := ks.filter fun x => !(x.toList == key.toList)
theorem delete_calls {w : World} {B : Nat} {kv : Value} {ks : List ByteArray} (hown : w.ownsRow B 9 1 kv ks.length (ks.map Value.string)) (hne : ks ≠ []) (key : ByteArray) (b : Nat) (hb : b < w.heap.size) (hcell : w.cell? ⟨b, 0, none⟩ = some (.string key)) (hbk : kv.ownBlock ≠ some b) :
    Calls Tryd.prog 46 #[kv, .func (.func 47) #[] #[.pointer (some ⟨b, 0, none⟩)]] w fun e w' => ∃ v1, e = .returned v1 ∧ w'.ownsRow B 9 1 v1 (lessK ks key).length ((lessK ks key).map Value.string) ∧ v1.ownBlock = kv.ownBlock ∧
      (∀ j, some j ≠ kv.ownBlock → w'.heap[j]? = w.heap[j]?) ∧ (∀ B0 w0, Below B0 w0 w → (∀ j, kv.ownBlock = some j → B0 ≤ j) → Below B0 w0 w') := by
  have eg : ∀ args w, (callFunc 47 args).run Tryd.prog w = .ok (.enter 47 args) w := enters_of Tryd.func47 (by kernel_rfl) rfl
  have hnn : kv ≠ .slice none 0 0 := by
    intro e
    rw [e] at hown
    rcases hown.2 with ⟨_, h0⟩ | ⟨g, cap, cur, e2, _⟩
    · exact hne (List.eq_nil_of_length_eq_zero h0)
    · cases e2
  obtain ⟨g, cap, rfl, hg1, hg2, hnc, hcm, hlen, hH⟩ := holds_of_ownsRow hown hnn
  have hsz : ks.toArray.size = ks.length := by simp
  have hcon := AnyE.slices_DeleteFunc Tryd.laysH10 Value.string (fun _ => rfl) (fun x => x.toList == key.toList) 47 #[.pointer (some ⟨b, 0, none⟩)] eg ⟨#[]⟩ Tryd.zeroValue9 g 0 cap ks.toArray w
    (pred47 key b w hb hcell) (over47 key b g 0 ks.toArray.size w hb (fun e => hbk (by rw [e]; rfl)) hcell) hH (by rw [hsz]; simp only [maxLen] at hcm; omega) (by rw [hsz]; exact hnc)
  rw [hsz] at hcon
  refine (show Calls Tryd.prog 46 _ _ _ from hcon).mono ?_
  rintro e w' ⟨rfl, q, rfl⟩
  have hfl : (ks.toArray.toList.filter fun x => !(x.toList == key.toList)) = lessK ks key := rfl
  rw [hfl]
  have hle : (lessK ks key).length ≤ ks.length := List.length_filter_le _ _
  refine ⟨_, rfl, ?_, rfl, fun j hj => ?_, fun B0 w0 h0 hB0 => below_putRow h0 (hB0 g rfl)⟩
  · have := ownsRow_putRow (q := q) (k := (lessK ks key).length) (ys := lessK ks key ++ List.replicate (ks.length - (lessK ks key).length) ⟨#[]⟩) hown (by rw [List.length_append, List.length_replicate]; omega) hle
    rwa [List.take_left] at this
  · have : g ≠ j := fun e => hj (by rw [e]; rfl)
    simp [putRow, mapBlock, Sort.ahead, Array.getElem?_modify, this]
end Go.Proofs.YtnfobcedbfbbiaaDoor.Hp
