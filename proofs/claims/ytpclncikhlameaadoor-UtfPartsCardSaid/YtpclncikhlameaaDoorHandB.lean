/- The contract of utf.turned: a string's bytes, each second one of a pair with 0 ahead of it turned by 32 where it lies between two bounds. -/
import Derived.Test.YtpclncikhlameaaDoorHandA
import Derived.Lib.ConvBytes
import Derived.Laws.BytesArg
import Derived.Deep.LoopGhost
import Derived.Deep.QuietTactic
import Derived.BigQuiet
import Derived.WideLaws
namespace Go.Proofs.YtpclncikhlameaaDoor.Hand
open Go.RowKit Go.Proofs.YtpclncikhlameaaDoorW.PrintWords Go.Proofs.YtpclncikhlameaaDoorW.PrintLast Go.Proofs.YtpclncikhlameaaDoorW.PrintMore
set_option linter.unusedVariables false
set_option linter.unusedSimpArgs false

/-- A row of bytes that a conversion has made, at block B: its first n cells. -/
def Buf (w : World) (B n : Nat) (xs : List Int) : Prop :=
  xs.length = n ∧ ∃ cells fr, w.heap[B]? = some (.cells cells 5 (fr, fr + 1)) ∧ n ≤ fr ∧ ∀ j, j < n → cells[j]? = some (Value.int .u8 (xs.getD j 0))
section
variable {w : World} {B n : Nat} {xs : List Int}
theorem Buf.cell (h : Buf w B n xs) (j : Nat) (hj : j < n) : w.cell? ⟨B, j, none⟩ = some (.int .u8 (xs.getD j 0)) := by
  obtain ⟨_, cells, fr, hb, _, hc⟩ := h
  exact (cell_of_row w B j cells 5 (fr, fr + 1) hb).trans (hc j hj)
theorem Buf.free (h : Buf w B n xs) (j : Nat) (hj : j < n) : w.frozen? ⟨B, j, none⟩ = false := by
  obtain ⟨_, cells, fr, hb, hf, _⟩ := h
  have h1 : ¬ fr ≤ j := by omega
  simp [World.frozen?, hb, h1]
theorem Buf.set (h : Buf w B n xs) (j : Nat) (hj : j < n) (v : Int) : Buf (w.setCell ⟨B, j, none⟩ (.int .u8 v)) B n (xs.set j v) := by
  obtain ⟨hl, cells, fr, hb, hf, hc⟩ := h
  have hj2 : j < cells.size := (Array.getElem?_eq_some_iff.1 (hc j hj)).1
  refine ⟨by simpa using hl, cells.setIfInBounds j (.int .u8 v), fr, ?_, hf, fun i hi => ?_⟩
  · simp [World.setCell, hb, Array.getElem?_modify]
  · by_cases e : j = i
    · subst e
      simp [hj2, List.getD_eq_getElem?_getD, hl, hj]
    · have := hc i hi
      simp [e, List.getD_eq_getElem?_getD, this]
theorem Buf.drewN (h : Buf w B n xs) (m : Nat) : Buf (w.drewN m) B n xs := h
theorem Buf.made (W : World) (s : ByteArray) : Buf (Lib.bytesWorld W 5 s) W.heap.size s.size (bytesOf s) := by
  refine ⟨bytesOf_length s, Lib.bytesCells W 5 s, (Lib.bytesCells W 5 s).size, Lib.bytesWorld_at_new W 5 s, ?_, fun j hj => ?_⟩
  · simp [Lib.bytesCells]
  · have h' : j < s.data.toList.length := by rw [data_length]; exact hj
    have h2 : j < s.data.size := hj
    simp [Lib.bytesCells, Array.getElem?_append, bytesOf, List.getD_eq_getElem?_getD, List.getElem?_eq_getElem h', hj, Array.getElem?_eq_getElem h2]
end

def turn1 (lo hi : Int) (xs : List Int) (j : Nat) : List Int :=
  if xs.getD (2 * j) 0 = 0 ∧ lo ≤ xs.getD (2 * j + 1) 0 ∧ xs.getD (2 * j + 1) 0 ≤ hi then xs.set (2 * j + 1) (Go.bits .xor .u8 (xs.getD (2 * j + 1) 0) 32) else xs
def turnN (lo hi : Int) (xs : List Int) : Nat → List Int
  | 0 => xs
  | j + 1 => turn1 lo hi (turnN lo hi xs j) j
def evenCut (s : ByteArray) : ByteArray := s.extract 0 (2 * (s.size / 2))
def utf_turned.f (a0 : ByteArray) (a1 a2 : Int) : Option ByteArray := if a0.size ≤ 140737488351232 then some (strOfNums (turnN a1 a2 (bytesOf (evenCut a0)) (a0.size / 2))) else none
set_option maxHeartbeats 1000000 in
set_option maxRecDepth 100000 in
theorem utf_turned.calls (a0 : ByteArray) (a1 a2 : Int) (r : ByteArray) (w : World) (h : utf_turned.f a0 a1 a2 = some r) :
    Calls Tryd.prog 33 #[.string a0, .int .u8 a1, .int .u8 a2] w fun e w' => e = .returned (.string r) ∧ Below w.heap.size w w' := by
  unfold utf_turned.f at h
  split at h
  case isFalse => cases h
  rename_i hs
  injection h with h
  subst h
  have kb := fun (s : ByteArray) (W : World) => print_bytes (P := Tryd.prog) 9 53 5 Tryd.underlying9 Tryd.underlying53 Tryd.underlying5 s W
  have hmin : min (2 * (a0.size / 2)) a0.size = 2 * (a0.size / 2) := by omega
  have hm1 : 2 * (a0.size / 2) ≤ 140737488351232 := by omega
  have hez : (a0.extract 0 (2 * (a0.size / 2))).size = 2 * (a0.size / 2) := by rw [ByteArray.size_extract]; omega
  have HC := Aside0.mk (Buf.made w (a0.extract 0 (2 * (a0.size / 2))))
  rw [hez] at HC
  clear hez
  have HL := Aside0.mk hm1
  have HB := Aside0.mk (bytes_below (Below.refl w.heap.size w) (Nat.le_refl _) 5 (a0.extract 0 (2 * (a0.size / 2))))
  unfold evenCut
  obtain ⟨zs, hz⟩ : ∃ zs, zs = bytesOf (a0.extract 0 (2 * (a0.size / 2))) := ⟨_, rfl⟩
  rw [← hz] at HC ⊢
  clear hz
  generalize hn : a0.size / 2 = n at *
  have HN := Aside0.mk hn
  go_enter Tryd.func33, Tryd.ntmps33
  go_wp2
  go_loopw [8] (fun i wr => ∃ k : Nat, i = .int .i64 (2 * (k : Int) + 1) ∧ k ≤ n ∧ Aside0 (Buf wr w.heap.size (2 * n) (turnN a1 a2 zs k)) ∧ Aside0 (Below w.heap.size w wr)) (fun i wr => 2 * n + 2 - (intOf i).toNat)
  case atStart => exact ⟨0, rfl, Nat.zero_le _, HC, HB⟩
  case round =>
    obtain ⟨k, rfl, hk, HC1, HB1⟩ := hrel
    obtain ⟨ys, hys⟩ : ∃ ys, ys = turnN a1 a2 zs k := ⟨_, rfl⟩
    have hnext : turnN a1 a2 zs (k + 1) = turn1 a1 a2 ys k := by rw [hys]; rfl
    rw [← hys] at HC1
    have HNext := Aside0.mk hnext
    have HYs := Aside0.mk hys
    clear hnext hys
    by_cases hlt : k < n
    · have hx := HC1.out.cell (2 * k) (by omega)
      have hy := HC1.out.cell (2 * k + 1) (by omega)
      have hf := HC1.out.free (2 * k + 1) (by omega)
      have HS := Aside0.mk (HC1.out.set (2 * k + 1) (by omega) (Go.bits .xor .u8 (ys.getD (2 * k + 1) 0) 32))
      obtain ⟨x, ex⟩ : ∃ x, x = ys.getD (2 * k) 0 := ⟨_, rfl⟩
      obtain ⟨y, ey⟩ : ∃ y, y = ys.getD (2 * k + 1) 0 := ⟨_, rfl⟩
      rw [← ex] at hx
      rw [← ey] at hy HS
      have EX := Aside0.mk ex
      have EY := Aside0.mk ey
      clear ex ey
      by_cases c0 : x = 0
      · subst c0
        by_cases c1 : a1 ≤ y
        · by_cases c2 : y ≤ a2
          · have hd1 : decide (a1 ≤ y) = true := by simpa using c1
            have hd2 : decide (y ≤ a2) = true := by simpa using c2
            have E1 : turnN a1 a2 zs (k + 1) = ys.set (2 * k + 1) (Go.bits .xor .u8 y 32) := by
              rw [HNext.out, turn1, if_pos ⟨EX.out.symm, by rw [← EY.out]; exact c1, by rw [← EY.out]; exact c2⟩, ← EY.out]
            have HE := Aside0.mk E1
            clear E1 c1 c2
            go_wp2
            go_roundw
            case rel => exact ⟨k + 1, by go_num, by omega, by rw [HE.out]; exact HS, ⟨below_set HB1.out (Nat.le_refl _)⟩⟩
            case measure => simp [intOf]; omega
          · have hd1 : decide (a1 ≤ y) = true := by simpa using c1
            have hd2 : decide (y ≤ a2) = false := by simpa using c2
            have HE := Aside0.mk (show turnN a1 a2 zs (k + 1) = ys by
              rw [HNext.out, turn1, if_neg (fun h => c2 (by rw [EY.out]; exact h.2.2))])
            clear c1 c2
            go_wp2
            go_roundw
            case rel => exact ⟨k + 1, by go_num, by omega, by rw [HE.out]; exact HC1, HB1⟩
            case measure => simp [intOf]; omega
        · have hd1 : decide (a1 ≤ y) = false := by simpa using c1
          have HE := Aside0.mk (show turnN a1 a2 zs (k + 1) = ys by
            rw [HNext.out, turn1, if_neg (fun h => c1 (by rw [EY.out]; exact h.2.1))])
          clear c1
          go_wp2
          go_roundw
          case rel => exact ⟨k + 1, by go_num, by omega, by rw [HE.out]; exact HC1, HB1⟩
          case measure => simp [intOf]; omega
      · have hd0 : (x == 0) = false := by simpa using c0
        have HE := Aside0.mk (show turnN a1 a2 zs (k + 1) = ys by
          rw [HNext.out, turn1, if_neg (fun h => c0 (by rw [EX.out]; exact h.1))])
        clear c0
        go_wp2
        go_roundw
        case rel => exact ⟨k + 1, by go_num, by omega, by rw [HE.out]; exact HC1, HB1⟩
        case measure => simp [intOf]; omega
    · obtain rfl : k = n := by omega
      have hcv := run_convert_bytes_arg wr (P := Tryd.prog) 53 5 Tryd.underlying53 Tryd.underlying5 w.heap.size 0 (2 * k) (grownCap w (2 * k) 0 5) ys HC1.out.1 (fun i hi => by rw [Nat.zero_add]; exact HC1.out.cell i hi) 9 Tryd.underlying9
      go_wp2
      go_ret
      exact ⟨by rw [HYs.out]; rfl, HB1.out⟩
end Go.Proofs.YtpclncikhlameaaDoor.Hand
