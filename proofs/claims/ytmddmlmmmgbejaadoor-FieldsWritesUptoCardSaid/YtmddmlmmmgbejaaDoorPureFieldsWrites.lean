/- FieldsWrites, the plain law: every list of fields is written, or refused, as the document says. -/
import Derived.Test.YtmddmlmmmgbejaaDoorPureC
import Derived.Test.YtmddmlmmmgbejaaDoorPFldWrites
namespace Go.Proofs.YtmddmlmmmgbejaaDoor.Pure
open Go.RowKit Go.Proofs.YtmddmlmmmgbejaaDoor.PFld Go.Proofs.YtmddmlmmmgbejaaDoorW.PrintWords Go.Proofs.YtmddmlmmmgbejaaDoorW.PrintLast Go.Proofs.YtmddmlmmmgbejaaDoorW.PrintMore Go.Proofs.YtmddmlmmmgbejaaDoor.Hand
set_option linter.unusedVariables false
theorem safe_iff (c : UInt8) : safeL c = true ↔ (97 ≤ c.toNat ∧ c.toNat ≤ 122) ∨ (65 ≤ c.toNat ∧ c.toNat ≤ 90) ∨ (48 ≤ c.toNat ∧ c.toNat ≤ 57) ∨ c.toNat = 42 ∨ c.toNat = 45 ∨ c.toNat = 46 ∨ c.toNat = 95 := by
  unfold safeL
  simp only [Bool.or_eq_true, Bool.and_eq_true, decide_eq_true_eq, beq_iff_eq]
  omega
theorem coded_test (s : ByteArray) (k : Nat) (acc : ByteArray) (x : Nat) (c : UInt8) (hx : x < s.size) (hb : bt s (x : Int) = (c.toNat : Int)) :
    pennantref21_Coded.l0 (k + 1) s acc (x : Int) = pennantref21_Coded.j1 k s acc (x : Int) (c.toNat : Int) (safeL c) := by
  have key : ∀ b : Bool, (b = true ↔ (97 ≤ c.toNat ∧ c.toNat ≤ 122) ∨ (65 ≤ c.toNat ∧ c.toNat ≤ 90) ∨ (48 ≤ c.toNat ∧ c.toNat ≤ 57) ∨ c.toNat = 42 ∨ c.toNat = 45 ∨ c.toNat = 46 ∨ c.toNat = 95) →
      pennantref21_Coded.j1 k s acc (x : Int) (c.toNat : Int) b = pennantref21_Coded.j1 k s acc (x : Int) (c.toNat : Int) (safeL c) := by
    intro b h
    have : b = safeL c := by
      rw [Bool.eq_iff_iff, h, safe_iff]
    rw [this]
  rw [pennantref21_Coded.l0, if_pos (by omega), if_pos (by omega), hb]
  repeat' split
  all_goals first
    | (refine key _ ?_; simp only [true_iff]; omega)
    | (refine key _ ?_; rw [beq_iff_eq]; omega)
theorem hex_digit : ∀ q : Fin 16, ((⟨#[48, 49, 50, 51, 52, 53, 54, 55, 56, 57, 65, 66, 67, 68, 69, 70]⟩ : ByteArray).extract (((q.val : Nat) : Int)).toNat ((((q.val : Nat) : Int) + 1)).toNat).data.toList = [digU q.val] := by decide +kernel
theorem hex_digit' (q : Nat) (h : q < 16) : (⟨#[48, 49, 50, 51, 52, 53, 54, 55, 56, 57, 65, 66, 67, 68, 69, 70]⟩ : ByteArray).extract ((q : Int)).toNat (((q : Int) + 1)).toNat = ⟨#[digU q]⟩ := by
  have := hex_digit ⟨q, h⟩
  simp only at this
  apply ByteArray.ext
  exact Array.toList_inj.1 this
theorem one_byte_at (s : ByteArray) (x : Nat) (c : UInt8) (t : List UInt8) (hd : s.data.toList.drop x = c :: t) : s.extract ((x : Int)).toNat (((x + 1 : Nat) : Int)).toNat = ⟨#[c]⟩ := by
  apply ByteArray.ext
  apply Array.toList_inj.1
  have := data_extract s x (x + 1)
  rw [Int.toNat_natCast, Int.toNat_natCast]
  rw [this, ← List.take_drop, hd]
  rfl
theorem coded_at (s : ByteArray) (hs : s.size ≤ 1048576) (k : Nat) (acc : List UInt8) (x : Nat) (ha : acc.length ≤ 3 * x) (c : UInt8) (t : List UInt8) (hd : s.data.toList.drop x = c :: t) :
    pennantref21_Coded.l0 (k + 2) s ⟨acc.toArray⟩ (x : Int) = pennantref21_Coded.l0 k s ⟨(acc ++ codeL c).toArray⟩ ((x + 1 : Nat) : Int) := by
  obtain ⟨h1, h2, h3, h4⟩ := bt_drop hd
  have e1 : wrap64 ((x : Int) + 1) = ((x + 1 : Nat) : Int) := wrap_nat (by omega) (by omega)
  have hc := c.toNat_lt
  rw [coded_test s (k + 1) _ x c h1 h2]
  unfold codeL
  rw [pennantref21_Coded.j1, e1]
  by_cases c1 : safeL c = true
  · rw [if_pos c1, if_pos c1, if_pos (by omega), if_pos (by omega), if_pos (by omega), one_byte_at s x c t hd, if_pos (by rw [size_mk]; show _ + 1 ≤ _; omega), put_one]
  · rw [if_neg c1, if_neg c1]
    have g := byte_eq c 32 32 rfl (by omega)
    by_cases c2 : c = 32
    · rw [if_pos c2, if_pos (g.symm ▸ c2), if_pos (by rw [size_mk]; omega), put_one]
    · rw [if_neg c2, if_neg (fun h => c2 (g ▸ h))]
      have q1 : Int.tdiv (c.toNat : Int) 16 % 256 = ((c.toNat / 16 : Nat) : Int) := by rw [Int.tdiv_eq_ediv_of_nonneg (by omega)]; omega
      have q2 : Int.tmod (c.toNat : Int) 16 = ((c.toNat % 16 : Nat) : Int) := by rw [Int.tmod_eq_emod_of_nonneg (by omega)]; omega
      have q3 : (((c.toNat / 16 : Nat) : Int) + 1) % 256 = ((c.toNat / 16 : Nat) : Int) + 1 := by omega
      have q4 : (((c.toNat % 16 : Nat) : Int) + 1) % 256 = ((c.toNat % 16 : Nat) : Int) + 1 := by omega
      have d1 := hex_digit' (c.toNat / 16) (by omega)
      have d2 := hex_digit' (c.toNat % 16) (by omega)
      have z1 : (⟨#[digU (c.toNat / 16)]⟩ : ByteArray).size = 1 := rfl
      have z2 : (⟨#[digU (c.toNat % 16)]⟩ : ByteArray).size = 1 := rfl
      rw [q1, q2, q3, q4, d1, d2, z1, z2, size_mk, if_pos (by omega), if_pos (by omega), if_pos (by omega), if_pos (by omega), if_pos (by omega), if_pos (by omega), if_pos (by omega), if_pos (by omega), if_pos (by omega), put_one, put_one, put_one]
      simp
theorem ref_coded_loop (s : ByteArray) (hs : s.size ≤ 1048576) : ∀ (l acc : List UInt8) (x : Nat), s.data.toList.drop x = l → acc.length ≤ 3 * x → Ev (fun k => pennantref21_Coded.l0 k s ⟨acc.toArray⟩ (x : Int)) ⟨(acc ++ encL l).toArray⟩
  | [], acc, x, hd, ha => by
    have := drop_none hd
    refine Ev.step (fun k => ?_) (Ev.now _)
    rw [pennantref21_Coded.l0, if_neg (by omega)]
    simp [encL]
  | c :: t, acc, x, hd, ha => by
    obtain ⟨h1, h2, h3, h4⟩ := bt_drop hd
    have hl := codeL_len c
    have ih := ref_coded_loop s hs t (acc ++ codeL c) (x + 1) h3 (by rw [List.length_append]; omega)
    rw [show acc ++ encL (c :: t) = (acc ++ codeL c) ++ encL t by simp [encL]]
    obtain ⟨K, g⟩ := ih
    refine ⟨K + 2, fun k hk => ?_⟩
    obtain ⟨m, rfl⟩ : ∃ m, k = m + 2 := ⟨k - 2, by omega⟩
    simp only
    rw [coded_at s hs m acc x ha c t hd]
    exact g m (by omega)
theorem ref_coded_ev (s : ByteArray) (hs : s.size ≤ 1048576) : Ev (fun k => pennantref21_Coded.f k s) ⟨(encL s.data.toList).toArray⟩ := by
  have h := ref_coded_loop s hs _ [] 0 rfl (Nat.zero_le _)
  rw [List.drop_zero, List.nil_append] at h
  exact Ev.congr (fun k => rfl) h
theorem writeL_snoc : ∀ (l : List Fl) (f : Fl), writeL (l ++ [f]) = if l = [] then writeF f else writeL l ++ 38 :: writeF f
  | [], f => by rw [if_pos rfl, List.nil_append, writeL_one]
  | [g], f => by
    rw [if_neg (by simp)]
    show writeL (g :: f :: []) = _
    rw [writeL_cons, writeL_one, writeL_one]
  | g :: h :: t, f => by
    have ih := writeL_snoc (h :: t) f
    rw [if_neg (by simp)] at ih ⊢
    show writeL (g :: h :: (t ++ [f])) = _
    rw [writeL_cons, show h :: (t ++ [f]) = (h :: t) ++ [f] from rfl, ih, writeL_cons]
    simp
theorem add_bytes (a : List UInt8) (b : Array UInt8) : (⟨a.toArray⟩ : ByteArray) ++ (⟨b⟩ : ByteArray) = ⟨(a ++ b.toList).toArray⟩ := by
  apply ByteArray.ext
  simp
theorem ref_write_loop (all : List S34) (hall : all.length ≤ 32) (hsm : ∀ f ∈ all, Small (toF f)) : ∀ (rest : List S34) (acc : List Fl) (i : Nat), all.drop i = rest → acc.length = i → (∀ f ∈ acc, Small f) → acc.length + rest.length ≤ 32 →
    Ev (fun k => pennantref21_Write.l0 k all ⟨(writeL acc).toArray⟩ (i : Int)) (wdone (acc ++ rest.map toF))
  | [], acc, i, hd, ha, hs, hn => by
    have hl := List.drop_eq_nil_iff.1 hd
    rw [List.map_nil, List.append_nil]
    refine Ev.step (f := fun _ => some (wdone acc)) (fun k => ?_) (Ev.now _)
    rw [pennantref21_Write.l0, if_neg (by omega)]
    unfold wdone
    by_cases c : 4096 < (writeL acc).length
    · rw [if_pos c, if_pos (by rw [size_mk]; omega)]
    · rw [if_neg c, if_neg (by rw [size_mk]; omega)]
  | p :: t, acc, i, hd, ha, hs, hn => by
    obtain ⟨h1, h2, h3⟩ := rd34_drop hd
    have e1 : wrap64 ((i : Int) + 1) = ((i + 1 : Nat) : Int) := wrap_nat (by omega) (by omega)
    have hp : Small (toF p) := hsm p (List.mem_of_mem_drop (hd ▸ List.mem_cons_self ..))
    have hz0 : p.f0.size ≤ 1048576 := by have := hp.1; unfold toF at this; rw [size_list] at this; exact this
    have hz1 : p.f1.size ≤ 1048576 := by have := hp.2; unfold toF at this; rw [size_list] at this; exact this
    have c1 := ref_coded_ev p.f0 hz0
    have c2 := ref_coded_ev p.f1 hz1
    have l1 := encL_len p.f0.data.toList
    have l2 := encL_len p.f1.data.toList
    rw [size_list] at l1 l2
    have hw := writeL_small acc hs
    simp only [List.length_cons] at hn
    have hw2 : (writeL acc).length ≤ 6291458 * 32 := Nat.le_trans hw (Nat.mul_le_mul_left _ (by omega))
    have ih := ref_write_loop all hall hsm t (acc ++ [toF p]) (i + 1) h3 (by rw [List.length_append]; simp; omega) (fun f hf => by
      rcases List.mem_append.1 hf with h | h
      · exact hs f h
      · rw [List.mem_singleton.1 h]; exact hp) (by rw [List.length_append]; simp; omega)
    rw [show acc ++ (p :: t).map toF = (acc ++ [toF p]) ++ t.map toF by simp]
    obtain ⟨K0, g0⟩ := c1
    obtain ⟨K1, g1⟩ := c2
    obtain ⟨K2, g2⟩ := ih
    simp only at g0 g1 g2
    refine ⟨K0 + K1 + K2 + 1, fun k hk => ?_⟩
    obtain ⟨m, rfl⟩ : ∃ m, k = m + 1 := ⟨k - 1, by omega⟩
    have g2' := g2 m (by omega)
    rw [writeL_snoc] at g2'
    simp only
    rw [pennantref21_Write.l0, if_pos (by omega), h2, g0 m (by omega), g1 m (by omega), bsome, bsome, bsome, bsome, size_mk, size_mk, size_mk, e1, add_bytes, add_bytes, add_bytes, add_bytes, add_bytes, add_bytes, add_bytes]
    by_cases c : acc = []
    · rw [if_pos c] at g2'
      subst c
      rw [if_neg (by simp at ha; omega), if_pos (by omega), if_pos (by omega), if_pos (by omega), if_pos (by omega)]
      rw [← g2']
      congr 2
      rw [show writeL [] = [] from rfl]
      simp [writeF, toF]
    · rw [if_neg c] at g2'
      have : 0 < acc.length := List.length_pos_iff.2 c
      rw [if_pos (by omega), if_pos (by omega), if_pos (by omega), if_pos (by omega), if_pos (by omega), if_pos (by omega)]
      rw [← g2']
      congr 2
      simp [writeF, toF]
theorem ref_write_told (l : List S34) (hsm : l.length ≤ 32 → ∀ f ∈ l, Small (toF f)) : Ev (fun k => pennantref21_Write.f k l) (if 32 < l.length then (⟨#[]⟩, 4) else wdone (l.map toF)) := by
  by_cases h : 32 < l.length
  · rw [if_pos h]
    refine Ev.congr (fun k => ?_) (Ev.now _)
    unfold pennantref21_Write.f
    rw [if_pos (by omega)]
  · rw [if_neg h]
    have h0 := ref_write_loop l (by omega) (hsm (by omega)) l [] 0 rfl rfl (fun _ h => by cases h) (by simp; omega)
    rw [List.nil_append] at h0
    refine Ev.congr (fun k => ?_) h0
    unfold pennantref21_Write.f
    rw [if_neg (by omega)]; rfl
theorem writes_end (l : List S34) (hl : l.length ≤ 1048576) (hsm : ∀ f ∈ l, Small (toF f)) (b : Bool) : Ev (fun k => pennantlaw21_FieldsWrites.j2 k l b) true := by
  cases b with
  | true =>
    refine Ev.step (fun k => ?_) (Ev.now _)
    rw [pennantlaw21_FieldsWrites.j2, if_pos rfl]
  | false =>
    have h1 := write_told l (fun _ => hsm)
    have h2 := ref_write_told l (fun _ => hsm)
    have h3 := same_self l (by omega)
    generalize (if 32 < l.length then ((⟨#[]⟩, 4) : ByteArray × Int) else wdone (l.map toF)) = R at *
    obtain ⟨K0, g0⟩ := h1
    obtain ⟨K1, g1⟩ := h2
    obtain ⟨K2, g2⟩ := h3
    simp only at g0 g1 g2
    refine ⟨K0 + K1 + K2 + 1, fun k hk => ?_⟩
    obtain ⟨m, rfl⟩ : ∃ m, k = m + 1 := ⟨k - 1, by omega⟩
    simp only
    rw [pennantlaw21_FieldsWrites.j2, if_neg (by simp), bsome, if_pos (by simp; omega), bsome, List.nil_append, g0 m (by omega), bsome, g1 m (by omega), bsome, if_pos rfl, if_pos rfl, g2 m (by omega), bsome]
theorem writes_j1 (l : List S34) (hl : l.length ≤ 1048576) (hsm : ∀ f ∈ l, Small (toF f)) (n : Int) : Ev (fun k => pennantlaw21_FieldsWrites.j1 k l n) true := by
  by_cases c : n > 20000
  · refine Ev.step (fun k => ?_) (writes_end l hl hsm true)
    rw [pennantlaw21_FieldsWrites.j1, if_pos c]
  · refine Ev.step (fun k => ?_) (writes_end l hl hsm (decide ((l.length : Int) > 100)))
    rw [pennantlaw21_FieldsWrites.j1, if_neg c]
theorem writes_loop (l : List S34) (hl : l.length ≤ 1048576) (hsm : ∀ f ∈ l, Small (toF f)) : ∀ (d i : Nat) (n : Int), l.length = i + d → Ev (fun k => pennantlaw21_FieldsWrites.l0 k l n (i : Int)) true
  | 0, i, n, h => by
    refine Ev.step (fun k => ?_) (writes_j1 l hl hsm n)
    rw [pennantlaw21_FieldsWrites.l0, if_neg (by omega)]
  | d + 1, i, n, h => by
    have e1 : wrap64 ((i : Int) + 1) = ((i + 1 : Nat) : Int) := wrap_nat (by omega) (by omega)
    by_cases c : (i : Int) < 40
    · refine Ev.step (fun k => ?_) (writes_loop l hl hsm d (i + 1) (wrap64 (n + ((mn 5000 (((rd_T34 l i).f0).size : Int)) + (mn 5000 (((rd_T34 l i).f1).size : Int))))) (by omega))
      rw [pennantlaw21_FieldsWrites.l0, if_pos (by omega), if_pos c, if_pos (by omega), e1]
    · refine Ev.step (fun k => ?_) (writes_j1 l hl hsm n)
      rw [pennantlaw21_FieldsWrites.l0, if_pos (by omega), if_neg c]
theorem FieldsWrites (l : List S34) (hl : l.length ≤ 1048576) (hsm : ∀ f ∈ l, f.f0.size ≤ 1048576 ∧ f.f1.size ≤ 1048576) : ∃ k, pennantlaw21_FieldsWrites.f k l = some true := by
  have hsm' : ∀ f ∈ l, Small (toF f) := fun f hf => by
    have := hsm f hf
    unfold toF Small
    rw [size_list, size_list]
    exact this
  obtain ⟨K0, g0⟩ := awake_ev
  obtain ⟨K1, g1⟩ := writes_loop l hl hsm' l.length 0 0 (by omega)
  simp only at g0 g1
  refine ⟨K0 + K1, ?_⟩
  unfold pennantlaw21_FieldsWrites.f
  rw [g0 _ (by omega), bsome, if_pos rfl]
  exact g1 _ (by omega)
end Go.Proofs.YtmddmlmmmgbejaaDoor.Pure
