/- What a name or a value says, and how it is written: both texts' functions give what the lists of bytes give. -/
import Derived.Test.YtmddmlmmmgbejaaDoorPureL
import Derived.Test.YtmddmlmmmgbejaaDoorHandE
import Derived.Test.YtmddmlmmmgbejaaDoorPFldx4
namespace Go.Proofs.YtmddmlmmmgbejaaDoor.Pure
open Go.RowKit Go.Proofs.YtmddmlmmmgbejaaDoor.PFld Go.Proofs.YtmddmlmmmgbejaaDoorW.PrintWords Go.Proofs.YtmddmlmmmgbejaaDoorW.PrintLast Go.Proofs.YtmddmlmmmgbejaaDoor.Hand
set_option linter.unusedVariables false

theorem wrap_id {x : Int} (h0 : -9223372036854775808 ≤ x) (h1 : x ≤ 9223372036854775807) : wrap64 x = x := by unfold wrap64; omega
theorem size_list (s : ByteArray) : s.data.toList.length = s.size := by rw [Array.length_toList]; rfl
theorem bt_drop {s : ByteArray} {x : Nat} {c : UInt8} {t : List UInt8} (h : s.data.toList.drop x = c :: t) :
    x < s.size ∧ bt s (x : Int) = (c.toNat : Int) ∧ s.data.toList.drop (x + 1) = t ∧ s.size = x + 1 + t.length := by
  have hl : x < s.data.toList.length := by
    apply Nat.lt_of_not_le
    intro hn
    rw [List.drop_eq_nil_of_le hn] at h; cases h
  rw [List.drop_eq_getElem_cons hl] at h
  obtain ⟨h1, h2⟩ := List.cons.inj h
  have hs := size_list s
  refine ⟨by omega, ?_, h2, ?_⟩
  · unfold bt
    rw [dif_pos (by simpa [hs] using hl)]
    rw [← h1]
    rfl
  · rw [← h2, List.length_drop]; omega
theorem drop_none {s : ByteArray} {x : Nat} (h : s.data.toList.drop x = []) : s.size ≤ x := by
  have := List.drop_eq_nil_iff.1 h
  rwa [size_list] at this

theorem sixteen_hex : ∀ c : UInt8, sixteenV (c.toNat : Int) = (match hexN c with | some v => (v : Int) | none => -1) := all_bytes (by decide +kernel)
theorem hexN_lt : ∀ (c : UInt8), (hexN c).getD 0 < 16 := all_bytes (by decide +kernel)
theorem hexN_lt' {c : UInt8} {v : Nat} (h : hexN c = some v) : v < 16 := by have := hexN_lt c; rw [h] at this; exact this
theorem two_digits : ∀ x y : Fin 16, (Go.bits .or .i64 (wrap64 (((x.val : Nat) : Int) * 16)) ((y.val : Nat) : Int) % 256).toNat.toUInt8 = UInt8.ofNat (x.val * 16 + y.val) := by decide +kernel
theorem two_digits' : ∀ x y : Fin 16, UInt8.ofNat ((wrap64 ((wrap64 (((x.val : Nat) : Int) * 16)) + ((y.val : Nat) : Int))) % 256).toNat = UInt8.ofNat (x.val * 16 + y.val) := by decide +kernel
/-- What is told of a name or a value. -/
def told (o : Option (List UInt8)) : ByteArray × Bool := match o with | some r => (⟨r.toArray⟩, true) | none => (⟨#[]⟩, false)
theorem byte_eq (c : UInt8) (n : Nat) (m : Int) (hm : m = (n : Int)) (hn : n < 256) : ((c.toNat : Int) = m) = (c = UInt8.ofNat n) := by
  subst hm
  apply propext
  constructor
  · intro h
    have : c.toNat = n := by omega
    rw [← this, UInt8.ofNat_toNat]
  · intro h
    rw [h, UInt8.toNat_ofNat']
    omega
theorem byte_back (c : UInt8) : ((c.toNat : Int)).toNat.toUInt8 = c := by rw [Int.toNat_natCast]; exact UInt8.ofNat_toNat
theorem wrap_nat {x : Int} {n : Nat} (h : x = (n : Int)) (hn : n ≤ 140737488355328) : wrap64 x = (n : Int) := by subst h; unfold wrap64; omega
/-- One step of the program's text. -/
theorem plain_at (s : ByteArray) (hs : s.size ≤ 140737488351232) (k x : Nat) (acc : List UInt8) (c : UInt8) (t : List UInt8) (hd : s.data.toList.drop x = c :: t) (ha : acc.length ≤ x) :
    plainGo s (k + 1) (x : Int) acc = if c = 43 then plainGo s k ((x + 1 : Nat) : Int) (acc ++ [32]) else if c = 37 then
      (if (s.size : Int) ≤ ((x + 2 : Nat) : Int) then some (⟨#[]⟩, false) else if sixteenV (bt s ((x + 1 : Nat) : Int)) < 0 then some (⟨#[]⟩, false) else if sixteenV (bt s ((x + 2 : Nat) : Int)) < 0 then some (⟨#[]⟩, false)
        else plainGo s k ((x + 3 : Nat) : Int) (acc ++ [(Go.bits .or .i64 (wrap64 (sixteenV (bt s ((x + 1 : Nat) : Int)) * 16)) (sixteenV (bt s ((x + 2 : Nat) : Int))) % 256).toNat.toUInt8]))
      else plainGo s k ((x + 1 : Nat) : Int) (acc ++ [c]) := by
  obtain ⟨h1, h2, h3, h4⟩ := bt_drop hd
  have e1 : wrap64 ((x : Int) + 1) = ((x + 1 : Nat) : Int) := wrap_nat (by omega) (by omega)
  have e2 : wrap64 ((x : Int) + 2) = ((x + 2 : Nat) : Int) := wrap_nat (by omega) (by omega)
  have e3 : wrap64 (((x + 2 : Nat) : Int) + 1) = ((x + 3 : Nat) : Int) := wrap_nat (by omega) (by omega)
  have g1 := byte_eq c 43 43 rfl (by omega)
  have g2 := byte_eq c 37 37 rfl (by omega)
  rw [plainGo, if_pos (by omega), if_pos (by omega), if_pos (by omega), h2, e1, e2, e3, byte_back]
  by_cases c1 : c = 43
  · rw [if_pos c1, if_pos (g1.symm ▸ c1)]; rfl
  · rw [if_neg c1, if_neg (fun h => c1 (g1 ▸ h))]
    by_cases c2 : c = 37
    · rw [if_pos c2, if_pos (g2.symm ▸ c2)]
      by_cases c3 : (s.size : Int) ≤ ((x + 2 : Nat) : Int)
      · rw [if_pos c3, if_pos c3]
      · rw [if_neg c3, if_neg c3, if_pos (by omega), if_pos (by omega), if_pos (by omega)]
    · rw [if_neg c2, if_neg (fun h => c2 (g2 ▸ h))]
theorem told_map (o : Option (List UInt8)) (acc : List UInt8) (c : UInt8) : told ((o.map (c :: ·)).map (acc ++ ·)) = told (o.map ((acc ++ [c]) ++ ·)) := by cases o <;> simp [told]
theorem plain_dec (s : ByteArray) (hs : s.size ≤ 140737488351232) (n : Nat) : ∀ (l acc : List UInt8) (x k : Nat), l.length ≤ n → s.data.toList.drop x = l → acc.length ≤ x → l.length < k →
    plainGo s k (x : Int) acc = some (told ((decL l).map (acc ++ ·))) := by
  induction n with
  | zero =>
    intro l acc x k hn hd ha hk
    obtain rfl := List.eq_nil_of_length_eq_zero (Nat.le_zero.1 hn)
    obtain ⟨k, rfl⟩ : ∃ m, k = m + 1 := ⟨k - 1, by omega⟩
    have := drop_none hd
    rw [plainGo, if_neg (by omega), decL_nil]
    simp [told]
  | succ n ih =>
    intro l acc x k hn hd ha hk
    obtain ⟨k, rfl⟩ : ∃ m, k = m + 1 := ⟨k - 1, by omega⟩
    cases l with
    | nil =>
      have := drop_none hd
      rw [plainGo, if_neg (by omega), decL_nil]
      simp [told]
    | cons c t =>
      simp only [List.length_cons] at hn hk
      obtain ⟨h1, h2, h3, h4⟩ := bt_drop hd
      rw [plain_at s hs k x acc c t hd ha]
      by_cases c1 : c = 43
      · subst c1
        rw [if_pos rfl, decL_plus, told_map, ih t _ (x + 1) k (by omega) h3 (by rw [List.length_append]; simp; omega) (by omega)]
      · rw [if_neg c1]
        by_cases c2 : c = 37
        · subst c2
          rw [if_pos rfl]
          match t, h3, h4, hn, hk with
          | [], _, h4, _, _ => rw [if_pos (by simp at h4; omega), decL_short _ (by simp)]; rfl
          | [a], _, h4, _, _ => rw [if_pos (by simp at h4; omega), decL_short _ (by simp)]; rfl
          | a :: b :: r, h3, h4, hn, hk =>
            obtain ⟨_, i2, i3, i4⟩ := bt_drop h3
            obtain ⟨_, j2, j3, j4⟩ := bt_drop i3
            simp only [List.length_cons] at h4 hn hk
            rw [if_neg (by omega), i2, j2, sixteen_hex a, sixteen_hex b]
            cases ha' : hexN a with
            | none => rw [decL_bad1 _ _ _ ha']; rfl
            | some u =>
              have hu := hexN_lt' ha'
              cases hb' : hexN b with
              | none =>
                rw [decL_bad2 _ _ _ hb', if_neg (by simp only; omega)]; rfl
              | some v =>
                have hv := hexN_lt' hb'
                have e4 := two_digits ⟨u, hu⟩ ⟨v, hv⟩
                simp only at e4
                simp only
                rw [if_neg (by omega), if_neg (by omega), e4, decL_code _ _ _ _ _ ha' hb', told_map, ih r _ (x + 3) k (by omega) j3 (by rw [List.length_append]; simp; omega) (by omega)]
        · rw [if_neg c2, decL_same _ _ c1 c2, told_map, ih t _ (x + 1) k (by omega) h3 (by rw [List.length_append]; simp; omega) (by omega)]
theorem plain_told (s : ByteArray) (hs : s.size ≤ 140737488351232) (k : Nat) (hk : s.size < k) : fields_plain.f k s = some (told (decL s.data.toList)) := by
  have h := plain_dec s hs _ _ [] 0 k (Nat.le_refl _) rfl (Nat.zero_le _) (by rw [List.drop_zero, size_list]; exact hk)
  unfold fields_plain.f
  rw [show ((0 : Nat) : Int) = 0 from rfl] at h
  rw [h, List.drop_zero]
  cases decL s.data.toList <;> simp [told]

theorem code_same : ∀ c : UInt8, codeB (c.toNat : Int) = codeL c := all_bytes (by decide +kernel)
theorem coded_enc (s : ByteArray) (hs : s.size * 3 ≤ 140737488351232) : ∀ (l acc : List UInt8) (x k : Nat), s.data.toList.drop x = l → x ≤ s.size → acc.length ≤ 3 * x → l.length < k →
    codedGo s k (x : Int) acc = some ⟨(acc ++ encL l).toArray⟩
  | [], acc, x, k, hd, hx, ha, hk => by
    obtain ⟨k, rfl⟩ : ∃ m, k = m + 1 := ⟨k - 1, by omega⟩
    have := drop_none hd
    rw [codedGo, if_neg (by omega)]
    simp [encL]
  | c :: t, acc, x, k, hd, hx, ha, hk => by
    have hk' : t.length + 1 < k := by simpa using hk
    obtain ⟨k, rfl⟩ : ∃ m, k = m + 1 := ⟨k - 1, by omega⟩
    obtain ⟨h1, h2, h3, h4⟩ := bt_drop hd
    have e1 : wrap64 ((x : Int) + 1) = ((x + 1 : Nat) : Int) := by unfold wrap64; omega
    have hl := codeL_len c
    rw [codedGo, if_pos (by omega), if_pos (by omega), if_pos (by omega), h2, e1, code_same, coded_enc s hs t _ (x + 1) k h3 (by omega) (by rw [List.length_append]; omega) (by omega)]
    simp [encL]
theorem coded_told (s : ByteArray) (hs : s.size * 3 ≤ 140737488351232) (k : Nat) (hk : s.size < k) : fields_coded.f k s = some ⟨(encL s.data.toList).toArray⟩ := by
  have h := coded_enc s hs _ [] 0 k rfl (Nat.zero_le _) (Nat.zero_le _) (by rw [List.drop_zero, size_list]; exact hk)
  unfold fields_coded.f
  rw [show ((0 : Nat) : Int) = 0 from rfl] at h
  rw [h, List.drop_zero]
  simp

theorem bsome {α β : Type} (a : α) (f : α → Option β) : (some a).bind f = f a := by
  cases h : f a <;> simp [h]
theorem sixteen_ref0 : ∀ c : UInt8, pennantref04_Sixteen.f 8 (c.toNat : Int) = some (match hexN c with | some v => (v : Int) | none => -1) := all_bytes (by decide +kernel)
theorem sixteen_ref (c : UInt8) (k : Nat) (hk : 8 ≤ k) : pennantref04_Sixteen.f k (c.toNat : Int) = some (match hexN c with | some v => (v : Int) | none => -1) :=
  at_rounds (pennantref04_Sixteen.mono _) hk (sixteen_ref0 c)
theorem nums_one (v : Int) : strOfNums [v] = ⟨#[UInt8.ofNat v.toNat]⟩ := rfl
theorem put_one (acc : List UInt8) (c : UInt8) : (⟨acc.toArray⟩ : ByteArray) ++ (⟨#[c]⟩ : ByteArray) = ⟨(acc ++ [c]).toArray⟩ := by
  apply ByteArray.ext
  simp
theorem size_mk (acc : List UInt8) : (⟨acc.toArray⟩ : ByteArray).size = acc.length := by simp [ByteArray.size]
theorem said_put (s : ByteArray) (k : Nat) (acc : List UInt8) (v x : Int) (ha : acc.length ≤ 140737488351232) :
    ((some (([v] : List Int) : List Int)).bind fun y => (if (⟨acc.toArray⟩ : ByteArray).size + (strOfNums y).size ≤ 9223372036854775807 then (pennantref21_Said.l0 k s ((⟨acc.toArray⟩ : ByteArray) ++ (strOfNums y)) x) else (none))) =
      pennantref21_Said.l0 k s ⟨(acc ++ [UInt8.ofNat v.toNat]).toArray⟩ x := by
  have hb : (⟨acc.toArray⟩ : ByteArray).size + (strOfNums [v]).size ≤ 9223372036854775807 := by rw [size_mk, nums_one, show (⟨#[UInt8.ofNat v.toNat]⟩ : ByteArray).size = 1 from rfl]; omega
  rw [bsome, if_pos hb, nums_one, put_one]
/-- One step of the document's text. -/
theorem said_at (s : ByteArray) (hs : s.size ≤ 140737488351232) (k x : Nat) (hk : 8 ≤ k) (acc : List UInt8) (c : UInt8) (t : List UInt8) (hd : s.data.toList.drop x = c :: t) (ha : acc.length ≤ x) :
    pennantref21_Said.l0 (k + 1) s ⟨acc.toArray⟩ (x : Int) = if c = 43 then pennantref21_Said.l0 k s ⟨(acc ++ [32]).toArray⟩ ((x + 1 : Nat) : Int) else if c = 37 then
      (if (s.size : Int) ≤ ((x + 2 : Nat) : Int) then some (⟨#[]⟩, false) else
        (pennantref04_Sixteen.f k (bt s ((x + 1 : Nat) : Int))).bind fun u => (pennantref04_Sixteen.f k (bt s ((x + 2 : Nat) : Int))).bind fun v => if u < 0 then some (⟨#[]⟩, false) else if v < 0 then some (⟨#[]⟩, false)
        else pennantref21_Said.l0 k s ⟨(acc ++ [UInt8.ofNat ((wrap64 ((wrap64 (u * 16)) + v)) % 256).toNat]).toArray⟩ ((x + 3 : Nat) : Int))
      else pennantref21_Said.l0 k s ⟨(acc ++ [c]).toArray⟩ ((x + 1 : Nat) : Int) := by
  obtain ⟨h1, h2, h3, h4⟩ := bt_drop hd
  have e1 : wrap64 ((x : Int) + 1) = ((x + 1 : Nat) : Int) := wrap_nat (by omega) (by omega)
  have e2 : wrap64 (((x + 1 : Nat) : Int) + 1) = ((x + 2 : Nat) : Int) := wrap_nat (by omega) (by omega)
  have e3 : wrap64 (((x + 1 : Nat) : Int) + 2) = ((x + 3 : Nat) : Int) := wrap_nat (by omega) (by omega)
  have g1 := byte_eq c 43 43 rfl (by omega)
  have g2 := byte_eq c 37 37 rfl (by omega)
  have ha' : acc.length ≤ 140737488351232 := by omega
  rw [pennantref21_Said.l0, if_pos (by omega), if_pos (by omega), h2, e1, e2, e3]
  by_cases c1 : c = 43
  · rw [if_pos c1, if_pos (g1.symm ▸ c1), said_put s k acc 32 _ ha']; rfl
  · rw [if_neg c1, if_neg (fun h => c1 (g1 ▸ h))]
    by_cases c2 : c = 37
    · rw [if_pos c2, if_pos (g2.symm ▸ c2)]
      by_cases c3 : (s.size : Int) ≤ ((x + 2 : Nat) : Int)
      · rw [if_pos c3, if_pos c3]
      · rw [if_neg c3, if_neg c3, if_pos (by omega), if_pos (by omega)]
        congr 1
        funext u
        rw [if_pos (by omega), if_pos (by omega)]
        congr 1
        funext v
        rw [said_put s k acc _ _ ha']
    · rw [if_neg c2, if_neg (fun h => c2 (g2 ▸ h)), said_put s k acc _ _ ha', show UInt8.ofNat ((c.toNat : Int)).toNat = c from byte_back c]
theorem said_dec (s : ByteArray) (hs : s.size ≤ 140737488351232) (n : Nat) : ∀ (l acc : List UInt8) (x k : Nat), l.length ≤ n → s.data.toList.drop x = l → acc.length ≤ x → l.length + 8 < k →
    pennantref21_Said.l0 k s ⟨acc.toArray⟩ (x : Int) = some (told ((decL l).map (acc ++ ·))) := by
  induction n with
  | zero =>
    intro l acc x k hn hd ha hk
    obtain rfl := List.eq_nil_of_length_eq_zero (Nat.le_zero.1 hn)
    obtain ⟨k, rfl⟩ : ∃ m, k = m + 1 := ⟨k - 1, by omega⟩
    have := drop_none hd
    rw [pennantref21_Said.l0, if_neg (by omega), decL_nil]
    simp [told]
  | succ n ih =>
    intro l acc x k hn hd ha hk
    obtain ⟨k, rfl⟩ : ∃ m, k = m + 1 := ⟨k - 1, by omega⟩
    cases l with
    | nil =>
      have := drop_none hd
      rw [pennantref21_Said.l0, if_neg (by omega), decL_nil]
      simp [told]
    | cons c t =>
      simp only [List.length_cons] at hn hk
      obtain ⟨h1, h2, h3, h4⟩ := bt_drop hd
      rw [said_at s hs k x (by omega) acc c t hd ha]
      by_cases c1 : c = 43
      · subst c1
        rw [if_pos rfl, decL_plus, told_map, ih t _ (x + 1) k (by omega) h3 (by rw [List.length_append]; simp; omega) (by omega)]
      · rw [if_neg c1]
        by_cases c2 : c = 37
        · subst c2
          rw [if_pos rfl]
          match t, h3, h4, hn, hk with
          | [], _, h4, _, _ => rw [if_pos (by simp at h4; omega), decL_short _ (by simp)]; rfl
          | [a], _, h4, _, _ => rw [if_pos (by simp at h4; omega), decL_short _ (by simp)]; rfl
          | a :: b :: r, h3, h4, hn, hk =>
            obtain ⟨_, i2, i3, i4⟩ := bt_drop h3
            obtain ⟨_, j2, j3, j4⟩ := bt_drop i3
            simp only [List.length_cons] at h4 hn hk
            rw [if_neg (by omega), i2, j2, sixteen_ref a k (by omega), sixteen_ref b k (by omega), bsome, bsome]
            cases ha' : hexN a with
            | none => rw [decL_bad1 _ _ _ ha']; rfl
            | some u =>
              have hu := hexN_lt' ha'
              cases hb' : hexN b with
              | none =>
                rw [decL_bad2 _ _ _ hb', if_neg (by simp only; omega)]; rfl
              | some v =>
                have hv := hexN_lt' hb'
                have e4 := two_digits' ⟨u, hu⟩ ⟨v, hv⟩
                simp only at e4
                simp only
                rw [if_neg (by omega), if_neg (by omega), e4, decL_code _ _ _ _ _ ha' hb', told_map, ih r _ (x + 3) k (by omega) j3 (by rw [List.length_append]; simp; omega) (by omega)]
        · rw [if_neg c2, decL_same _ _ c1 c2, told_map, ih t _ (x + 1) k (by omega) h3 (by rw [List.length_append]; simp; omega) (by omega)]
theorem said_told (s : ByteArray) (hs : s.size ≤ 140737488351232) (k : Nat) (hk : s.size + 8 < k) : pennantref21_Said.f k s = some (told (decL s.data.toList)) := by
  have h := said_dec s hs _ _ [] 0 k (Nat.le_refl _) rfl (Nat.zero_le _) (by rw [List.drop_zero, size_list]; exact hk)
  unfold pennantref21_Said.f
  rw [show ((0 : Nat) : Int) = 0 from rfl] at h
  refine Eq.trans ?_ (h.trans ?_)
  · rfl
  · rw [List.drop_zero]
    cases decL s.data.toList <;> simp [told]
end Go.Proofs.YtmddmlmmmgbejaaDoor.Pure
