/-
  Layer 5, plain: digits, prefixes, numbers: what each comes to.
-/
import Derived.Test.YtjgoahlkodbemaaDoorEd
import Derived.Test.YtjgoahlkodbemaaDoorFun2
namespace Go.Eng.L05
open Go.Eng Go.Proofs Go.Lib

theorem F16_eq (s : List UInt8) (c : UInt8) : F16 s (UInt8.toNat c : Int) = some (r16 (idxI c s)) := by
  have : ora16 [.d (.s s), .d (.i .u8 (UInt8.toNat c : Int))] [] = some (r16 (idxI c s)) := by simp [ora16, r16]
  exact CI_ora rfl this
theorem F17_eq (s : List UInt8) (c : UInt8) : F17 s [c] = some (r17 (decide (0 ≤ idxI c s))) := CI_ora rfl rfl
theorem F18_eq (s : List UInt8) (c : UInt8) (h : s.length < 4294967281) : F18 s [c] = some (r18 (cut1 c s).1 (cut1 c s).2.1 (cut1 c s).2.2) := by
  refine CI_ora rfl ?_
  simp only [ora18, nblt_iff.2 h, cond_true]
  rfl
theorem F35_eq (n : Int) (h0 : -9223372036854775808 ≤ n) (h1 : n ≤ 9223372036854775807) : F35 n 10 = some (r35 (fmtI n)) := by
  refine CI_ora rfl ?_
  simp only [ora35]
  rw [if_pos ⟨trivial, h0, h1⟩]
  rfl
theorem F33_eq (f s : List UInt8) (a b k : Int) (hk : k = 1 ∨ k = 2) (h : s.length ≤ 281474976710656) : F33 f s a b (.ifc 67 (.i .i64 k)) = some (r33 .err) := by
  refine CI_ora rfl ?_
  simp only [ora33]
  rw [if_pos ⟨trivial, hk, h⟩]
  rfl

def dig (c : Int) : Bool := decide (48 ≤ c) && decide (c ≤ 57)

theorem F15_eq (c : Int) : F15 c = some (r15 (dig c)) := by
  refine F15_of c ?_
  unfold T15 dig
  cases decide (48 ≤ c) <;> rfl

def hasPre (s p : List UInt8) : Bool := decide (p.length ≤ s.length) && (List.take p.length s == p)
def hasSuf (s p : List UInt8) : Bool := decide (p.length ≤ s.length) && (List.drop (s.length - p.length) s == p)
def trimSuf (s p : List UInt8) : List UInt8 := bif hasSuf s p then List.take (s.length - p.length) s else s

theorem F30_eq (s p : List UInt8) : F30 s p = some (r30 (hasPre s p)) := by
  refine F30_of s p ?_
  unfold T30 hasPre
  by_cases h : p.length ≤ s.length
  · rw [decide_eq_true (show (p.length : Int) ≤ s.length by omega), cond_true, if_pos (by omega), Int.toNat_natCast, decide_eq_true h, Bool.true_and]
  · rw [decide_eq_false (show ¬ (p.length : Int) ≤ s.length by omega), cond_false, decide_eq_false h, Bool.false_and]

theorem F20_eq (s p : List UInt8) : F20 s p = some (r20 (hasPre s p)) := by
  refine F20_of s p ?_
  rw [T20, F30_eq, v30_mk]

theorem F38_eq (s p : List UInt8) (hs : s.length ≤ 9223372036854775807) : F38 s p = some (r38 (hasSuf s p)) := by
  refine F38_of s p ?_
  unfold T38 hasSuf
  by_cases h : p.length ≤ s.length
  · rw [decide_eq_true (show (p.length : Int) ≤ s.length by omega), cond_true, wr64 (by omega) (by omega), if_pos (by omega), decide_eq_true h, Bool.true_and, show ((s.length : Int) - p.length).toNat = s.length - p.length by omega]
  · rw [decide_eq_false (show ¬ (p.length : Int) ≤ s.length by omega), cond_false, decide_eq_false h, Bool.false_and]

theorem F29_eq (s p : List UInt8) (hs : s.length ≤ 9223372036854775807) : F29 s p = some (r29 (trimSuf s p)) := by
  refine F29_of s p ?_
  rw [T29, F38_eq s p hs, v38_mk]
  unfold trimSuf
  cases h : hasSuf s p with
  | false => rfl
  | true =>
    have hl : p.length ≤ s.length := by
      unfold hasSuf at h
      simp only [Bool.and_eq_true, decide_eq_true_eq] at h
      exact h.1
    rw [cond_true, cond_true, wr64 (by omega) (by omega), if_pos (by omega), show ((s.length : Int) - p.length).toNat = s.length - p.length by omega]

theorem F19_eq (s p : List UInt8) (hs : s.length ≤ 9223372036854775807) : F19 s p = some (r19 (trimSuf s p)) := by
  refine F19_of s p ?_
  rw [T19, F29_eq s p hs, v29_mk]

theorem trimSuf_len (s p : List UInt8) : (trimSuf s p).length ≤ s.length := by
  unfold trimSuf
  cases hasSuf s p <;> simp

theorem F25_eq (n : Int) (h0 : -9223372036854775808 ≤ n) (h1 : n ≤ 9223372036854775807) : F25 n 10 = some (r25 (fmtI n)) := by
  refine F25_of n 10 ?_
  rw [T25, F35_eq n h0 h1, v35_mk]

theorem F53_ok (c : Int) : ∃ n, 0 ≤ n ∧ n < 256 ∧ F53 c = some (r53 n) := by
  refine ⟨_, ?_, ?_, F53_of c rfl⟩
  · rw [wru8_eq]; omega
  · rw [wru8_eq]; omega

/-- What ParseUint tells: a number, and no error, or one of two. -/
def Err12 (d : D) : Prop := d = .ifc 67 (.i .i64 1) ∨ d = .ifc 67 (.i .i64 2)

theorem F39_l0_ok (x1 : Int) (hb : x1 = 10 ∨ x1 = 16) (x9 : List UInt8) (x10 x11 : Int) (h11 : 0 ≤ x11 ∧ x11 ≤ 18446744073709551615) (x99 : List UInt8) (hl : x99.length ≤ 1000000) :
    ∀ (m : Nat) (i : Nat) (x13 : Int), i + m = x99.length → 0 ≤ x13 → x13 ≤ 18446744073709551615 →
      ∃ n e, F39_l0 x1 false x9 x10 x11 false x13 x99 (x99.length : Int) (i : Int) = some (r39 n e) ∧ 0 ≤ n ∧ n ≤ 18446744073709551615 ∧ (e = .nili ∨ Err12 e)
  | 0, i, x13, hi, g0, g1 => by
    refine ⟨x13, .nili, F39_l0_of _ _ _ _ _ _ _ _ _ _ ?_, g0, g1, .inl rfl⟩
    unfold T39_l0
    rw [decide_eq_false (by omega)]
    rfl
  | m + 1, i, x13, hi, g0, g1 => by
    obtain ⟨c, hc⟩ : ∃ c, x99[i]? = some c := ⟨_, List.getElem?_eq_getElem (by omega)⟩
    have ih := fun x13 => F39_l0_ok x1 hb x9 x10 x11 h11 x99 hl m (i + 1) x13 (by omega)
    have hw : IntKind.wrap .i64 ((i : Int) + 1) = ((i + 1 : Nat) : Int) := by rw [wr64 (by omega) (by omega)]; omega
    -- a digit's stretch
    have key : ∀ b, ∃ n e, F39_r54 x1 false x9 x10 x11 false x13 (UInt8.toNat c : Int) x99 (x99.length : Int) (i : Int) b = some (r39 n e) ∧ 0 ≤ n ∧ n ≤ 18446744073709551615 ∧ (e = .nili ∨ Err12 e) := by
      intro b
      obtain ⟨d, _, _, hd⟩ := F53_ok (UInt8.toNat c : Int)
      suffices h : ∃ n e, T39_r54 x1 false x9 x10 x11 false x13 (UInt8.toNat c : Int) x99 (x99.length : Int) (i : Int) b = some (r39 n e) ∧ 0 ≤ n ∧ n ≤ 18446744073709551615 ∧ (e = .nili ∨ Err12 e) by
        obtain ⟨n, e, h, h'⟩ := h
        exact ⟨n, e, F39_r54_of _ _ _ _ _ _ _ _ _ _ _ _ h, h'⟩
      unfold T39_r54
      rw [hd]
      simp only [v53_mk, hw, Bool.cond_eq_ite, decide_eq_true_eq]
      have w : ∀ z : Int, 0 ≤ IntKind.wrap .u64 z ∧ IntKind.wrap .u64 z ≤ 18446744073709551615 := fun z => by rw [wru64_eq]; omega
      repeat' split
      all_goals first
        | exact ⟨_, _, rfl, h11.1, h11.2, .inr (.inl rfl)⟩
        | exact ⟨_, _, rfl, by decide, by decide, .inr (.inr rfl)⟩
        | exact ih _ (w _).1 (w _).2
    suffices h : ∃ n e, T39_l0 x1 false x9 x10 x11 false x13 x99 (x99.length : Int) (i : Int) = some (r39 n e) ∧ 0 ≤ n ∧ n ≤ 18446744073709551615 ∧ (e = .nili ∨ Err12 e) by
      obtain ⟨n, e, h, h'⟩ := h
      exact ⟨n, e, F39_l0_of _ _ _ _ _ _ _ _ _ _ h, h'⟩
    unfold T39_l0
    rw [decide_eq_true (show (i : Int) < x99.length by omega), cond_true, nth_at rfl hc]
    simp only [Bool.cond_eq_ite]
    repeat' split
    all_goals first
      | contradiction
      | exact key _

theorem F39_ok (s : List UInt8) (b z : Int) (hb : b = 10 ∨ b = 16) (hz : z = 64 ∨ z = 8) (hl : s.length ≤ 1000000) :
    ∃ n e, F39 s b z = some (r39 n e) ∧ 0 ≤ n ∧ n ≤ 18446744073709551615 ∧ (e = .nili ∨ Err12 e) := by
  have key : ∃ n e, F39_r28 s b z false s false = some (r39 n e) ∧ 0 ≤ n ∧ n ≤ 18446744073709551615 ∧ (e = .nili ∨ Err12 e) := by
    suffices h : ∃ n e, T39_r28 s b z false s false = some (r39 n e) ∧ 0 ≤ n ∧ n ≤ 18446744073709551615 ∧ (e = .nili ∨ Err12 e) by
      obtain ⟨n, e, h, h'⟩ := h
      exact ⟨n, e, F39_r28_of _ _ _ _ _ _ h, h'⟩
    unfold T39_r28
    have w : ∀ z : Int, 0 ≤ IntKind.wrap .u64 z ∧ IntKind.wrap .u64 z ≤ 18446744073709551615 := fun z => by rw [wru64_eq]; omega
    rcases hb with rfl | rfl <;> rcases hz with rfl | rfl <;> simp only [Bool.cond_eq_ite, decide_eq_true_eq, beq_iff_eq, if_false, Bool.false_eq_true]
    all_goals rw [if_neg (by decide), if_neg (by decide)]
    all_goals first | rw [if_pos trivial] | rw [if_neg (by decide), if_pos trivial]
    all_goals rw [if_neg (by have := (w 64).1; have := (w 8).1; omega)]
    · exact F39_l0_ok 10 (.inl rfl) s _ _ (w _) s hl s.length 0 0 (by omega) (by omega) (by omega)
    · exact F39_l0_ok 10 (.inl rfl) s _ _ (w _) s hl s.length 0 0 (by omega) (by omega) (by omega)
    · exact F39_l0_ok 16 (.inr rfl) s _ _ (w _) s hl s.length 0 0 (by omega) (by omega) (by omega)
    · exact F39_l0_ok 16 (.inr rfl) s _ _ (w _) s hl s.length 0 0 (by omega) (by omega) (by omega)
  suffices h : ∃ n e, T39 s b z = some (r39 n e) ∧ 0 ≤ n ∧ n ≤ 18446744073709551615 ∧ (e = .nili ∨ Err12 e) by
    obtain ⟨n, e, h, h'⟩ := h
    exact ⟨n, e, F39_of _ _ _ h, h'⟩
  unfold T39
  cases hs : (s == []) with
  | true => exact ⟨_, _, rfl, by decide, by decide, .inr (.inr rfl)⟩
  | false =>
    rw [cond_false, decide_eq_true (show 2 ≤ b by omega), cond_true, decide_eq_true (show b ≤ 36 by omega), cond_true, show (b == 0) = false by simp; omega, show (z == 0) = false by simp; omega]
    exact key

theorem F32_ok (s : List UInt8) (hl : s.length ≤ 1000000) : ∃ n e, F32 s 10 64 = some (r32 n e) ∧ -9223372036854775808 ≤ n ∧ n ≤ 9223372036854775807 ∧ (e = .nili ∨ Err12 e) := by
  have w : ∀ z : Int, -9223372036854775808 ≤ IntKind.wrap .i64 z ∧ IntKind.wrap .i64 z ≤ 9223372036854775807 := fun z => by rw [IntKind.wrap_i64]; omega
  have key : ∀ b m, ∃ n e, F32_r20 64 b m = some (r32 n e) ∧ -9223372036854775808 ≤ n ∧ n ≤ 9223372036854775807 ∧ (e = .nili ∨ Err12 e) := by
    intro b m
    suffices h : ∃ n e, T32_r20 64 b m = some (r32 n e) ∧ -9223372036854775808 ≤ n ∧ n ≤ 9223372036854775807 ∧ (e = .nili ∨ Err12 e) by
      obtain ⟨n, e, h, h'⟩ := h
      exact ⟨n, e, F32_r20_of _ _ _ h, h'⟩
    unfold T32_r20
    rw [if_neg (by have : 0 ≤ IntKind.wrap .u64 (IntKind.wrap .i64 (64 - 1)) := by (rw [wru64_eq]; omega)
                   omega)]
    simp only [Bool.cond_eq_ite]
    repeat' split
    all_goals first
      | exact ⟨_, _, rfl, (w _).1, (w _).2, .inl rfl⟩
      | exact ⟨_, _, rfl, (w _).1, (w _).2, .inr (.inl rfl)⟩
  -- an error goes out, or a number
  have fin : ∀ b n e, (e = .nili ∨ Err12 e) → 0 ≤ n → ∃ m e', (pIeq true (.d e) fun v3 => asD v3 fun e4 => asB e4 fun b5 => (bif b5 then (pIeqv true 67 (.d e) (.d (.ifc 67 (.i .i64 1))) fun v6 => asD v6 fun e7 => asB e7 fun b8 => (bif b8 then (some (r32 0 e)) else (bif ((64 : Int) == 0) then (F32_r20 64 b n) else (F32_r20 64 b n)))) else (bif ((64 : Int) == 0) then (F32_r20 64 b n) else (F32_r20 64 b n)))) = some (r32 m e') ∧ -9223372036854775808 ≤ m ∧ m ≤ 9223372036854775807 ∧ (e' = .nili ∨ Err12 e') := by
    intro b n e he hn
    rcases he with rfl | rfl | rfl
    · exact key b n
    · exact key b n
    · exact ⟨0, _, rfl, by decide, by decide, .inr (.inr rfl)⟩
  suffices h : ∃ n e, T32 s 10 64 = some (r32 n e) ∧ -9223372036854775808 ≤ n ∧ n ≤ 9223372036854775807 ∧ (e = .nili ∨ Err12 e) by
    obtain ⟨n, e, h, h'⟩ := h
    exact ⟨n, e, F32_of _ _ _ h, h'⟩
  unfold T32
  cases s with
  | nil => exact ⟨_, _, rfl, by decide, by decide, .inr (.inr rfl)⟩
  | cons c t =>
    obtain ⟨n, e, h1, h2, _, h4⟩ := F39_ok (c :: t) 10 64 (.inl rfl) (.inl rfl) hl
    obtain ⟨n', e', k1, k2, _, k4⟩ := F39_ok t 10 64 (.inl rfl) (.inl rfl) (by simp at hl; omega)
    rw [show ((c :: t) == ([] : List UInt8)) = false from rfl, cond_false, nth_zero]
    have hd : List.drop (Int.toNat (1 : Int)) (c :: t) = t := rfl
    rw [hd, h1, k1, if_pos (by simp; omega), v39_mk, v39_mk, v39_mk]
    cases (UInt8.toNat c : Int) == 43 with
    | true => exact fin false n' e' k4 k2
    | false =>
      rw [cond_false]
      cases (UInt8.toNat c : Int) == 45 with
      | true => rw [cond_true, if_pos (by simp; omega)]; exact fin true n' e' k4 k2
      | false => exact fin false n e h4 h2

theorem F23_ok (s : List UInt8) (hl : s.length ≤ 1000000) : ∃ n e, F23 s 10 64 = some (r23 n e) ∧ -9223372036854775808 ≤ n ∧ n ≤ 9223372036854775807 ∧ (e = .nili ∨ e = .err) := by
  obtain ⟨n, e, h, h0, h1, he⟩ := F32_ok s hl
  suffices h : ∃ n e, T23 s 10 64 = some (r23 n e) ∧ -9223372036854775808 ≤ n ∧ n ≤ 9223372036854775807 ∧ (e = .nili ∨ e = .err) by
    obtain ⟨n, e, h, h'⟩ := h
    exact ⟨n, e, F23_of _ _ _ h, h'⟩
  unfold T23
  rw [h, v32_mk]
  rcases he with rfl | rfl | rfl
  · exact ⟨n, _, rfl, h0, h1, .inl rfl⟩
  · simp only [pIeq_ifc, asD_d, asB_b, cond_true]
    rw [F33_eq _ _ _ _ _ (.inl rfl) (by omega)]
    exact ⟨n, _, rfl, h0, h1, .inr rfl⟩
  · simp only [pIeq_ifc, asD_d, asB_b, cond_true]
    rw [F33_eq _ _ _ _ _ (.inr rfl) (by omega)]
    exact ⟨n, _, rfl, h0, h1, .inr rfl⟩

theorem F31_ok (s : List UInt8) (b z : Int) (hb : b = 10 ∨ b = 16) (hz : z = 64 ∨ z = 8) (hl : s.length ≤ 1000000) : ∃ n e, F31 s b z = some (r31 n e) ∧ 0 ≤ n := by
  obtain ⟨n, e, h, h0, h1, he⟩ := F39_ok s b z hb hz hl
  suffices h : ∃ n e, T31 s b z = some (r31 n e) ∧ 0 ≤ n by
    obtain ⟨n, e, h, h'⟩ := h
    exact ⟨n, e, F31_of _ _ _ h, h'⟩
  unfold T31
  rw [h, v39_mk]
  rcases he with rfl | rfl | rfl
  · exact ⟨n, _, rfl, h0⟩
  · simp only [pIeq_ifc, asD_d, asB_b, cond_true]
    rw [F33_eq _ _ _ _ _ (.inl rfl) (by omega)]
    exact ⟨n, _, rfl, h0⟩
  · simp only [pIeq_ifc, asD_d, asB_b, cond_true]
    rw [F33_eq _ _ _ _ _ (.inr rfl) (by omega)]
    exact ⟨n, _, rfl, h0⟩

/-- lex.number. -/
theorem F14_ok (s : List UInt8) (hl : s.length ≤ 1000000) : ∃ n b, F14 s = some (r14 n b) := by
  obtain ⟨n, e, h, h0, h1, he⟩ := F23_ok s hl
  suffices h : ∃ n b, T14 s = some (r14 n b) by
    obtain ⟨n, e, h⟩ := h
    exact ⟨n, e, F14_of _ h⟩
  unfold T14
  rw [h, v23_mk, F25_eq n h0 h1, v25_mk]
  rcases he with rfl | rfl
  · simp only [pIeq_nili, asD_d, asB_b, Bool.cond_eq_ite]
    repeat' split
    all_goals exact ⟨_, _, rfl⟩
  · exact ⟨_, _, rfl⟩

theorem cut1_len (c : UInt8) (s : List UInt8) : (cut1 c s).1.length ≤ s.length ∧ (cut1 c s).2.1.length ≤ s.length := by
  unfold cut1
  rw [cutB_eq]
  by_cases h : 0 ≤ indexByte s c
  · rw [if_pos h]; simp; omega
  · rw [if_neg h]; simp

/-- lex.ends. -/
theorem F12_ok (s : List UInt8) (h0 : 1 ≤ s.length) (hl : s.length ≤ 1000000) : ∃ b, F12 s = some (r12 b) := by
  suffices h : ∃ b, T12 s = some (r12 b) by
    obtain ⟨b, h⟩ := h
    exact ⟨b, F12_of _ h⟩
  unfold T12
  have hd : (List.drop (Int.toNat (1 : Int)) s).length ≤ s.length := by simp
  have ht := trimSuf_len (List.drop (Int.toNat (1 : Int)) s) [93]
  obtain ⟨c1, c2⟩ := cut1_len 44 (trimSuf (List.drop (Int.toNat (1 : Int)) s) [93])
  rw [if_pos (by omega), F19_eq _ _ (by omega), v19_mk, F18_eq _ _ (by omega), v18_mk]
  obtain ⟨n, b, h1⟩ := F14_ok (cut1 44 (trimSuf (List.drop (Int.toNat (1 : Int)) s) [93])).1 (by omega)
  obtain ⟨m, d, h2⟩ := F14_ok (cut1 44 (trimSuf (List.drop (Int.toNat (1 : Int)) s) [93])).2.1 (by omega)
  rw [h1, v14_mk, h2, v14_mk]
  simp only [Bool.cond_eq_ite]
  repeat' split
  all_goals exact ⟨_, rfl⟩

end Go.Eng.L05
namespace Go.Eng.L05
open Go.Eng Go.Proofs Go.Lib

theorem F58_ok : ∀ (m : Nat) (a b : Int), b.toNat ≤ m → 0 ≤ a → 0 ≤ b → F58_l0 a b = some (r58 ((Int.gcd a b : Nat) : Int))
  | 0, a, b, hm, ha, hb => by
    refine F58_l0_of _ _ ?_
    unfold T58_l0
    have : b = 0 := by omega
    subst this
    show some (r58 a) = _
    rw [Int.gcd_zero_right]
    congr 2; omega
  | m + 1, a, b, hm, ha, hb => by
    refine F58_l0_of _ _ ?_
    unfold T58_l0
    by_cases h : b = 0
    · subst h
      show some (r58 a) = _
      rw [Int.gcd_zero_right]
      congr 2; omega
    · have hne : (b != 0) = true := by simpa using h
      rw [hne, cond_true, if_neg h]
      have h1 : Int.tmod a b = a % b := Int.tmod_eq_emod_of_nonneg ha
      have h2 := Int.emod_nonneg a h
      have h3 := Int.emod_lt_of_pos a (show 0 < b by omega)
      rw [h1, F58_ok m b (a % b) (by omega) hb h2]
      congr 3
      unfold Int.gcd
      rw [Int.natAbs_emod_of_nonneg ha, Nat.gcd_comm b.natAbs, ← Nat.gcd_rec, Nat.gcd_comm]

theorem F58_eq (a b : Int) (ha : 0 ≤ a) (hb : 0 ≤ b) : F58 a b = some (r58 ((Int.gcd a b : Nat) : Int)) := F58_of _ _ (F58_ok _ a b (Nat.le_refl _) ha hb)

theorem F59_eq (n : Int) (h0 : -9223372036854775808 ≤ n) (h1 : n ≤ 9223372036854775807) : F59 n = some (r59 ((Int.natAbs n : Nat) : Int)) := by
  refine F59_of _ ?_
  unfold T59
  by_cases h : n < 0
  · rw [decide_eq_true h, cond_true, wru64_eq, wru64_eq]
    congr 2; omega
  · rw [decide_eq_false h, cond_false, wru64_eq]
    congr 2; omega

/-- rat.Of comes to something. -/
theorem F44_ok (n d : Int) (hn0 : -9223372036854775808 ≤ n) (hn1 : n ≤ 9223372036854775807) (hd0 : -9223372036854775808 ≤ d) (hd1 : d ≤ 9223372036854775807) : ∃ a b e, F44 n d = some (r44 a b e) := by
  suffices h : ∃ a b e, T44 n d = some (r44 a b e) by
    obtain ⟨a, b, e, h⟩ := h
    exact ⟨a, b, e, F44_of _ _ h⟩
  unfold T44
  by_cases h : d = 0
  · subst h; exact ⟨_, _, _, rfl⟩
  · have hg : ((Int.gcd (n.natAbs : Int) (d.natAbs : Int) : Nat) : Int) ≠ 0 := by
      intro e
      have e' : Int.gcd (n.natAbs : Int) (d.natAbs : Int) = 0 := by omega
      rw [Int.gcd_eq_zero_iff] at e'
      omega
    rw [show (d == 0) = false by simpa using h, cond_false, F59_eq n hn0 hn1, F59_eq d hd0 hd1, v59_mk, v59_mk, F58_eq _ _ (by omega) (by omega), v58_mk, vP59_mk, if_neg hg, vP59_mk, if_neg hg]
    simp only [Bool.cond_eq_ite]
    repeat' split
    all_goals exact ⟨_, _, _, rfl⟩

theorem F45_eq (k n d : Int) (s : List UInt8) : F45 k n d s = some (r45 n d) := F45_of _ _ _ _ rfl

/-- value.Check comes to something. -/
theorem F34_ok (k n d : Int) (s : List UInt8) (hn0 : -9223372036854775808 ≤ n) (hn1 : n ≤ 9223372036854775807) (hd0 : -9223372036854775808 ≤ d) (hd1 : d ≤ 9223372036854775807) : ∃ e, F34 k n d s = some (r34 e) := by
  obtain ⟨a, b, e, h⟩ := F44_ok n d hn0 hn1 hd0 hd1
  suffices h : ∃ e, T34 k n d s = some (r34 e) by
    obtain ⟨e, h⟩ := h
    exact ⟨e, F34_of _ _ _ _ h⟩
  unfold T34
  rw [h, v44_mk, F45_eq, vP45_mk]
  simp only [Bool.cond_eq_ite]
  repeat' split
  all_goals exact ⟨_, rfl⟩

theorem hexdigits (n : Int) (h0 : 0 ≤ n) (h1 : n < 16) : ∃ c : UInt8, ∀ {α : Type} (y : UInt8 → Option α), nth ([48, 49, 50, 51, 52, 53, 54, 55, 56, 57, 97, 98, 99, 100, 101, 102] : List UInt8) n y = y c := by
  have hl : n.toNat < ([48, 49, 50, 51, 52, 53, 54, 55, 56, 57, 97, 98, 99, 100, 101, 102] : List UInt8).length := by simp; omega
  exact ⟨_, fun y => nth_at (i := n.toNat) (by omega) (List.getElem?_eq_getElem hl) y⟩

theorem and15 (c : UInt8) : 0 ≤ IntKind.wrap .u8 (BitVec.toNat (BitVec.ofInt (IntKind.bits .u8) (UInt8.toNat c : Int) &&& BitVec.ofInt (IntKind.bits .u8) 15)) ∧ IntKind.wrap .u8 (BitVec.toNat (BitVec.ofInt (IntKind.bits .u8) (UInt8.toNat c : Int) &&& BitVec.ofInt (IntKind.bits .u8) 15)) < 16 := by
  have h : BitVec.toNat (BitVec.ofInt (IntKind.bits .u8) (UInt8.toNat c : Int) &&& BitVec.ofInt (IntKind.bits .u8) 15) ≤ 15 := by
    rw [BitVec.toNat_and]
    exact Nat.le_trans Nat.and_le_right (by decide)
  rw [wru8 (by omega) (by omega)]
  omega

theorem shr4 (c : UInt8) : 0 ≤ Int.fdiv (UInt8.toNat c : Int) (2 ^ (min (Int.toNat 4) (IntKind.bits .u8))) ∧ Int.fdiv (UInt8.toNat c : Int) (2 ^ (min (Int.toNat 4) (IntKind.bits .u8))) < 16 := by
  have e : (2 : Int) ^ (min (Int.toNat 4) (IntKind.bits .u8)) = 16 := by decide
  rw [e, Int.fdiv_eq_ediv_of_nonneg _ (by decide)]
  have := u8_lt c
  have := u8_ge c
  omega

/-- quoted comes to something. -/
theorem F22_l0_ok (s : List UInt8) (hs : s.length ≤ 1000000) : ∀ (m i : Nat) (b : List UInt8), i + m = s.length → b.length + 4 * m ≤ 10000000 → ∃ y, F22_l0 b s (s.length : Int) (i : Int) = some (r22 y)
  | 0, i, b, hi, hb => by
    suffices h : ∃ y, T22_l0 b s (s.length : Int) (i : Int) = some (r22 y) from let ⟨y, h⟩ := h; ⟨y, F22_l0_of _ _ _ _ h⟩
    unfold T22_l0
    rw [decide_eq_false (by omega), cond_false, if_pos (by simp; omega)]
    exact ⟨_, rfl⟩
  | m + 1, i, b, hi, hb => by
    obtain ⟨c, hc⟩ : ∃ c, s[i]? = some c := ⟨_, List.getElem?_eq_getElem (by omega)⟩
    have ih := fun b => F22_l0_ok s hs m (i + 1) b (by omega)
    have hw : IntKind.wrap .i64 ((i : Int) + 1) = ((i + 1 : Nat) : Int) := by rw [wr64 (by omega) (by omega)]; omega
    obtain ⟨d1, k1⟩ := hexdigits _ (shr4 c).1 (shr4 c).2
    obtain ⟨d2, k2⟩ := hexdigits _ (and15 c).1 (and15 c).2
    suffices h : ∃ y, T22_l0 b s (s.length : Int) (i : Int) = some (r22 y) from let ⟨y, h⟩ := h; ⟨y, F22_l0_of _ _ _ _ h⟩
    unfold T22_l0
    rw [decide_eq_true (show (i : Int) < s.length by omega), cond_true, nth_at rfl hc, if_neg (by decide)]
    simp only [k1, k2, hw]
    have b1 : bytesOfDs [.d (.i .u8 (UInt8.toNat c : Int))] = some [c] := bytes_one c
    have b2 : bytesOfDs [.d (.i .u8 92), .d (.i .u8 (UInt8.toNat c : Int))] = some [92, c] := bytes_cons (n := 92) (by decide) (by decide) b1
    have b4 : bytesOfDs [.d (.i .u8 92), .d (.i .u8 120), .d (.i .u8 (UInt8.toNat d1 : Int)), .d (.i .u8 (UInt8.toNat d2 : Int))] = some [92, 120, d1, d2] := by
      refine bytes_cons (n := 92) (by decide) (by decide) (bytes_cons (n := 120) (by decide) (by decide) ?_)
      rw [bytes_cons (u8_ge d1) (u8_lt d1) (bytes_one d2)]
      simp
    rw [b1, b2, b4]
    simp only [opt_mk, Bool.cond_eq_ite]
    repeat' split
    all_goals first
      | exact ih _ (by simp; omega)
      | (exfalso; simp at *; omega)

theorem F22_ok (s : List UInt8) (hs : s.length ≤ 1000000) : ∃ y, F22 s = some (r22 y) := by
  obtain ⟨y, h⟩ := F22_l0_ok s hs s.length 0 [34] (by omega) (by simp; omega)
  exact ⟨y, F22_of _ h⟩

/-- unquoted comes to something. -/
theorem F21_l0_ok : ∀ (m : Nat) (s b : List UInt8), s.length ≤ m → b.length + s.length ≤ 1000000 → ∃ y, F21_l0 s b = some (r21 y) ∧ y.length ≤ b.length + s.length
  | 0, s, b, hm, hb => by
    have : s = [] := List.length_eq_zero_iff.1 (by omega)
    subst this
    exact ⟨b, F21_l0_of _ _ rfl, by simp⟩
  | m + 1, [], b, hm, hb => ⟨b, F21_l0_of _ _ rfl, by simp⟩
  | m + 1, c :: t, b, hm, hb => by
    simp only [List.length_cons] at hm hb
    have ih := fun s b h => F21_l0_ok m s b h
    suffices h : ∃ y, T21_l0 (c :: t) b = some (r21 y) ∧ y.length ≤ b.length + (c :: t).length from let ⟨y, h, h'⟩ := h; ⟨y, F21_l0_of _ _ h, h'⟩
    -- one byte more, so many bytes on
    have go : ∀ (n : Nat) (k : Int) (x : UInt8), k = n → 1 ≤ n → n ≤ t.length + 1 → ∃ y, (if List.length b + List.length [x] ≤ 140737488355328 then (if (0 : Int) ≤ k ∧ k ≤ (List.length (c :: t) : Int) then (F21_l0 (List.drop (Int.toNat k) (c :: t)) (b ++ [x])) else none) else none) = some (r21 y) ∧ y.length ≤ b.length + (c :: t).length := by
      rintro n k x rfl h1 h2
      rw [if_pos (by simp; omega), if_pos (by simp; omega), Int.toNat_natCast]
      obtain ⟨y, g1, g2⟩ := ih (List.drop n (c :: t)) (b ++ [x]) (by simp; omega) (by simp; omega)
      exact ⟨y, g1, by simp at g2 ⊢; omega⟩
    unfold T21_l0
    rw [decide_eq_true (show (0 : Int) < ((c :: t).length : Int) by rw [List.length_cons]; omega), cond_true, nth_zero]
    rw [bytes_one c]
    simp only [opt_mk]
    cases (UInt8.toNat c : Int) == 92 with
    | false => exact go 1 1 c rfl (by omega) (by omega)
    | true =>
      rw [cond_true]
      cases t with
      | nil =>
        rw [decide_eq_false (by simp), cond_false]
        exact go 1 1 c rfl (by omega) (by simp)
      | cons d t =>
        rw [decide_eq_true (by simp; omega), cond_true, nth_one, bytes_one d]
        simp only [opt_mk]
        cases (UInt8.toNat d : Int) == 120 with
        | false => exact go 2 2 d rfl (by omega) (by simp)
        | true =>
          rw [cond_true]
          by_cases hl : 4 ≤ t.length + 2
          · rw [decide_eq_true (by simp; omega), cond_true, if_pos (by simp; omega)]
            obtain ⟨n, e, h1, h2⟩ := F31_ok (List.drop (Int.toNat (2 : Int)) (List.take (Int.toNat (4 : Int)) (c :: d :: t))) 16 8 (.inr rfl) (.inr rfl) (by simp; omega)
            rw [h1, v31_mk, bytes_cons (by rw [wru8_eq]; omega) (by rw [wru8_eq]; omega) bytes_nil, opt_mk]
            exact go 4 4 _ rfl (by omega) (by simp; omega)
          · rw [decide_eq_false (by simp; omega), cond_false]
            exact go 2 2 d rfl (by omega) (by simp)

theorem F21_ok (s : List UInt8) (h0 : 1 ≤ s.length) (hs : s.length ≤ 1000000) : ∃ y, F21 s = some (r21 y) ∧ y.length ≤ s.length := by
  suffices h : ∃ y, T21 s = some (r21 y) ∧ y.length ≤ s.length from let ⟨y, h, h'⟩ := h; ⟨y, F21_of _ h, h'⟩
  unfold T21
  have hd : (List.drop (Int.toNat (1 : Int)) s).length ≤ s.length := by simp
  have ht := trimSuf_len (List.drop (Int.toNat (1 : Int)) s) [34]
  rw [if_pos (by omega), F19_eq _ _ (by omega), v19_mk]
  obtain ⟨y, g1, g2⟩ := F21_l0_ok _ (trimSuf (List.drop (Int.toNat (1 : Int)) s) [34]) [] (Nat.le_refl _) (by rw [List.length_nil]; omega)
  exact ⟨y, g1, by rw [List.length_nil] at g2; omega⟩

theorem fmtI_len (n : Int) : (fmtI n).length ≤ 100 := by
  have : ∀ (f m : Nat) (acc : List UInt8), (digs f m acc).length ≤ f + acc.length := by
    intro f
    induction f with
    | zero => intro m acc; simp [digs]
    | succ f ih =>
      intro m acc
      rw [digs]
      have h1 := ih (m / 10) ((UInt8.ofNat (48 + m % 10)) :: acc)
      rw [List.length_cons] at h1
      cases Nat.blt m 10
      · rw [cond_false]; omega
      · rw [cond_true, List.length_cons]; omega
  unfold fmtI
  split
  · have := this 20 ‹_› []; simp at this; omega
  · rename_i m
    have := this 20 (m + 1) []
    simp at this ⊢; omega

/-- value.Print comes to something. -/
theorem F24_ok (k n d : Int) (s : List UInt8) (hn0 : -9223372036854775808 ≤ n) (hn1 : n ≤ 9223372036854775807) (hd0 : -9223372036854775808 ≤ d) (hd1 : d ≤ 9223372036854775807) (hs : s.length ≤ 1000000) : ∃ t e, F24 k n d s = some (r24 t e) := by
  obtain ⟨e, h⟩ := F34_ok k n d s hn0 hn1 hd0 hd1
  obtain ⟨q, hq⟩ := F22_ok s hs
  suffices h : ∃ t e, T24 k n d s = some (r24 t e) by
    obtain ⟨t, e, h⟩ := h
    exact ⟨t, e, F24_of _ _ _ _ h⟩
  unfold T24
  have l1 := fmtI_len n
  have l2 := fmtI_len d
  rw [h, v34_mk, F25_eq n hn0 hn1, F25_eq d hd0 hd1, v25_mk, vP25_mk, if_pos (by simp; omega), vP25_mk, if_pos (by simp; omega), hq, v22_mk]
  simp only [Bool.cond_eq_ite]
  repeat' split
  all_goals exact ⟨_, _, rfl⟩

/-- value.Parse comes to something. -/
theorem F13_ok (s : List UInt8) (h0 : 1 ≤ s.length) (hs : s.length ≤ 1000000) : ∃ k n d t e, F13 s = some (r13 k n d t e) := by
  suffices h : ∃ k n d t e, T13 s = some (r13 k n d t e) by
    obtain ⟨k, n, d, t, e, h⟩ := h
    exact ⟨k, n, d, t, e, F13_of _ h⟩
  unfold T13
  rw [F20_eq, v20_mk]
  cases hasPre s [34] with
  | true =>
    rw [cond_true]
    obtain ⟨y, g1, g2⟩ := F21_ok s h0 hs
    obtain ⟨q, hq⟩ := F22_ok y (by omega)
    rw [g1, v21_mk, hq, v22_mk]
    simp only [Bool.cond_eq_ite]
    repeat' split
    all_goals exact ⟨_, _, _, _, _, rfl⟩
  | false =>
    obtain ⟨c1, c2⟩ := cut1_len 47 s
    rw [cond_false, F18_eq _ _ (by omega), v18_mk]
    obtain ⟨n, e, h1, h2, h3, h4⟩ := F23_ok (cut1 47 s).1 (by omega)
    obtain ⟨d, e', k1, k2, k3, k4⟩ := F23_ok (cut1 47 s).2.1 (by omega)
    obtain ⟨t1, e1, p1⟩ := F24_ok 2 n d [] h2 h3 k2 k3 (by simp)
    obtain ⟨t2, e2, p2⟩ := F24_ok 1 n 0 [] h2 h3 (by decide) (by decide) (by simp)
    rw [h1, v23_mk, k1, v23_mk, p1, v24_mk, p2, v24_mk]
    simp only [Bool.cond_eq_ite]
    repeat' split
    all_goals exact ⟨_, _, _, _, _, rfl⟩

end Go.Eng.L05
namespace Go.Eng.L05
open Go.Eng Go.Proofs

def letterC (c : UInt8) : Bool := (decide (97 ≤ (UInt8.toNat c : Int)) && decide ((UInt8.toNat c : Int) ≤ 122)) || dig (UInt8.toNat c : Int) || (UInt8.toNat c : Int) == 95

def lettersN : List UInt8 → Nat
  | [] => 0
  | c :: r => bif letterC c then lettersN r + 1 else 0

def bracketN : List UInt8 → Option Nat
  | [] => none
  | c :: r => bif (UInt8.toNat c : Int) != 93 then (bracketN r).map (· + 1) else some 1

def quoteN : List UInt8 → Option Nat
  | [] => none
  | [c] => bif (UInt8.toNat c : Int) != 34 then none else some 1
  | c :: d :: r => bif (UInt8.toNat c : Int) != 34 then (bif (UInt8.toNat c : Int) == 92 then (quoteN r).map (· + 2) else (quoteN (d :: r)).map (· + 1)) else some 1

def digHead : List UInt8 → Bool
  | [] => false
  | d :: _ => dig (UInt8.toNat d : Int)

def digitsN (val : Bool) : Bool → List UInt8 → Nat
  | _, [] => 0
  | seen, c :: r => bif dig (UInt8.toNat c : Int) then digitsN val seen r + 1 else bif (val && (UInt8.toNat c : Int) == 47 && digHead r && !seen) then digitsN val true r + 1 else 0

def eqHead : List UInt8 → Bool
  | [] => false
  | d :: _ => (UInt8.toNat d : Int) == 61

def lenOr (k : Int) : Option Nat → Int × Nat
  | some m => (k, m + 1)
  | none => (0, 0)

def signC (c : UInt8) : Bool := decide (0 ≤ idxI c [61, 43, 42, 60, 45])

def behindS : List UInt8 → Int × Nat
  | [] => (0, 0)
  | c :: r => bif (UInt8.toNat c : Int) == 40 then (1, 1) else bif (UInt8.toNat c : Int) == 41 then (2, 1) else bif decide (97 ≤ (UInt8.toNat c : Int)) && decide ((UInt8.toNat c : Int) ≤ 122) then (3, lettersN r + 1)
    else bif dig (UInt8.toNat c : Int) || ((UInt8.toNat c : Int) == 45 && digHead r) then (6, digitsN true false r + 1)
    else bif (UInt8.toNat c : Int) == 60 && eqHead r then (4, 2)
    else bif signC c then (4, 1)
    else bif (UInt8.toNat c : Int) == 91 then lenOr 5 (bracketN r)
    else bif (UInt8.toNat c : Int) == 34 then lenOr 6 (quoteN r)
    else bif (UInt8.toNat c : Int) == 64 then (7, digitsN false false r + 1)
    else (0, 0)

def endS (a : Nat) (p : Int × Nat) : Int := if p.1 = 0 then 0 else ((a + p.2 : Nat) : Int)

theorem endS_mk (a : Nat) (k : Int) (n : Nat) (h : k ≠ 0) : endS a (k, n) = ((a + n : Nat) : Int) := by unfold endS; rw [if_neg h]

theorem wsucc (s : List UInt8) (i : Nat) (hs : s.length ≤ 1000000) (h : i ≤ s.length + 2) : IntKind.wrap .i64 ((i : Int) + 1) = ((i + 1 : Nat) : Int) := by rw [wr64 (by omega) (by omega)]; omega

theorem getElem_lt {s : List UInt8} {i n : Nat} (h : i + (n + 1) = s.length) : ∃ c, s[i]? = some c ∧ s.drop i = c :: s.drop (i + 1) := by
  have hl : i < s.length := by omega
  exact ⟨s[i], List.getElem?_eq_getElem hl, drop_cons_of (List.getElem?_eq_getElem hl)⟩

theorem drop_end {s : List UInt8} {i : Nat} (h : s.length ≤ i) : s.drop i = [] := List.drop_eq_nil_of_le h

theorem letters_eq (s : List UInt8) (hs : s.length ≤ 1000000) : ∀ (n i : Nat), i + n = s.length → F11_s0_0 s (i : Int) = some (r11 3 ((i + lettersN (s.drop i) : Nat) : Int))
  | 0, i, h => by
    refine F11_s0_0_of _ _ ?_
    unfold T11_s0_0
    rw [decide_eq_false (by omega), cond_false, drop_end (by omega)]
    rfl
  | n + 1, i, h => by
    obtain ⟨c, hc, hd⟩ := getElem_lt h
    refine F11_s0_0_of _ _ ?_
    unfold T11_s0_0
    rw [decide_eq_true (show (i : Int) < s.length by omega), cond_true]
    simp only [nth_at rfl hc, F15_eq, v15_mk, wsucc s i hs (by omega), letters_eq s hs n (i + 1) (by omega)]
    rw [hd, lettersN, letterC]
    cases decide (97 ≤ (UInt8.toNat c : Int)) <;> cases decide ((UInt8.toNat c : Int) ≤ 122) <;> cases dig (UInt8.toNat c : Int) <;> cases (UInt8.toNat c : Int) == 95 <;>
      simp only [Bool.and_true, Bool.and_false, Bool.or_true, Bool.or_false, Bool.true_or, Bool.false_or, Bool.and_self, Bool.or_self, cond_true, cond_false] <;> first | rfl | (congr 3; omega)

theorem bracket_eq (s : List UInt8) (hs : s.length ≤ 1000000) : ∀ (n i : Nat), i + n = s.length → F11_s0_2 s (i : Int) = match bracketN (s.drop i) with
    | some m => some (r11 5 ((i + m : Nat) : Int))
    | none => some (r11 0 0)
  | 0, i, h => by
    rw [drop_end (by omega)]
    refine F11_s0_2_of _ _ ?_
    unfold T11_s0_2
    rw [show ((i : Int) == s.length) = true by simp; omega]
    rfl
  | n + 1, i, h => by
    obtain ⟨c, hc, hd⟩ := getElem_lt h
    have hw : IntKind.wrap .i64 ((IntKind.wrap .i64 ((i : Int) + 1)) - 1) = (i : Int) := by rw [wsucc s i hs (by omega), wr64 (by omega) (by omega)]; omega
    rw [hd, bracketN]
    have ih := bracket_eq s hs n (i + 1) (by omega)
    cases hb : (UInt8.toNat c : Int) != 93 with
    | true =>
      rw [cond_true]
      cases hm : bracketN (s.drop (i + 1)) with
      | some m =>
        rw [hm] at ih
        refine F11_s0_2_of _ _ ?_
        unfold T11_s0_2
        rw [show ((i : Int) == s.length) = false by simp; omega, cond_false, hw, nth_at rfl hc, hb, cond_true, wsucc s i hs (by omega), ih]
        simp only [Option.map_some]
        congr 3; omega
      | none =>
        rw [hm] at ih
        refine F11_s0_2_of _ _ ?_
        unfold T11_s0_2
        rw [show ((i : Int) == s.length) = false by simp; omega, cond_false, hw, nth_at rfl hc, hb, cond_true, wsucc s i hs (by omega), ih]
    | false =>
      rw [cond_false]
      refine F11_s0_2_of _ _ ?_
      unfold T11_s0_2
      rw [show ((i : Int) == s.length) = false by simp; omega, cond_false, hw, nth_at rfl hc, hb, cond_false, wsucc s i hs (by omega)]

theorem quote_eq (s : List UInt8) (hs : s.length ≤ 1000000) : ∀ (n i : Nat), s.length ≤ i + n → i ≤ s.length + 1 → F11_s0_3 s (i : Int) = match quoteN (s.drop i) with
    | some m => some (r11 6 ((i + m : Nat) : Int))
    | none => some (r11 0 0)
  | n, i, h, h' => by
    by_cases hi : s.length ≤ i
    · rw [drop_end hi]
      refine F11_s0_3_of _ _ ?_
      unfold T11_s0_3
      rw [decide_eq_true (show (s.length : Int) ≤ i by omega)]
      rfl
    · cases n with
      | zero => omega
      | succ n =>
      obtain ⟨c, hc, hd⟩ := getElem_lt (s := s) (i := i) (n := s.length - i - 1) (by omega)
      have ih := quote_eq s hs n (i + 1) (by omega) (by omega)
      have ih2 : F11_s0_3 s ((i + 2 : Nat) : Int) = match quoteN (s.drop (i + 2)) with
          | some m => some (r11 6 ((i + 2 + m : Nat) : Int))
          | none => some (r11 0 0) := by
        by_cases h2 : i + 2 ≤ s.length + 1
        · exact quote_eq s hs n (i + 2) (by omega) h2
        · omega
      have hw2 : IntKind.wrap .i64 (((i + 1 : Nat) : Int) + 1) = ((i + 2 : Nat) : Int) := by rw [wr64 (by omega) (by omega)]; omega
      have hT : T11_s0_3 s (i : Int) = bif (UInt8.toNat c : Int) != 34 then (bif (UInt8.toNat c : Int) == 92 then F11_s0_3 s ((i + 2 : Nat) : Int) else F11_s0_3 s ((i + 1 : Nat) : Int)) else some (r11 6 ((i + 1 : Nat) : Int)) := by
        unfold T11_s0_3
        rw [decide_eq_false (show ¬ (s.length : Int) ≤ i by omega), cond_false]
        simp only [nth_at rfl hc, wsucc s i hs (by omega), hw2]
      have hg : ∀ {r}, T11_s0_3 s (i : Int) = some r → F11_s0_3 s (i : Int) = some r := fun h => F11_s0_3_of _ _ h
      rw [hT] at hg
      rw [hd]
      cases hr : s.drop (i + 1) with
      | nil =>
        have hl : s.length ≤ i + 1 := by
          have := congrArg List.length hr
          rw [List.length_drop, List.length_nil] at this; omega
        have e2 : F11_s0_3 s ((i + 2 : Nat) : Int) = some (r11 0 0) := by rw [ih2, drop_end (by omega)]; rfl
        have e1 : F11_s0_3 s ((i + 1 : Nat) : Int) = some (r11 0 0) := by rw [ih, drop_end (by omega)]; rfl
        rw [e1, e2] at hg
        rw [quoteN]
        cases h1 : (UInt8.toNat c : Int) != 34 with
        | false => rw [h1] at hg; exact hg rfl
        | true =>
          rw [h1] at hg
          rw [cond_true]
          exact hg (by rw [cond_true]; cases (UInt8.toNat c : Int) == 92 <;> rfl)
      | cons d t =>
        have hr2 : s.drop (i + 2) = t := by rw [show i + 2 = i + 1 + 1 by omega, ← List.drop_drop, hr]; rfl
        rw [hr2] at ih2
        rw [hr] at ih
        rw [quoteN]
        cases h1 : (UInt8.toNat c : Int) != 34 with
        | false => rw [h1] at hg; exact hg rfl
        | true =>
          rw [h1, cond_true] at hg
          rw [cond_true]
          cases h2 : (UInt8.toNat c : Int) == 92 with
          | true =>
            rw [h2, cond_true] at hg
            rw [cond_true]
            cases hq : quoteN t with
            | none => rw [hq] at ih2; exact hg ih2
            | some m => rw [hq] at ih2; rw [hg ih2]; simp only [Option.map_some]; congr 3; omega
          | false =>
            rw [h2, cond_false] at hg
            rw [cond_false]
            cases hq : quoteN (d :: t) with
            | none => rw [hq] at ih; exact hg ih
            | some m => rw [hq] at ih; rw [hg ih]; simp only [Option.map_some]; congr 3; omega

theorem idxB_some (c : UInt8) : ∀ (l : List UInt8) (n : Nat), (idxB c l n).isSome = l.contains c
  | [], n => rfl
  | x :: r, n => by
    rw [idxB, List.contains_cons]
    cases h : x == c with
    | true =>
      have : (c == x) = true := by rw [beq_iff_eq] at *; exact h.symm
      rw [this]; rfl
    | false =>
      have : (c == x) = false := by rw [beq_eq_false_iff_ne] at *; exact h.symm
      rw [this, cond_false, Bool.false_or]; exact idxB_some c r (n + 1)

theorem idxI_mem (c : UInt8) (l : List UInt8) : decide (0 ≤ idxI c l) = l.contains c := by
  rw [← idxB_some c l 0]
  unfold idxI
  cases idxB c l 0 with
  | none => rfl
  | some n => simp

def seenB (s : List UInt8) (a e : Nat) : Bool := (List.drop a (List.take e s)).contains 47

theorem n47 (c : UInt8) : ((47 : UInt8) == c) = ((UInt8.toNat c : Int) == 47) := by
  rw [Bool.eq_iff_iff, beq_iff_eq, beq_iff_eq]
  constructor
  · rintro rfl; rfl
  · intro h; apply UInt8.toNat_inj.1; show 47 = _; omega

theorem seen_succ {s : List UInt8} {a e : Nat} {c : UInt8} (hc : s[e]? = some c) (ha : a ≤ e) : seenB s a (e + 1) = (seenB s a e || (UInt8.toNat c : Int) == 47) := by
  unfold seenB
  have h1 := (List.getElem?_eq_some_iff.1 hc).1
  rw [List.take_add_one, hc, List.drop_append_of_le_length (by rw [List.length_take]; omega)]
  simp only [Option.toList, List.contains_eq_mem, List.mem_append, List.mem_singleton]
  rw [← n47]
  simp [Bool.decide_or, Bool.beq_eq_decide_eq]

theorem digits_eq (s : List UInt8) (a : Nat) (k : Int) (hs : s.length ≤ 1000000) : ∀ (n i : Nat), i + n = s.length → a ≤ i →
    F11_s0_1 s (a : Int) (i : Int) k = some (r11 k ((i + digitsN (k == 6) (seenB s a i) (s.drop i) : Nat) : Int))
  | 0, i, h, ha => by
    refine F11_s0_1_of _ _ _ _ ?_
    unfold T11_s0_1
    rw [decide_eq_false (by omega), cond_false, wsucc s i hs (by omega), decide_eq_false (by omega), drop_end (s := s) (i := i) (by omega)]
    cases k == 6 <;> rfl
  | n + 1, i, h, ha => by
    obtain ⟨c, hc, hd⟩ := getElem_lt h
    have ih := digits_eq s a k hs n (i + 1) (by omega) (by omega)
    have hsl := seen_succ hc ha
    refine F11_s0_1_of _ _ _ _ ?_
    unfold T11_s0_1
    rw [decide_eq_true (show (i : Int) < s.length by omega), cond_true, nth_at rfl hc, F15_eq, v15_mk, wsucc s i hs (by omega), ih, hd, digitsN]
    cases hdg : dig (UInt8.toNat c : Int) with
    | true =>
      rw [cond_true, cond_true]
      have : ((UInt8.toNat c : Int) == 47) = false := by
        unfold dig at hdg
        simp only [Bool.and_eq_true, decide_eq_true_eq] at hdg
        rw [beq_eq_false_iff_ne]; omega
      rw [hsl, this, Bool.or_false]
      congr 3; omega
    | false =>
      rw [cond_false, cond_false]
      cases hk : k == 6 with
      | false => rw [cond_false, Bool.false_and, Bool.false_and, Bool.false_and]; rfl
      | true =>
        rw [hk] at ih
        rw [cond_true, Bool.true_and]
        cases hr : s.drop (i + 1) with
        | nil =>
          have hl : s.length ≤ i + 1 := by
            have := congrArg List.length hr
            rw [List.length_drop, List.length_nil] at this; omega
          rw [decide_eq_false (by omega), cond_false, digHead, Bool.and_false, Bool.false_and]
          rfl
        | cons d t =>
          have hl : i + 1 < s.length := by
            have := congrArg List.length hr
            rw [List.length_drop, List.length_cons] at this; omega
          have hdd : s[i + 1]? = some d := by
            have : (s.drop (i + 1))[0]? = some d := by rw [hr]; rfl
            rw [List.getElem?_drop] at this
            exact this
          rw [decide_eq_true (by omega), cond_true, nth_at rfl hc, digHead, nth_at rfl hdd, F15_eq, v15_mk, if_pos (by omega), Int.toNat_natCast, Int.toNat_natCast, F17_eq, v17_mk, idxI_mem]
          cases h47 : (UInt8.toNat c : Int) == 47 with
          | false => rw [cond_false, Bool.false_and, Bool.false_and]; rfl
          | true =>
            rw [cond_true, Bool.true_and]
            cases dig (UInt8.toNat d : Int) with
            | false => rw [cond_false, Bool.false_and]; rfl
            | true =>
              rw [cond_true, Bool.true_and]
              show (bif !seenB s a i then _ else _) = _
              cases hse : seenB s a i with
              | true => rfl
              | false =>
                rw [hse, h47, Bool.or_true] at hsl
                rw [Bool.not_false, cond_true, cond_true, hsl]
                congr 3; omega

theorem behind_tail (s : List UInt8) (a : Nat) (c : UInt8) (hs : s.length ≤ 1000000) (hc : s[a]? = some c) (b : Bool) (hb : b = (dig (UInt8.toNat c : Int) || ((UInt8.toNat c : Int) == 45 && digHead (s.drop (a + 1)))))
    (h40 : ((UInt8.toNat c : Int) == 40) = false) (h41 : ((UInt8.toNat c : Int) == 41) = false) (hw : (decide (97 ≤ (UInt8.toNat c : Int)) && decide ((UInt8.toNat c : Int) ≤ 122)) = false) :
    F11_r13 s (a : Int) ((a + 1 : Nat) : Int) (UInt8.toNat c : Int) b = some (r11 (behindS (s.drop a)).1 (endS a (behindS (s.drop a)))) := by
  have hl := (List.getElem?_eq_some_iff.1 hc).1
  have brackets := bracket_eq s hs (s.length - (a + 1)) (a + 1) (by omega)
  have quotes := quote_eq s hs (s.length - (a + 1)) (a + 1) (by omega) (by omega)
  have seen : ((UInt8.toNat c : Int) == 47) = false → seenB s a (a + 1) = false := fun h => by
    rw [seen_succ hc (Nat.le_refl _), h]
    have : seenB s a a = false := by unfold seenB; rw [List.drop_eq_nil_of_le (by rw [List.length_take]; omega)]; rfl
    rw [this]; rfl
  have digits : ∀ k : Int, ((UInt8.toNat c : Int) == 47) = false → F11_s0_1 s (a : Int) ((a + 1 : Nat) : Int) k = some (r11 k ((a + 1 + digitsN (k == 6) false (s.drop (a + 1)) : Nat) : Int)) := fun k h => by
    have := digits_eq s a k hs (s.length - (a + 1)) (a + 1) (by omega) (by omega)
    rwa [seen h] at this
  have e16 : F16 ([61, 43, 42, 60, 45] : List UInt8) (UInt8.toNat c : Int) = some (r16 (idxI c [61, 43, 42, 60, 45])) := F16_eq _ _
  refine F11_r13_of _ _ _ _ _ ?_
  unfold T11_r13
  rw [drop_cons_of hc, behindS, h40, h41, hw, ← hb, cond_false, cond_false, cond_false]
  cases b with
  | true =>
    have h47 : ((UInt8.toNat c : Int) == 47) = false := by
      rw [beq_eq_false_iff_ne]
      intro e
      rw [e] at hb
      simp [dig] at hb
    rw [cond_true, cond_true, digits 6 h47, endS_mk _ _ _ (by decide)]
    congr 3; simp only [beq_self_eq_true]; omega
  | false =>
    rw [cond_false, cond_false, e16]
    simp only [v16_mk]
    -- what follows the signs
    have rest : (bif decide (0 ≤ idxI c [61, 43, 42, 60, 45]) then some (r11 4 ((a + 1 : Nat) : Int)) else (bif ((UInt8.toNat c : Int) == 91) then (F11_s0_2 s ((a + 1 : Nat) : Int)) else (bif ((UInt8.toNat c : Int) == 34) then (F11_s0_3 s ((a + 1 : Nat) : Int)) else (bif ((UInt8.toNat c : Int) == 64) then (F11_s0_1 s (a : Int) ((a + 1 : Nat) : Int) 7) else (some (r11 0 0)))))) =
        some (r11 (bif signC c then (4, 1) else bif (UInt8.toNat c : Int) == 91 then lenOr 5 (bracketN (s.drop (a + 1))) else bif (UInt8.toNat c : Int) == 34 then lenOr 6 (quoteN (s.drop (a + 1))) else bif (UInt8.toNat c : Int) == 64 then (7, digitsN false false (s.drop (a + 1)) + 1) else (0, 0)).1
          (endS a (bif signC c then (4, 1) else bif (UInt8.toNat c : Int) == 91 then lenOr 5 (bracketN (s.drop (a + 1))) else bif (UInt8.toNat c : Int) == 34 then lenOr 6 (quoteN (s.drop (a + 1))) else bif (UInt8.toNat c : Int) == 64 then (7, digitsN false false (s.drop (a + 1)) + 1) else (0, 0)))) := by
      rw [signC]
      cases decide (0 ≤ idxI c [61, 43, 42, 60, 45]) with
      | true => rw [cond_true, cond_true, endS_mk _ _ _ (by decide)]
      | false =>
        rw [cond_false, cond_false]
        cases (UInt8.toNat c : Int) == 91 with
        | true =>
          rw [cond_true, cond_true, brackets]
          cases bracketN (s.drop (a + 1)) with
          | none => rfl
          | some m => simp only [lenOr]; rw [endS_mk _ _ _ (by decide)]; congr 3; omega
        | false =>
          rw [cond_false, cond_false]
          cases (UInt8.toNat c : Int) == 34 with
          | true =>
            rw [cond_true, cond_true, quotes]
            cases quoteN (s.drop (a + 1)) with
            | none => rfl
            | some m => simp only [lenOr]; rw [endS_mk _ _ _ (by decide)]; congr 3; omega
          | false =>
            rw [cond_false, cond_false]
            cases h64 : (UInt8.toNat c : Int) == 64 with
            | true =>
              have h47 : ((UInt8.toNat c : Int) == 47) = false := by
                rw [beq_eq_false_iff_ne]; rw [beq_iff_eq] at h64; omega
              rw [cond_true, cond_true, digits 7 h47, endS_mk _ _ _ (by decide)]
              congr 3; rw [show ((7 : Int) == 6) = false from rfl]; omega
            | false => rfl
    cases h60 : (UInt8.toNat c : Int) == 60 with
    | true =>
      rw [cond_true]
      by_cases hl2 : a + 1 < s.length
      · obtain ⟨d, hd, hdr⟩ := getElem_lt (s := s) (i := a + 1) (n := s.length - (a + 1) - 1) (by omega)
        have e1 : eqHead (s.drop (a + 1)) = ((UInt8.toNat d : Int) == 61) := by rw [hdr]; rfl
        rw [decide_eq_true (by omega), cond_true, nth_at rfl hd, e1]
        cases h61 : (UInt8.toNat d : Int) == 61 with
        | true =>
          rw [cond_true, Bool.and_self, cond_true, endS_mk _ _ _ (by decide), wsucc s (a + 1) hs (by omega)]
        | false =>
          rw [cond_false, Bool.and_false, cond_false]
          exact rest
      · have e1 : eqHead (s.drop (a + 1)) = false := by rw [drop_end (by omega)]; rfl
        rw [decide_eq_false (by omega), cond_false, e1, Bool.and_false, cond_false]
        exact rest
    | false =>
      rw [cond_false, Bool.false_and, cond_false]
      exact rest

/-- lex.behind, whole. -/
theorem F11_eq (s : List UInt8) (a : Nat) (hs : s.length ≤ 1000000) (ha : a < s.length) : F11 s (a : Int) = some (r11 (behindS (s.drop a)).1 (endS a (behindS (s.drop a)))) := by
  obtain ⟨c, hc⟩ : ∃ c, s[a]? = some c := ⟨_, List.getElem?_eq_getElem ha⟩
  refine F11_of _ _ ?_
  rw [T11]
  refine F11_s0_of _ _ ?_
  have letters := letters_eq s hs (s.length - (a + 1)) (a + 1) (by omega)
  unfold T11_s0
  rw [nth_at rfl hc]
  simp only [wsucc s a hs (by omega), F15_eq, v15_mk, letters]
  cases h40 : (UInt8.toNat c : Int) == 40 with
  | true =>
    have e : behindS (s.drop a) = (1, 1) := by rw [drop_cons_of hc, behindS, h40]; rfl
    rw [e, cond_true, endS_mk _ _ _ (by decide)]
  | false =>
  rw [cond_false]
  cases h41 : (UInt8.toNat c : Int) == 41 with
  | true =>
    have e : behindS (s.drop a) = (2, 1) := by rw [drop_cons_of hc, behindS, h40, h41]; rfl
    rw [e, cond_true, endS_mk _ _ _ (by decide)]
  | false =>
  rw [cond_false]
  have tail := behind_tail s a c hs hc
  cases hw : (decide (97 ≤ (UInt8.toNat c : Int)) && decide ((UInt8.toNat c : Int) ≤ 122)) with
  | true =>
    have e : behindS (s.drop a) = (3, lettersN (s.drop (a + 1)) + 1) := by rw [drop_cons_of hc, behindS, h40, h41, hw]; rfl
    simp only [Bool.and_eq_true] at hw
    rw [hw.1, hw.2, cond_true, cond_true, e, endS_mk _ _ _ (by decide)]
    congr 3; omega
  | false =>
    have go : ∀ b, b = (dig (UInt8.toNat c : Int) || ((UInt8.toNat c : Int) == 45 && digHead (s.drop (a + 1)))) → F11_r13 s (a : Int) ((a + 1 : Nat) : Int) (UInt8.toNat c : Int) b = some (r11 (behindS (s.drop a)).1 (endS a (behindS (s.drop a)))) := fun b hb => tail b hb h40 h41 hw
    have mid : (bif dig (UInt8.toNat c : Int) then (F11_r13 s (a : Int) ((a + 1 : Nat) : Int) (UInt8.toNat c : Int) (dig (UInt8.toNat c : Int))) else (bif ((UInt8.toNat c : Int) == 45) then (bif (decide (((a + 1 : Nat) : Int) < (List.length s : Int))) then (nth s ((a + 1 : Nat) : Int) fun c2 => (F11_r13 s (a : Int) ((a + 1 : Nat) : Int) (UInt8.toNat c : Int) (dig (UInt8.toNat c2 : Int)))) else (F11_r13 s (a : Int) ((a + 1 : Nat) : Int) (UInt8.toNat c : Int) false)) else (F11_r13 s (a : Int) ((a + 1 : Nat) : Int) (UInt8.toNat c : Int) false))) = some (r11 (behindS (s.drop a)).1 (endS a (behindS (s.drop a)))) := by
      cases hdg : dig (UInt8.toNat c : Int) with
      | true => rw [cond_true]; exact go _ (by rw [hdg]; rfl)
      | false =>
        rw [cond_false]
        cases h45 : (UInt8.toNat c : Int) == 45 with
        | true =>
          rw [cond_true]
          by_cases hl2 : a + 1 < s.length
          · obtain ⟨d, hd, hdr⟩ := getElem_lt (s := s) (i := a + 1) (n := s.length - (a + 1) - 1) (by omega)
            rw [decide_eq_true (by omega), cond_true, nth_at rfl hd]
            exact go _ (by rw [hdg, h45, hdr]; rfl)
          · rw [decide_eq_false (by omega), cond_false]
            exact go _ (by rw [hdg, h45, drop_end (by omega)]; rfl)
        | false => rw [cond_false]; exact go _ (by rw [hdg, h45]; rfl)
    cases h97 : decide (97 ≤ (UInt8.toNat c : Int)) with
    | true =>
      rw [h97, Bool.true_and] at hw
      rw [cond_true, hw, cond_false]
      exact mid
    | false => rw [cond_false]; exact mid

end Go.Eng.L05
namespace Go.Eng.L05
open Go.Eng Go.Proofs

/-! How far behind looks. -/
theorem letters_le : ∀ r : List UInt8, lettersN r ≤ r.length
  | [] => Nat.le_refl _
  | c :: r => by
    have := letters_le r
    rw [lettersN, List.length_cons]
    cases letterC c
    · rw [cond_false]; omega
    · rw [cond_true]; omega

theorem digits_le (v : Bool) : ∀ (r : List UInt8) (b : Bool), digitsN v b r ≤ r.length
  | [], b => by cases b <;> exact Nat.le_refl _
  | c :: r, b => by
    have h1 := digits_le v r b
    have h2 := digits_le v r true
    rw [digitsN, List.length_cons]
    cases dig (UInt8.toNat c : Int)
    · rw [cond_false]
      cases (v && (UInt8.toNat c : Int) == 47 && digHead r && !b)
      · rw [cond_false]; omega
      · rw [cond_true]; omega
    · rw [cond_true]; omega

theorem bracket_le : ∀ (r : List UInt8) (n : Nat), bracketN r = some n → n ≤ r.length
  | [], n, h => by cases h
  | c :: r, n, h => by
    rw [bracketN] at h
    cases hc : (UInt8.toNat c : Int) != 93 with
    | true =>
      rw [hc, cond_true] at h
      cases hb : bracketN r with
      | none => rw [hb] at h; cases h
      | some m =>
        rw [hb] at h
        simp only [Option.map_some, Option.some.injEq] at h
        have := bracket_le r m hb
        rw [List.length_cons]; omega
    | false =>
      rw [hc, cond_false] at h
      cases h
      rw [List.length_cons]; omega

theorem quote_le : ∀ (r : List UInt8) (n : Nat), quoteN r = some n → n ≤ r.length
  | [], n, h => by cases h
  | [c], n, h => by
    rw [quoteN] at h
    cases hc : (UInt8.toNat c : Int) != 34 with
    | true => rw [hc] at h; cases h
    | false => rw [hc] at h; cases h; simp
  | c :: d :: r, n, h => by
    rw [quoteN] at h
    cases hc : (UInt8.toNat c : Int) != 34 with
    | false => rw [hc] at h; cases h; simp
    | true =>
      rw [hc, cond_true] at h
      cases h2 : (UInt8.toNat c : Int) == 92 with
      | true =>
        rw [h2, cond_true] at h
        cases hq : quoteN r with
        | none => rw [hq] at h; cases h
        | some m =>
          rw [hq] at h
          simp only [Option.map_some, Option.some.injEq] at h
          have := quote_le r m hq
          simp only [List.length_cons]; omega
      | false =>
        rw [h2, cond_false] at h
        cases hq : quoteN (d :: r) with
        | none => rw [hq] at h; cases h
        | some m =>
          rw [hq] at h
          simp only [Option.map_some, Option.some.injEq] at h
          have := quote_le (d :: r) m hq
          simp only [List.length_cons] at this ⊢; omega

theorem lenOr_some {k : Int} {o : Option Nat} (h : (lenOr k o).1 ≠ 0) : ∃ m, o = some m ∧ lenOr k o = (k, m + 1) := by
  cases o with
  | none => exact absurd rfl h
  | some m => exact ⟨m, rfl, rfl⟩

theorem bif_elim {β : Type} {P : β → Prop} {b : Bool} {x y : β} (h1 : b = true → P x) (h2 : b = false → P y) : P (bif b then x else y) := by
  cases b
  · exact h2 rfl
  · exact h1 rfl

/-- A token is some bytes long, and no longer than what is there; its kind is one of seven. -/
theorem behind_len (r : List UInt8) (h : (behindS r).1 ≠ 0) : 1 ≤ (behindS r).2 ∧ (behindS r).2 ≤ r.length ∧ ((behindS r).1 = 1 ∨ (behindS r).1 = 2 ∨ (behindS r).1 = 3 ∨ (behindS r).1 = 4 ∨ (behindS r).1 = 5 ∨ (behindS r).1 = 6 ∨ (behindS r).1 = 7) := by
  cases r with
  | nil => exact absurd rfl h
  | cons c r =>
    have hl := letters_le r
    have hd1 := digits_le true r false
    have hd2 := digits_le false r false
    let Q : Int × Nat → Prop := fun p => p.1 ≠ 0 → 1 ≤ p.2 ∧ p.2 ≤ r.length + 1 ∧ (p.1 = 1 ∨ p.1 = 2 ∨ p.1 = 3 ∨ p.1 = 4 ∨ p.1 = 5 ∨ p.1 = 6 ∨ p.1 = 7)
    have mk : ∀ (k : Int) (n : Nat), (k = 1 ∨ k = 2 ∨ k = 3 ∨ k = 4 ∨ k = 5 ∨ k = 6 ∨ k = 7) → 1 ≤ n → n ≤ r.length + 1 → Q (k, n) := fun k n h1 h2 h3 _ => ⟨h2, h3, h1⟩
    have key : Q (behindS (c :: r)) := by
      rw [behindS]
      refine bif_elim (P := Q) (fun _ => mk _ _ (by simp) (by omega) (by omega)) fun _ => ?_
      refine bif_elim (P := Q) (fun _ => mk _ _ (by simp) (by omega) (by omega)) fun _ => ?_
      refine bif_elim (P := Q) (fun _ => mk _ _ (by simp) (by omega) (by omega)) fun _ => ?_
      refine bif_elim (P := Q) (fun _ => mk _ _ (by simp) (by omega) (by omega)) fun _ => ?_
      refine bif_elim (P := Q) (fun he => mk _ _ (by simp) (by omega) ?_) fun _ => ?_
      · simp only [Bool.and_eq_true] at he
        cases r with
        | nil => simp [eqHead] at he
        | cons d r => simp
      refine bif_elim (P := Q) (fun _ => mk _ _ (by simp) (by omega) (by omega)) fun _ => ?_
      refine bif_elim (P := Q) (fun _ h => ?_) fun _ => ?_
      · obtain ⟨m, e1, e2⟩ := lenOr_some h
        have := bracket_le r m e1
        rw [e2]
        exact ⟨by simp, by simp; omega, by simp⟩
      refine bif_elim (P := Q) (fun _ h => ?_) fun _ => ?_
      · obtain ⟨m, e1, e2⟩ := lenOr_some h
        have := quote_le r m e1
        rw [e2]
        exact ⟨by simp, by simp; omega, by simp⟩
      refine bif_elim (P := Q) (fun _ => mk _ _ (by simp) (by omega) (by omega)) fun _ => ?_
      exact fun h => absurd rfl h
    exact key h

theorem letters_take : ∀ (r : List UInt8) (m : Nat), lettersN r ≤ m → lettersN (r.take m) = lettersN r
  | [], m, _ => by simp
  | c :: r, 0, h => (Nat.le_zero.1 h).symm
  | c :: r, m + 1, h => by
    rw [List.take_succ_cons, lettersN, lettersN]
    rw [lettersN] at h
    cases hc : letterC c with
    | false => rfl
    | true =>
      rw [hc, cond_true] at h
      rw [cond_true, cond_true, letters_take r m (by omega)]

theorem digHead_take (r : List UInt8) (m : Nat) : digHead (r.take m) = (digHead r && decide (0 < m)) := by
  cases r with
  | nil => simp [digHead]
  | cons c r =>
    cases m with
    | zero => simp [digHead]
    | succ m => simp [digHead]

theorem eqHead_take (r : List UInt8) (m : Nat) : eqHead (r.take m) = (eqHead r && decide (0 < m)) := by
  cases r with
  | nil => simp [eqHead]
  | cons c r =>
    cases m with
    | zero => simp [eqHead]
    | succ m => simp [eqHead]

theorem digits_pos (v : Bool) (r : List UInt8) (b : Bool) (h : digHead r = true) : 1 ≤ digitsN v b r := by
  cases r with
  | nil => cases h
  | cons c r =>
    rw [digHead] at h
    rw [digitsN, h, cond_true]; omega

theorem digits_take (v : Bool) : ∀ (r : List UInt8) (b : Bool) (m : Nat), digitsN v b r ≤ m → digitsN v b (r.take m) = digitsN v b r
  | [], b, m, _ => by simp
  | c :: r, b, 0, h => by
    have : digitsN v b (c :: r) = 0 := by omega
    rw [this, List.take_zero]
    cases b <;> rfl
  | c :: r, b, m + 1, h => by
    rw [List.take_succ_cons, digitsN, digitsN]
    rw [digitsN] at h
    cases hd : dig (UInt8.toNat c : Int) with
    | true =>
      rw [hd, cond_true] at h
      rw [cond_true, cond_true, digits_take v r b m (by omega)]
    | false =>
      rw [hd, cond_false] at h
      rw [cond_false, cond_false, digHead_take]
      cases hq : (v && (UInt8.toNat c : Int) == 47 && digHead r && !b) with
      | true =>
        rw [hq, cond_true] at h
        have hh : digHead r = true := by simp only [Bool.and_eq_true] at hq; exact hq.1.2
        have hp := digits_pos v r true hh
        rw [cond_true, decide_eq_true (show 0 < m by omega), Bool.and_true, hq, cond_true, digits_take v r true m (by omega)]
      | false =>
        rw [cond_false]
        have : (v && (UInt8.toNat c : Int) == 47 && (digHead r && decide (0 < m)) && !b) = false := by
          revert hq
          cases v <;> cases (UInt8.toNat c : Int) == 47 <;> cases digHead r <;> cases b <;> simp
        rw [this, cond_false]

theorem bracket_take : ∀ (r : List UInt8) (n m : Nat), bracketN r = some n → n ≤ m → bracketN (r.take m) = some n
  | [], n, m, h, _ => by cases h
  | c :: r, n, m, h, hm => by
    rw [bracketN] at h
    cases hc : (UInt8.toNat c : Int) != 93 with
    | true =>
      rw [hc, cond_true] at h
      cases hb : bracketN r with
      | none => rw [hb] at h; cases h
      | some k =>
        rw [hb] at h
        simp only [Option.map_some, Option.some.injEq] at h
        obtain ⟨m, rfl⟩ : ∃ q, m = q + 1 := ⟨m - 1, by omega⟩
        rw [List.take_succ_cons, bracketN, hc, cond_true, bracket_take r k m hb (by omega), Option.map_some, h]
    | false =>
      rw [hc, cond_false] at h
      cases h
      obtain ⟨m, rfl⟩ : ∃ q, m = q + 1 := ⟨m - 1, by omega⟩
      rw [List.take_succ_cons, bracketN, hc, cond_false]

theorem quoteN_34 {c : UInt8} {r : List UInt8} (h : ((UInt8.toNat c : Int) != 34) = false) : quoteN (c :: r) = some 1 := by
  cases r <;> rw [quoteN, h, cond_false]

theorem quote_pos : ∀ (r : List UInt8) (n : Nat), quoteN r = some n → 1 ≤ n
  | [], n, h => by cases h
  | [c], n, h => by
    rw [quoteN] at h
    cases hc : (UInt8.toNat c : Int) != 34 with
    | true => rw [hc] at h; cases h
    | false => rw [hc] at h; cases h; simp
  | c :: d :: r, n, h => by
    rw [quoteN] at h
    cases hc : (UInt8.toNat c : Int) != 34 with
    | false => rw [hc] at h; cases h; simp
    | true =>
      rw [hc, cond_true] at h
      cases h2 : (UInt8.toNat c : Int) == 92 with
      | true =>
        rw [h2, cond_true] at h
        cases hq : quoteN r with
        | none => rw [hq] at h; cases h
        | some m => rw [hq] at h; simp only [Option.map_some, Option.some.injEq] at h; omega
      | false =>
        rw [h2, cond_false] at h
        cases hq : quoteN (d :: r) with
        | none => rw [hq] at h; cases h
        | some m => rw [hq] at h; simp only [Option.map_some, Option.some.injEq] at h; omega

theorem quote_take : ∀ (r : List UInt8) (n m : Nat), quoteN r = some n → n ≤ m → quoteN (r.take m) = some n
  | [], n, m, h, _ => by cases h
  | [c], n, m, h, hm => by
    have := quote_pos _ _ h
    rw [List.take_of_length_le (by simp; omega)]
    exact h
  | c :: d :: r, n, m, h, hm => by
    have hp := quote_pos _ _ h
    obtain ⟨m, rfl⟩ : ∃ q, m = q + 1 := ⟨m - 1, by omega⟩
    cases hc : (UInt8.toNat c : Int) != 34 with
    | false =>
      rw [quoteN_34 hc] at h
      rw [List.take_succ_cons, quoteN_34 hc, h]
    | true =>
      rw [quoteN, hc, cond_true] at h
      cases h2 : (UInt8.toNat c : Int) == 92 with
      | true =>
        rw [h2, cond_true] at h
        cases hq : quoteN r with
        | none => rw [hq] at h; cases h
        | some k =>
          rw [hq] at h
          simp only [Option.map_some, Option.some.injEq] at h
          obtain ⟨m, rfl⟩ : ∃ q, m = q + 1 := ⟨m - 1, by omega⟩
          rw [List.take_succ_cons, List.take_succ_cons, quoteN, hc, cond_true, h2, cond_true, quote_take r k m hq (by omega), Option.map_some, h]
      | false =>
        rw [h2, cond_false] at h
        cases hq : quoteN (d :: r) with
        | none => rw [hq] at h; cases h
        | some k =>
          rw [hq] at h
          simp only [Option.map_some, Option.some.injEq] at h
          have hk := quote_pos _ _ hq
          have ih := quote_take (d :: r) k m hq (by omega)
          obtain ⟨m, rfl⟩ : ∃ q, m = q + 1 := ⟨m - 1, by omega⟩
          rw [List.take_succ_cons] at ih
          rw [List.take_succ_cons, List.take_succ_cons, quoteN, hc, cond_true, h2, cond_false, ih, Option.map_some, h]

/-- What stands behind a token does not count. -/
theorem behind_take (r : List UInt8) (m : Nat) (h : (behindS r).1 ≠ 0) (hm : (behindS r).2 ≤ m) : behindS (r.take m) = behindS r := by
  have hpos := (behind_len r h).1
  cases r with
  | nil => exact absurd rfl h
  | cons c r =>
    obtain ⟨m, rfl⟩ : ∃ q, m = q + 1 := ⟨m - 1, by omega⟩
    rw [List.take_succ_cons]
    clear hpos
    revert h hm
    rw [behindS, behindS]
    cases (UInt8.toNat c : Int) == 40
    case true => intros; rfl
    simp only [cond_false]
    cases (UInt8.toNat c : Int) == 41
    case true => intros; rfl
    simp only [cond_false]
    cases decide (97 ≤ (UInt8.toNat c : Int)) && decide ((UInt8.toNat c : Int) ≤ 122)
    case true =>
      simp only [cond_true]
      intro _ hm
      rw [letters_take r m (by omega)]
    simp only [cond_false, digHead_take, eqHead_take]
    cases hdg : (dig (UInt8.toNat c : Int) || ((UInt8.toNat c : Int) == 45 && digHead r)) with
    | true =>
      simp only [cond_true]
      intro _ hm
      have h0 : (dig (UInt8.toNat c : Int) || ((UInt8.toNat c : Int) == 45 && (digHead r && decide (0 < m)))) = true := by
        by_cases hm0 : 0 < m
        · rw [decide_eq_true hm0, Bool.and_true]; exact hdg
        · cases hd : dig (UInt8.toNat c : Int) with
          | true => rfl
          | false =>
            rw [hd, Bool.false_or, Bool.and_eq_true] at hdg
            have := digits_pos true r false hdg.2
            omega
      rw [h0, cond_true, digits_take true r false m (by omega)]
    | false =>
      simp only [cond_false]
      have h0 : (dig (UInt8.toNat c : Int) || ((UInt8.toNat c : Int) == 45 && (digHead r && decide (0 < m)))) = false := by
        revert hdg
        cases dig (UInt8.toNat c : Int) <;> cases (UInt8.toNat c : Int) == 45 <;> cases digHead r <;> simp
      rw [h0, cond_false]
      cases h60 : ((UInt8.toNat c : Int) == 60 && eqHead r) with
      | true =>
        simp only [cond_true]
        intro _ hm
        rw [decide_eq_true (show 0 < m by omega), Bool.and_true, h60, cond_true]
      | false =>
        simp only [cond_false]
        have h1 : ((UInt8.toNat c : Int) == 60 && (eqHead r && decide (0 < m))) = false := by
          revert h60
          cases (UInt8.toNat c : Int) == 60 <;> cases eqHead r <;> simp
        rw [h1, cond_false]
        cases signC c
        case true => intros; rfl
        simp only [cond_false]
        cases (UInt8.toNat c : Int) == 91
        case true =>
          simp only [cond_true]
          intro h hm
          obtain ⟨n, e1, e2⟩ := lenOr_some h
          rw [e2] at hm
          rw [e1, bracket_take r n m e1 (by simp at hm; omega)]
        simp only [cond_false]
        cases (UInt8.toNat c : Int) == 34
        case true =>
          simp only [cond_true]
          intro h hm
          obtain ⟨n, e1, e2⟩ := lenOr_some h
          rw [e2] at hm
          rw [e1, quote_take r n m e1 (by simp at hm; omega)]
        simp only [cond_false]
        cases (UInt8.toNat c : Int) == 64
        case true =>
          simp only [cond_true]
          intro _ hm
          rw [digits_take false r false m (by omega)]
        intros; rfl

/-! One token. -/
structure Val where
  k : Int
  n : Int
  d : Int
  s : List UInt8
  ok : Bool

/-- What a token's text says, by its kind; whether it may be. -/
def ValP (k : Int) (t : List UInt8) (v : Val) : Prop :=
  if k = 3 then v = ⟨0, 0, 0, [], decide ((t.length : Int) ≤ 16)⟩ else
  if k = 5 then ∃ b, F12 t = some (r12 b) ∧ v = ⟨0, 0, 0, [], b⟩ else
  if k = 6 then ∃ a b c d e, F13 t = some (r13 a b c d e) ∧ v = ⟨a, b, c, d, e == 0⟩ else
  if k = 7 then ∃ n b, F14 (t.drop 1) = some (r14 n b) ∧ v = ⟨1, n, 0, [], b⟩ else v = ⟨0, 0, 0, [], k != 0⟩

theorem val_ex (k : Int) (t : List UInt8) (h0 : 1 ≤ t.length) (hl : t.length ≤ 1000000) : ∃ v, ValP k t v := by
  unfold ValP
  split
  · exact ⟨_, rfl⟩
  split
  · obtain ⟨b, h⟩ := F12_ok t h0 hl
    exact ⟨_, b, h, rfl⟩
  split
  · obtain ⟨a, b, c, d, e, h⟩ := F13_ok t h0 hl
    exact ⟨_, a, b, c, d, e, h, rfl⟩
  split
  · obtain ⟨n, b, h⟩ := F14_ok (t.drop 1) (by simp; omega)
    exact ⟨_, n, b, h, rfl⟩
  · exact ⟨_, rfl⟩

open Classical in
noncomputable def valS (k : Int) (t : List UInt8) : Val := if h : ∃ v, ValP k t v then Classical.choose h else ⟨0, 0, 0, [], false⟩

theorem valS_ok (k : Int) (t : List UInt8) (h0 : 1 ≤ t.length) (hl : t.length ≤ 1000000) : ValP k t (valS k t) := by
  unfold valS
  rw [dif_pos (val_ex k t h0 hl)]
  exact Classical.choose_spec (val_ex k t h0 hl)

/-- The token at the beginning of a text. -/
noncomputable def okS (r : List UInt8) : Bool := (behindS r).1 != 0 && (valS (behindS r).1 (r.take (behindS r).2)).ok

theorem F10_bad (s : List UInt8) (a : Nat) (hs : s.length ≤ 1000000) (ha : a < s.length) (h : (behindS (s.drop a)).1 = 0) : F10 s (a : Int) = some (r10 0 a [] 0 0 0 [] false) := by
  refine F10_of _ _ ?_
  unfold T10
  rw [F11_eq s a hs ha, v11_mk, endS, if_pos h, h]
  simp only [show ¬ ((0 : Int) > (a : Int)) by omega, if_false]
  rw [if_pos (by omega)]
  have e : List.drop (Int.toNat (a : Int)) (List.take (Int.toNat (a : Int)) s) = [] := by rw [Int.toNat_natCast]; exact List.drop_eq_nil_of_le (by rw [List.length_take]; omega)
  rw [e]
  rfl

theorem F10_good (s : List UInt8) (a : Nat) (hs : s.length ≤ 1000000) (ha : a < s.length) (h : (behindS (s.drop a)).1 ≠ 0) :
    ∃ v, v = valS (behindS (s.drop a)).1 ((s.drop a).take (behindS (s.drop a)).2) ∧ F10 s (a : Int) = some (r10 (behindS (s.drop a)).1 a ((s.drop a).take (behindS (s.drop a)).2) v.k v.n v.d v.s v.ok) := by
  obtain ⟨h1, h2, h3⟩ := behind_len _ h
  have hl : (s.drop a).length = s.length - a := List.length_drop
  have e : List.drop (Int.toNat (a : Int)) (List.take (Int.toNat ((a + (behindS (s.drop a)).2 : Nat) : Int)) s) = (s.drop a).take (behindS (s.drop a)).2 := by
    rw [Int.toNat_natCast, Int.toNat_natCast, List.take_drop, Nat.add_comm]
  have ht : ((s.drop a).take (behindS (s.drop a)).2).length = (behindS (s.drop a)).2 := by rw [List.length_take]; omega
  refine ⟨_, rfl, F10_of _ _ ?_⟩
  have hv := valS_ok (behindS (s.drop a)).1 ((s.drop a).take (behindS (s.drop a)).2) (by omega) (by omega)
  unfold T10
  rw [F11_eq s a hs ha, v11_mk, endS, if_neg h]
  simp only [show ((a + (behindS (s.drop a)).2 : Nat) : Int) > (a : Int) by omega, if_true]
  rw [if_pos (by omega), e]
  generalize (behindS (s.drop a)).1 = k at *
  generalize hg : (s.drop a).take (behindS (s.drop a)).2 = t at *
  unfold ValP at hv
  rcases h3 with rfl | rfl | rfl | rfl | rfl | rfl | rfl
  · simp only [show ¬ ((1 : Int) = 3) by decide, show ¬ ((1 : Int) = 5) by decide, show ¬ ((1 : Int) = 6) by decide, show ¬ ((1 : Int) = 7) by decide, if_false] at hv
    rw [hv]; rfl
  · simp only [show ¬ ((2 : Int) = 3) by decide, show ¬ ((2 : Int) = 5) by decide, show ¬ ((2 : Int) = 6) by decide, show ¬ ((2 : Int) = 7) by decide, if_false] at hv
    rw [hv]; rfl
  · simp only [if_true] at hv
    rw [hv]; rfl
  · simp only [show ¬ ((4 : Int) = 3) by decide, show ¬ ((4 : Int) = 5) by decide, show ¬ ((4 : Int) = 6) by decide, show ¬ ((4 : Int) = 7) by decide, if_false] at hv
    rw [hv]; rfl
  · simp only [show ¬ ((5 : Int) = 3) by decide, if_false, if_true] at hv
    obtain ⟨b, e1, e2⟩ := hv
    rw [e1, e2]; rfl
  · simp only [show ¬ ((6 : Int) = 3) by decide, show ¬ ((6 : Int) = 5) by decide, if_false, if_true] at hv
    obtain ⟨p, q, c, d, e', e1, e2⟩ := hv
    rw [e1, e2]; rfl
  · simp only [show ¬ ((7 : Int) = 3) by decide, show ¬ ((7 : Int) = 5) by decide, show ¬ ((7 : Int) = 6) by decide, if_false, if_true] at hv
    obtain ⟨n, b, e1, e2⟩ := hv
    rw [e2]
    show (if (0 : Int) ≤ (1 : Int) ∧ (1 : Int) ≤ (List.length t : Int) then (v14 (F14 (List.drop (Int.toNat (1 : Int)) t)) fun n9 b10 => (some (r10 7 a t 1 n9 0 [] b10))) else none) = _
    rw [if_pos (by omega), show Int.toNat (1 : Int) = 1 from rfl, e1, v14_mk]

/-! All tokens. -/
structure Tok where
  k : Int
  at_ : Nat
  t : List UInt8
  v : Val

def Tok.row (x : Tok) : List D := [.i .i64 x.k, .i .i64 x.at_, .s x.t, .i .i64 x.v.k, .i .i64 x.v.n, .i .i64 x.v.d, .s x.v.s]

def isBl (c : UInt8) : Bool := (UInt8.toNat c : Int) == 32 || (UInt8.toNat c : Int) == 10

/-- A text's tokens, from a place on; or the place of what is none. -/
noncomputable def tokS : Nat → List UInt8 → Nat → Option (List Tok) × Nat
  | 0, _, _ => (some [], 0)
  | _ + 1, [], _ => (some [], 0)
  | m + 1, c :: t, a => bif isBl c then tokS m t (a + 1) else
      bif okS (c :: t) then
        ((tokS m ((c :: t).drop (behindS (c :: t)).2) (a + (behindS (c :: t)).2)).1.map (⟨(behindS (c :: t)).1, a, (c :: t).take (behindS (c :: t)).2, valS (behindS (c :: t)).1 ((c :: t).take (behindS (c :: t)).2)⟩ :: ·),
          (tokS m ((c :: t).drop (behindS (c :: t)).2) (a + (behindS (c :: t)).2)).2)
      else (none, a)

theorem okS_len {r : List UInt8} (h : okS r = true) : 1 ≤ (behindS r).2 ∧ (behindS r).2 ≤ r.length ∧ (behindS r).1 ≠ 0 := by
  unfold okS at h
  simp only [Bool.and_eq_true, bne_iff_ne] at h
  obtain ⟨h1, h2, _⟩ := behind_len r h.1
  exact ⟨h1, h2, h.1⟩

def tokR (out : List Tok) : Option (List Tok) × Nat → Res
  | (some l, _) => r6 ((out ++ l).map Tok.row) 0 0
  | (none, p) => r6 [] 50 p

theorem F6_l0_eq (s : List UInt8) (hs : s.length ≤ 1000000) : ∀ (m a : Nat) (out : List Tok), s.length ≤ a + m → a ≤ s.length → out.length ≤ a →
    F6_l0 s (out.map Tok.row) (a : Int) = some (tokR out (tokS m (s.drop a) a))
  | m, a, out, hm, ha, ho => by
    refine F6_l0_of _ _ _ ?_
    unfold T6_l0
    by_cases hl : s.length ≤ a
    · rw [decide_eq_false (by omega), cond_false, drop_end hl]
      cases m <;> simp [tokS, tokR]
    · obtain ⟨m, rfl⟩ : ∃ q, m = q + 1 := ⟨m - 1, by omega⟩
      obtain ⟨c, hc, hd⟩ := getElem_lt (s := s) (i := a) (n := s.length - a - 1) (by omega)
      have ih := F6_l0_eq s hs m (a + 1) out (by omega) (by omega) (by omega)
      rw [decide_eq_true (show (a : Int) < s.length by omega), cond_true]
      simp only [nth_at rfl hc, wsucc s a hs (by omega)]
      rw [hd, tokS, ih]
      unfold isBl
      cases (UInt8.toNat c : Int) == 32 with
      | true => rw [Bool.true_or, cond_true, cond_true]
      | false =>
      rw [cond_false, Bool.false_or]
      cases (UInt8.toNat c : Int) == 10 with
      | true => rw [cond_true, cond_true]
      | false =>
      rw [cond_false, cond_false, ← hd]
      by_cases hk : (behindS (s.drop a)).1 = 0
      · rw [F10_bad s a hs (by omega) hk, v10_mk]
        have : okS (s.drop a) = false := by unfold okS; rw [hk]; rfl
        rw [this]; rfl
      · obtain ⟨v, hv, h10⟩ := F10_good s a hs (by omega) hk
        obtain ⟨h1, h2, _⟩ := behind_len _ hk
        rw [h10, v10_mk]
        have hok : okS (s.drop a) = v.ok := by unfold okS; rw [← hv, show ((behindS (s.drop a)).1 != 0) = true by simpa using hk, Bool.true_and]
        rw [hok]
        cases hvo : v.ok with
        | false => rfl
        | true =>
          have hlen : ((s.drop a).take (behindS (s.drop a)).2).length = (behindS (s.drop a)).2 := by rw [List.length_take]; omega
          have hdl : (s.drop a).length = s.length - a := List.length_drop
          rw [Bool.not_true, cond_false, cond_true, if_pos (by simp; omega), hlen]
          have hw : IntKind.wrap .i64 ((a : Int) + ((behindS (s.drop a)).2 : Int)) = ((a + (behindS (s.drop a)).2 : Nat) : Int) := by rw [wr64 (by omega) (by omega)]; omega
          have ih2 := F6_l0_eq s hs m (a + (behindS (s.drop a)).2) (out ++ [⟨(behindS (s.drop a)).1, a, (s.drop a).take (behindS (s.drop a)).2, v⟩]) (by omega) (by omega) (by simp; omega)
          rw [hw]
          rw [List.map_append] at ih2
          refine ih2.trans ?_
          rw [← List.drop_drop, ← hv]
          cases tokS m ((s.drop a).drop (behindS (s.drop a)).2) (a + (behindS (s.drop a)).2) with
          | mk o p =>
            cases o with
            | none => rfl
            | some l => simp [tokR]

theorem F6_long (s : List UInt8) (hl : 16384 < s.length) : F6 s = some (r6 [] 2 0) := by
  refine F6_of _ ?_
  unfold T6
  rw [decide_eq_true (by omega)]; rfl

theorem F6_eq (s : List UInt8) (hl : s.length ≤ 16384) : F6 s = some (tokR [] (tokS s.length s 0)) := by
  refine F6_of _ ?_
  unfold T6
  rw [decide_eq_false (by omega), cond_false]
  exact F6_l0_eq s (by omega) s.length 0 [] (by omega) (by omega) (by simp)

end Go.Eng.L05
namespace Go.Eng.L05
open Go.Eng Go.Proofs

theorem F7_eq : F7 = some (r7 true) := CI_of (k := 400) live_run

def allBl (l : List UInt8) : Bool := l.all isBl

theorem F8_l0_eq (s : List UInt8) (hs : s.length ≤ 1000000) : ∀ (n i : Nat), i + n ≤ s.length → F8_l0 s ((i + n : Nat) : Int) (i : Int) = some (r8 (allBl ((s.drop i).take n)))
  | 0, i, h => by
    refine F8_l0_of _ _ _ ?_
    unfold T8_l0
    rw [decide_eq_false (by omega)]; rfl
  | n + 1, i, h => by
    obtain ⟨c, hc, hd⟩ := getElem_lt (s := s) (i := i) (n := s.length - i - 1) (by omega)
    have ih := F8_l0_eq s hs n (i + 1) (by omega)
    rw [show i + 1 + n = i + (n + 1) by omega] at ih
    refine F8_l0_of _ _ _ ?_
    unfold T8_l0
    rw [decide_eq_true (by omega), cond_true]
    simp only [nth_at rfl hc, wsucc s i hs (by omega), ih]
    have e : allBl (c :: (s.drop (i + 1)).take n) = (isBl c && allBl ((s.drop (i + 1)).take n)) := rfl
    rw [hd, List.take_succ_cons, e, isBl, bne, bne]
    cases (UInt8.toNat c : Int) == 32 <;> cases (UInt8.toNat c : Int) == 10 <;> rfl

theorem F8_eq (s : List UInt8) (hs : s.length ≤ 1000000) (i j : Nat) (h : i ≤ j) (hj : j ≤ s.length) : F8 s (i : Int) (j : Int) = some (r8 (allBl ((s.drop i).take (j - i)))) := by
  refine F8_of _ _ _ ?_
  have := F8_l0_eq s hs (j - i) i (by omega)
  rw [show i + (j - i) = j by omega] at this
  exact this

/-- Tokens stand in the text, from a place on, blanks alone around them. -/
def Stands (s : List UInt8) : Nat → List Tok → Prop
  | e, [] => e ≤ s.length ∧ allBl (s.drop e) = true
  | e, x :: l => e ≤ x.at_ ∧ 1 ≤ x.t.length ∧ x.at_ + x.t.length ≤ s.length ∧ x.t = (s.drop x.at_).take x.t.length ∧ allBl ((s.drop e).take (x.at_ - e)) = true ∧ Stands s (x.at_ + x.t.length) l

theorem Stands.bl {s : List UInt8} {e : Nat} {c : UInt8} (hc : s[e]? = some c) (hb : isBl c = true) : ∀ {l : List Tok}, Stands s (e + 1) l → Stands s e l
  | [], h => by
    have := (List.getElem?_eq_some_iff.1 hc).1
    refine ⟨by omega, ?_⟩
    rw [drop_cons_of hc, allBl, List.all_cons, hb]
    exact h.2
  | x :: l, h => by
    obtain ⟨h1, h2, h3, h4, h5, h6⟩ := h
    refine ⟨by omega, h2, h3, h4, ?_, h6⟩
    rw [drop_cons_of hc, show x.at_ - e = (x.at_ - (e + 1)) + 1 by omega, List.take_succ_cons, allBl, List.all_cons, hb]
    exact h5

theorem tok_stands (s : List UInt8) : ∀ (m a : Nat) (l : List Tok) (p : Nat), s.length ≤ a + m → a ≤ s.length → tokS m (s.drop a) a = (some l, p) → Stands s a l
  | m, a, l, p, hm, ha, h => by
    by_cases hl : s.length ≤ a
    · rw [drop_end hl] at h
      have : l = [] := by cases m <;> (simp [tokS] at h; exact h.1)
      subst this
      exact ⟨ha, by rw [drop_end hl]; rfl⟩
    · obtain ⟨m, rfl⟩ : ∃ q, m = q + 1 := ⟨m - 1, by omega⟩
      obtain ⟨c, hc, hd⟩ := getElem_lt (s := s) (i := a) (n := s.length - a - 1) (by omega)
      rw [hd, tokS] at h
      cases hb : isBl c with
      | true =>
        rw [hb, cond_true] at h
        exact .bl hc hb (tok_stands s m (a + 1) l p (by omega) (by omega) h)
      | false =>
        rw [hb, cond_false, ← hd] at h
        cases hok : okS (s.drop a) with
        | false => rw [hok] at h; cases h
        | true =>
          rw [hok, cond_true] at h
          obtain ⟨h1, h2, _⟩ := okS_len hok
          have hdl : (s.drop a).length = s.length - a := List.length_drop
          have hlen : ((s.drop a).take (behindS (s.drop a)).2).length = (behindS (s.drop a)).2 := by rw [List.length_take]; omega
          rw [List.drop_drop] at h
          cases ht : (tokS m (s.drop (a + (behindS (s.drop a)).2)) (a + (behindS (s.drop a)).2)) with
          | mk o q =>
            rw [ht] at h
            cases o with
            | none => cases h
            | some l' =>
              simp only [Option.map_some, Prod.mk.injEq, Option.some.injEq] at h
              obtain ⟨rfl, rfl⟩ := h
              have ih := tok_stands s m (a + (behindS (s.drop a)).2) l' q (by omega) (by omega) ht
              refine ⟨Nat.le_refl _, by rw [hlen]; exact h1, by rw [hlen]; show a + _ ≤ _; omega, by rw [hlen], by rw [Nat.sub_self]; rfl, ?_⟩
              rw [hlen]; exact ih

theorem vRow_tok (x : Tok) (y : Int → Int → List UInt8 → Int → Int → Int → List UInt8 → Option Res) : vRow_iisiiis x.row y = y x.k x.at_ x.t x.v.k x.v.n x.v.d x.v.s := rfl

theorem F3_l0_eq (s : List UInt8) (hs : s.length ≤ 1000000) (l : List Tok) (hl : l.length ≤ 1000000) : ∀ (r : List Tok) (i e : Nat), l.drop i = r → i ≤ l.length → Stands s e r → F3_l0 s (l.map Tok.row) 0 (e : Int) (i : Int) = some (r3 true)
  | [], i, e, hr, hi, h => by
    have : l.length ≤ i := by
      have := congrArg List.length hr
      rw [List.length_drop, List.length_nil] at this; omega
    refine F3_l0_of _ _ _ _ _ ?_
    unfold T3_l0
    rw [decide_eq_false (by rw [List.length_map]; omega), cond_false, F7_eq, v7_mk, cond_true, F8_eq s hs e s.length h.1 (Nat.le_refl _), v8_mk, List.take_of_length_le (by rw [List.length_drop]; omega), h.2]
    rfl
  | x :: r, i, e, hr, hi, h => by
    obtain ⟨h1, h2, h3, h4, h5, h6⟩ := h
    have hlt : i < l.length := by
      have := congrArg List.length hr
      rw [List.length_drop, List.length_cons] at this; omega
    have hx : l[i]? = some x := by
      have : (l.drop i)[0]? = some x := by rw [hr]; rfl
      rw [List.getElem?_drop] at this
      exact this
    have hr' : l.drop (i + 1) = r := by rw [← List.drop_drop, hr]; rfl
    have ih := F3_l0_eq s hs l hl r (i + 1) (x.at_ + x.t.length) hr' (by omega) h6
    have hxr : (l.map Tok.row)[i]? = some x.row := by rw [List.getElem?_map, hx]; rfl
    have w1 : IntKind.wrap .i64 ((s.length : Int) - (x.t.length : Int)) = ((s.length - x.t.length : Nat) : Int) := by rw [wr64 (by omega) (by omega)]; omega
    have w2 : IntKind.wrap .i64 ((x.at_ : Int) + (x.t.length : Int)) = ((x.at_ + x.t.length : Nat) : Int) := by rw [wr64 (by omega) (by omega)]; omega
    have w3 : IntKind.wrap .i64 ((i : Int) + 1) = ((i + 1 : Nat) : Int) := by rw [wr64 (by omega) (by omega)]; omega
    have hq : List.drop x.at_ (List.take (x.at_ + x.t.length) s) = x.t := by rw [← List.take_drop]; exact h4.symm
    refine F3_l0_of _ _ _ _ _ ?_
    unfold T3_l0
    rw [decide_eq_true (by rw [List.length_map]; omega), cond_true, nth_at rfl hxr, vRow_tok]
    simp only [w1, w2, w3]
    rw [show ((x.t.length : Int) == 0) = false by (rw [beq_eq_false_iff_ne]; omega), cond_false, decide_eq_false (by omega), cond_false, decide_eq_false (by omega), cond_false, if_pos (by omega), Int.toNat_natCast, Int.toNat_natCast, hq, beq_self_eq_true, Bool.not_true, cond_false, F8_eq s hs e x.at_ h1 (by omega), vP8_mk, h5, Bool.not_true, cond_false]
    exact ih

theorem tok_len : ∀ (m : Nat) (r : List UInt8) (a : Nat) (l : List Tok) (p : Nat), tokS m r a = (some l, p) → l.length ≤ m
  | 0, r, a, l, p, h => by simp [tokS] at h; rw [h.1]; simp
  | m + 1, [], a, l, p, h => by simp [tokS] at h; rw [h.1]; simp
  | m + 1, c :: t, a, l, p, h => by
    rw [tokS] at h
    cases hb : isBl c with
    | true => rw [hb, cond_true] at h; have := tok_len m _ _ _ _ h; omega
    | false =>
      rw [hb, cond_false] at h
      cases hok : okS (c :: t) with
      | false => rw [hok] at h; cases h
      | true =>
        rw [hok, cond_true] at h
        cases ht : (tokS m ((c :: t).drop (behindS (c :: t)).2) (a + (behindS (c :: t)).2)) with
        | mk o q =>
          rw [ht] at h
          cases o with
          | none => cases h
          | some l' =>
            simp only [Option.map_some, Prod.mk.injEq, Option.some.injEq] at h
            obtain ⟨rfl, rfl⟩ := h
            have := tok_len m _ _ _ _ ht
            simp only [List.length_cons]; omega

theorem tok_fuel : ∀ (m m' : Nat) (r : List UInt8) (a : Nat), r.length ≤ m → r.length ≤ m' → tokS m r a = tokS m' r a
  | m, m', [], a, _, _ => by cases m <;> cases m' <;> rfl
  | 0, m', c :: t, a, h, _ => by simp at h
  | m, 0, c :: t, a, _, h => by simp at h
  | m + 1, m' + 1, c :: t, a, h, h' => by
    rw [List.length_cons] at h h'
    rw [tokS, tokS, tok_fuel m m' t (a + 1) (by omega) (by omega)]
    cases isBl c with
    | true => rfl
    | false =>
      cases hok : okS (c :: t) with
      | false => rfl
      | true =>
        obtain ⟨g1, _, _⟩ := okS_len hok
        rw [tok_fuel m m' _ _ (by rw [List.length_drop, List.length_cons]; omega) (by rw [List.length_drop, List.length_cons]; omega)]

/-- Where an error stands. -/
theorem tok_err : ∀ (m : Nat) (r : List UInt8) (a p : Nat), r.length ≤ m → tokS m r a = (none, p) → a ≤ p ∧ p < a + r.length ∧
    (∀ q, tokS (q + 1) (r.drop (p - a)) 0 = (none, 0)) ∧ ∀ q, r.length ≤ q → ∃ l, tokS q (r.take (p - a)) a = (some l, 0)
  | 0, r, a, p, hm, h => by simp [tokS] at h
  | m + 1, [], a, p, hm, h => by simp [tokS] at h
  | m + 1, c :: t, a, p, hm, h => by
    simp only [List.length_cons] at hm
    rw [tokS] at h
    cases hb : isBl c with
    | true =>
      rw [hb, cond_true] at h
      obtain ⟨h1, h2, h3, h4⟩ := tok_err m t (a + 1) p (by omega) h
      refine ⟨by omega, by rw [List.length_cons]; omega, ?_, fun q hq => ?_⟩
      · rw [show p - a = (p - (a + 1)) + 1 by omega, List.drop_succ_cons]
        exact h3
      · rw [show p - a = (p - (a + 1)) + 1 by omega, List.take_succ_cons]
        obtain ⟨q, rfl⟩ : ∃ q', q = q' + 1 := ⟨q - 1, by rw [List.length_cons] at hq; omega⟩
        obtain ⟨l, hl⟩ := h4 q (by rw [List.length_cons] at hq; omega)
        exact ⟨l, by rw [tokS, hb, cond_true, hl]⟩
    | false =>
      rw [hb, cond_false] at h
      cases hok : okS (c :: t) with
      | false =>
        rw [hok, cond_false] at h
        cases h
        refine ⟨Nat.le_refl _, by rw [List.length_cons]; omega, fun q => ?_, fun q _ => ⟨[], ?_⟩⟩
        · rw [Nat.sub_self, List.drop_zero, tokS, hb, hok]; rfl
        · rw [Nat.sub_self, List.take_zero]; cases q <;> rfl
      | true =>
        rw [hok, cond_true] at h
        obtain ⟨g1, g2, g3⟩ := okS_len hok
        cases ht : (tokS m ((c :: t).drop (behindS (c :: t)).2) (a + (behindS (c :: t)).2)) with
        | mk o q =>
          rw [ht] at h
          cases o with
          | some l' => simp at h
          | none =>
            simp only [Option.map_none, Prod.mk.injEq, true_and] at h
            subst h
            have hlen : ((c :: t).drop (behindS (c :: t)).2).length = t.length + 1 - (behindS (c :: t)).2 := by rw [List.length_drop, List.length_cons]
            rw [List.length_cons] at g2
            obtain ⟨h1, h2, h3, h4⟩ := tok_err m _ (a + (behindS (c :: t)).2) q (by omega) ht
            refine ⟨by omega, by rw [List.length_cons]; omega, ?_, fun k hk => ?_⟩
            · rw [List.drop_drop, show (behindS (c :: t)).2 + (q - (a + (behindS (c :: t)).2)) = q - a by omega] at h3
              exact h3
            · rw [List.length_cons] at hk
              obtain ⟨k, rfl⟩ : ∃ k', k = k' + 1 := ⟨k - 1, by omega⟩
              obtain ⟨j, hj⟩ : ∃ j, q - a = j + 1 := ⟨q - a - 1, by omega⟩
              have hbt : behindS ((c :: t).take (q - a)) = behindS (c :: t) := behind_take _ _ g3 (by omega)
              have htt : ((c :: t).take (q - a)).take (behindS (c :: t)).2 = (c :: t).take (behindS (c :: t)).2 := by rw [List.take_take, Nat.min_eq_left (by omega)]
              have hoo : okS ((c :: t).take (q - a)) = true := by
                unfold okS at hok ⊢
                rw [hbt, htt]; exact hok
              obtain ⟨l, hl⟩ := h4 k (by omega)
              rw [hj, List.take_succ_cons] at hbt htt hoo
              rw [hj, List.take_succ_cons, tokS, hb, cond_false, hoo, cond_true, hbt, htt]
              have e : (c :: t.take j).drop (behindS (c :: t)).2 = ((c :: t).drop (behindS (c :: t)).2).take (q - (a + (behindS (c :: t)).2)) := by
                rw [← List.take_succ_cons, ← hj, List.drop_take]
                congr 1; omega
              rw [e, hl]
              exact ⟨_, rfl⟩

theorem lexStands (s : List UInt8) (hs : (s.length : Int) ≤ 9223372036854775807) : F3 s = some (r3 true) := by
  refine F3_of _ ?_
  unfold T3
  by_cases hl : 16384 < s.length
  · rw [F6_long s hl, v6_mk, F7_eq, v7_mk]
    simp only [List.length_nil]
    rw [show decide (((0 : Int)) < (s.length : Int)) = true from decide_eq_true (by omega)]
    rfl
  · rw [F6_eq s (by omega)]
    cases h : tokS s.length s 0 with
    | mk o p =>
      cases o with
      | none =>
        obtain ⟨h1, h2, _⟩ := tok_err s.length s 0 p (Nat.le_refl _) h
        show (v6 (some (r6 [] 50 (p : Int))) _) = _
        rw [v6_mk, F7_eq, v7_mk]
        simp only [List.length_nil]
        rw [show decide ((0 : Int) ≤ (p : Int)) = true from decide_eq_true (by omega), show decide ((p : Int) < (s.length : Int)) = true from decide_eq_true (by omega)]
        rfl
      | some l =>
        have hst := tok_stands s s.length 0 l p (by omega) (by omega) (by rw [List.drop_zero]; exact h)
        have hll := tok_len _ _ _ _ _ h
        show (v6 (some (r6 (l.map Tok.row) 0 0)) _) = _
        rw [v6_mk]
        exact F3_l0_eq s (by omega) l (by omega) l 0 0 rfl (by omega) hst

theorem lexAhead (s : List UInt8) (hs : (s.length : Int) ≤ 9223372036854775807) : F5 s = some (r5 true) := by
  refine F5_of _ ?_
  unfold T5
  by_cases hl : 16384 < s.length
  · rw [F6_long s hl, v6_mk, F7_eq, v7_mk]
    rfl
  · rw [F6_eq s (by omega)]
    cases h : tokS s.length s 0 with
    | mk o p =>
      cases o with
      | some l =>
        show (v6 (some (r6 (l.map Tok.row) 0 0)) _) = _
        rw [v6_mk, F7_eq, v7_mk]
        rfl
      | none =>
        obtain ⟨h1, h2, h3, h4⟩ := tok_err s.length s 0 p (Nat.le_refl _) h
        show (v6 (some (r6 [] 50 (p : Int))) _) = _
        rw [v6_mk, show ((50 : Int) != 50) = false from rfl, cond_false, decide_eq_false (show ¬ (p : Int) < 0 by omega), cond_false, decide_eq_false (show ¬ (s.length : Int) ≤ p by omega), cond_false, if_pos (by omega), Int.toNat_natCast,
          F6_eq (s.take p) (by rw [List.length_take]; omega), F6_eq (s.drop p) (by rw [List.length_drop]; omega)]
        obtain ⟨l, hq⟩ := h4 s.length (Nat.le_refl _)
        have e1 : tokS (s.take p).length (s.take p) 0 = (some l, 0) := by rw [tok_fuel _ s.length _ 0 (Nat.le_refl _) (by rw [List.length_take]; omega)]; exact hq
        have e2 : tokS (s.drop p).length (s.drop p) 0 = (none, 0) := by
          obtain ⟨q, hq⟩ : ∃ q, (s.drop p).length = q + 1 := ⟨(s.drop p).length - 1, by rw [List.length_drop]; omega⟩
          rw [hq]; exact h3 q
        rw [e1, e2]
        show (if 0 ≤ (p : Int) ∧ (p : Int) ≤ (s.length : Int) then _ else none) = _
        rw [if_pos (by omega), F7_eq]
        rfl

end Go.Eng.L05
namespace Go.Eng.L05
open Go.Eng Go.Proofs

/-! A token with a blank, or nothing, behind it. -/
def Blk : List UInt8 → Prop
  | [] => True
  | c :: _ => isBl c = true

theorem blk_n {c : UInt8} (h : isBl c = true) : (UInt8.toNat c : Int) = 32 ∨ (UInt8.toNat c : Int) = 10 := by
  unfold isBl at h
  simpa using h

theorem blk_dig {c : UInt8} (h : isBl c = true) : dig (UInt8.toNat c : Int) = false := by
  rcases blk_n h with e | e <;> rw [e] <;> rfl

theorem blk_letter {c : UInt8} (h : isBl c = true) : letterC c = false := by
  unfold letterC
  rcases blk_n h with e | e <;> rw [e] <;> rfl

theorem letters_ext {q : List UInt8} (hq : Blk q) : ∀ r : List UInt8, lettersN r = r.length → lettersN (r ++ q) = r.length
  | [], _ => by
    cases q with
    | nil => rfl
    | cons c q => rw [List.nil_append, lettersN, blk_letter hq]; rfl
  | c :: r, h => by
    rw [lettersN] at h
    rw [List.cons_append, lettersN]
    cases hc : letterC c with
    | false => rw [hc] at h; simp at h
    | true =>
      rw [hc, cond_true] at h
      rw [cond_true, letters_ext hq r (by simpa using h)]
      rfl

theorem digHead_ext {q : List UInt8} (hq : Blk q) (r : List UInt8) : digHead (r ++ q) = digHead r := by
  cases r with
  | cons c r => rfl
  | nil =>
    cases q with
    | nil => rfl
    | cons c q => exact blk_dig hq

theorem eqHead_ext {q : List UInt8} (hq : Blk q) (r : List UInt8) : eqHead (r ++ q) = eqHead r := by
  cases r with
  | cons c r => rfl
  | nil =>
    cases q with
    | nil => rfl
    | cons c q =>
      show ((UInt8.toNat c : Int) == 61) = false
      rcases blk_n hq with e | e <;> rw [e] <;> rfl

theorem digits_ext {q : List UInt8} (hq : Blk q) (v : Bool) : ∀ (r : List UInt8) (b : Bool), digitsN v b r = r.length → digitsN v b (r ++ q) = r.length
  | [], b, _ => by
    cases q with
    | nil => cases b <;> rfl
    | cons c q =>
      rw [List.nil_append, digitsN, blk_dig hq, cond_false]
      have : ((UInt8.toNat c : Int) == 47) = false := by rcases blk_n hq with e | e <;> rw [e] <;> rfl
      rw [this, Bool.and_false, Bool.false_and, Bool.false_and]; rfl
  | c :: r, b, h => by
    rw [digitsN] at h
    rw [List.cons_append, digitsN, digHead_ext hq]
    cases hd : dig (UInt8.toNat c : Int) with
    | true =>
      rw [hd, cond_true] at h
      rw [cond_true, digits_ext hq v r b (by simpa using h)]; rfl
    | false =>
      rw [hd, cond_false] at h
      rw [cond_false]
      cases hx : (v && (UInt8.toNat c : Int) == 47 && digHead r && !b) with
      | false => rw [hx] at h; simp at h
      | true =>
        rw [hx, cond_true] at h
        rw [cond_true, digits_ext hq v r true (by simpa using h)]; rfl

theorem bracket_ext (q : List UInt8) : ∀ (r : List UInt8) (n : Nat), bracketN r = some n → bracketN (r ++ q) = some n
  | [], n, h => by cases h
  | c :: r, n, h => by
    rw [bracketN] at h
    rw [List.cons_append, bracketN]
    cases hc : (UInt8.toNat c : Int) != 93 with
    | false => rw [hc] at h; exact h
    | true =>
      rw [hc, cond_true] at h
      rw [cond_true]
      cases hb : bracketN r with
      | none => rw [hb] at h; cases h
      | some k => rw [bracket_ext q r k hb]; rw [hb] at h; exact h

theorem quote_ext (q : List UInt8) : ∀ (r : List UInt8) (n : Nat), quoteN r = some n → quoteN (r ++ q) = some n
  | [], n, h => by cases h
  | [c], n, h => by
    rw [quoteN] at h
    cases hc : (UInt8.toNat c : Int) != 34 with
    | true => rw [hc] at h; cases h
    | false => rw [hc] at h; rw [List.cons_append, quoteN_34 hc]; exact h
  | c :: d :: r, n, h => by
    cases hc : (UInt8.toNat c : Int) != 34 with
    | false => rw [quoteN_34 hc] at h; rw [List.cons_append, quoteN_34 hc]; exact h
    | true =>
      rw [quoteN, hc, cond_true] at h
      rw [List.cons_append, List.cons_append, quoteN, hc, cond_true]
      cases h2 : (UInt8.toNat c : Int) == 92 with
      | true =>
        rw [h2, cond_true] at h
        rw [cond_true]
        cases hq : quoteN r with
        | none => rw [hq] at h; cases h
        | some k => rw [quote_ext q r k hq]; rw [hq] at h; exact h
      | false =>
        rw [h2, cond_false] at h
        rw [cond_false]
        cases hq : quoteN (d :: r) with
        | none => rw [hq] at h; cases h
        | some k =>
          have := quote_ext q (d :: r) k hq
          rw [List.cons_append] at this
          rw [this]; rw [hq] at h; exact h

/-- A whole token stays one with a blank behind it. -/
theorem behind_ext {q : List UInt8} (hq : Blk q) (r : List UInt8) (h : (behindS r).1 ≠ 0) (hl : (behindS r).2 = r.length) : behindS (r ++ q) = behindS r := by
  cases r with
  | nil => exact absurd rfl h
  | cons c r =>
    rw [List.cons_append]
    rw [List.length_cons] at hl
    revert h hl
    rw [behindS, behindS]
    cases (UInt8.toNat c : Int) == 40
    case true => intros; rfl
    simp only [cond_false]
    cases (UInt8.toNat c : Int) == 41
    case true => intros; rfl
    simp only [cond_false]
    cases decide (97 ≤ (UInt8.toNat c : Int)) && decide ((UInt8.toNat c : Int) ≤ 122)
    case true =>
      simp only [cond_true]
      intro _ hl
      rw [letters_ext hq r (by omega), show lettersN r = r.length by omega]
    simp only [cond_false, digHead_ext hq, eqHead_ext hq]
    cases (dig (UInt8.toNat c : Int) || ((UInt8.toNat c : Int) == 45 && digHead r))
    case true =>
      simp only [cond_true]
      intro _ hl
      rw [digits_ext hq true r false (by omega), show digitsN true false r = r.length by omega]
    simp only [cond_false]
    cases ((UInt8.toNat c : Int) == 60 && eqHead r)
    case true => intros; rfl
    simp only [cond_false]
    cases signC c
    case true => intros; rfl
    simp only [cond_false]
    cases (UInt8.toNat c : Int) == 91
    case true =>
      simp only [cond_true]
      intro h hl
      obtain ⟨n, e1, e2⟩ := lenOr_some h
      rw [e1, bracket_ext q r n e1]
    simp only [cond_false]
    cases (UInt8.toNat c : Int) == 34
    case true =>
      simp only [cond_true]
      intro h hl
      obtain ⟨n, e1, e2⟩ := lenOr_some h
      rw [e1, quote_ext q r n e1]
    simp only [cond_false]
    cases (UInt8.toNat c : Int) == 64
    case true =>
      simp only [cond_true]
      intro _ hl
      rw [digits_ext hq false r false (by omega), show digitsN false false r = r.length by omega]
    intros; rfl

/-- A token, whole, of its own text. -/
structure Good (x : Tok) : Prop where
  k : (behindS x.t).1 = x.k
  ne : x.k ≠ 0
  n : (behindS x.t).2 = x.t.length
  v : x.v = valS x.k x.t
  ok : x.v.ok = true

theorem Good.pos {x : Tok} (h : Good x) : 1 ≤ x.t.length := by
  have := (behind_len x.t (by rw [h.k]; exact h.ne)).1
  rw [h.n] at this; exact this

theorem tok_good : ∀ (m : Nat) (r : List UInt8) (a : Nat) (l : List Tok) (p : Nat), tokS m r a = (some l, p) → (∀ x ∈ l, Good x) ∧ (l.map fun x => x.t.length).sum ≤ r.length ∧ l.length ≤ r.length
  | 0, r, a, l, p, h => by simp [tokS] at h; rw [h.1]; simp
  | m + 1, [], a, l, p, h => by simp [tokS] at h; rw [h.1]; simp
  | m + 1, c :: t, a, l, p, h => by
    rw [tokS] at h
    cases hb : isBl c with
    | true =>
      rw [hb, cond_true] at h
      obtain ⟨h1, h2, h3⟩ := tok_good m _ _ _ _ h
      exact ⟨h1, by rw [List.length_cons]; omega, by rw [List.length_cons]; omega⟩
    | false =>
      rw [hb, cond_false] at h
      cases hok : okS (c :: t) with
      | false => rw [hok] at h; cases h
      | true =>
        rw [hok, cond_true] at h
        obtain ⟨g1, g2, g3⟩ := okS_len hok
        cases ht : (tokS m ((c :: t).drop (behindS (c :: t)).2) (a + (behindS (c :: t)).2)) with
        | mk o q =>
          rw [ht] at h
          cases o with
          | none => cases h
          | some l' =>
            simp only [Option.map_some, Prod.mk.injEq, Option.some.injEq] at h
            obtain ⟨rfl, rfl⟩ := h
            obtain ⟨h1, h2, h3⟩ := tok_good m _ _ _ _ ht
            have hlen : ((c :: t).take (behindS (c :: t)).2).length = (behindS (c :: t)).2 := by rw [List.length_take]; omega
            have hd : ((c :: t).drop (behindS (c :: t)).2).length = (c :: t).length - (behindS (c :: t)).2 := List.length_drop
            have hbt := behind_take (c :: t) (behindS (c :: t)).2 g3 (Nat.le_refl _)
            refine ⟨fun x hx => ?_, ?_, ?_⟩
            · rcases List.mem_cons.1 hx with rfl | hx
              · refine ⟨by rw [hbt], g3, by rw [hbt, hlen], rfl, ?_⟩
                unfold okS at hok
                simp only [Bool.and_eq_true] at hok
                exact hok.2
              · exact h1 x hx
            · simp only [List.map_cons, List.sum_cons, hlen]; omega
            · rw [List.length_cons]; omega

/-- Tokens laid down with blanks between. -/
def Laid : List UInt8 → List Tok → Prop
  | b, [] => b = []
  | b, x :: l => ∃ g b', b = g ++ (x.t ++ b') ∧ g.all isBl = true ∧ g ≠ [] ∧ Laid b' l

theorem Laid.blk {b : List UInt8} : ∀ {l : List Tok}, Laid b l → Blk b
  | [], h => by rw [h]; trivial
  | x :: l, h => by
    obtain ⟨g, b', rfl, h1, h2, _⟩ := h
    cases g with
    | nil => exact absurd rfl h2
    | cons c g => rw [List.all_cons, Bool.and_eq_true] at h1; exact h1.1

theorem Laid.snoc {x : Tok} {g : List UInt8} (hg : g.all isBl = true) (hne : g ≠ []) : ∀ {l : List Tok} {b : List UInt8}, Laid b l → Laid (b ++ g ++ x.t) (l ++ [x])
  | [], b, h => by rw [h]; exact ⟨g, [], by simp, hg, hne, rfl⟩
  | y :: l, b, h => by
    obtain ⟨g', b', rfl, h1, h2, h3⟩ := h
    exact ⟨g', b' ++ g ++ x.t, by simp [List.append_assoc], h1, h2, Laid.snoc hg hne h3⟩

/-- The same token at another place. -/
def keyT (x : Tok) : Int × List UInt8 × Val := (x.k, x.t, x.v)

theorem tok_blanks : ∀ (g : List UInt8) (m a : Nat) (r : List UInt8), g.all isBl = true → tokS (m + g.length) (g ++ r) a = tokS m r (a + g.length)
  | [], m, a, r, _ => rfl
  | c :: g, m, a, r, h => by
    rw [List.all_cons, Bool.and_eq_true] at h
    rw [List.cons_append, List.length_cons, ← Nat.add_assoc, tokS, h.1, cond_true, tok_blanks g m (a + 1) r h.2]
    congr 1; omega

theorem tok_laid : ∀ (l : List Tok) (b : List UInt8) (m a : Nat), (∀ x ∈ l, Good x) → Laid b l → b.length ≤ m → ∃ l' : List Tok, tokS m b a = (some l', 0) ∧ l'.map keyT = l.map keyT
  | [], b, m, a, _, h, _ => by
    rw [h]
    exact ⟨[], by cases m <;> rfl, rfl⟩
  | x :: l, b, m, a, hg, h, hm => by
    obtain ⟨g, b', rfl, h1, h2, h3⟩ := h
    have gx := hg x (by simp)
    have hpos := gx.pos
    rw [List.length_append, List.length_append] at hm
    have hext : behindS (x.t ++ b') = behindS x.t := behind_ext h3.blk x.t (by rw [gx.k]; exact gx.ne) gx.n
    have e2 : (behindS (x.t ++ b')).2 = x.t.length := by rw [hext, gx.n]
    have e1 : (behindS (x.t ++ b')).1 = x.k := by rw [hext, gx.k]
    have htk : (x.t ++ b').take x.t.length = x.t := by simp
    have hdr : (x.t ++ b').drop x.t.length = b' := by simp
    have hok : okS (x.t ++ b') = true := by
      unfold okS
      rw [e1, e2, htk, ← gx.v, gx.ok, Bool.and_true]
      simpa using gx.ne
    obtain ⟨m, rfl⟩ : ∃ q, m = q + 1 + g.length := ⟨m - 1 - g.length, by omega⟩
    obtain ⟨l', k1, k2⟩ := tok_laid l b' m (a + g.length + x.t.length) (fun y hy => hg y (by simp [hy])) h3 (by omega)
    refine ⟨⟨x.k, a + g.length, x.t, valS x.k x.t⟩ :: l', ?_, by rw [List.map_cons, List.map_cons, k2]; show (_, _, _) :: _ = (_, _, _) :: _; rw [← gx.v]⟩
    rw [tok_blanks g (m + 1) a _ h1]
    cases hx : x.t with
    | nil => rw [hx] at hpos; simp at hpos
    | cons c t =>
      have hbl : isBl c = false := by
        cases hb : isBl c with
        | false => rfl
        | true =>
          exfalso
          have : (behindS x.t).1 ≠ 0 := by rw [gx.k]; exact gx.ne
          apply this
          rw [hx, behindS]
          have e47 := blk_dig hb
          have es : signC c = false := by
            unfold signC
            rw [idxI_mem]
            rcases blk_n hb with e | e
            · have : c = 32 := UInt8.toNat_inj.1 (by show _ = 32; omega)
              rw [this]; rfl
            · have : c = 10 := UInt8.toNat_inj.1 (by show _ = 10; omega)
              rw [this]; rfl
          rw [e47, es]
          rcases blk_n hb with e | e <;> rw [e] <;> rfl
      rw [List.cons_append, tokS, hbl, cond_false, ← List.cons_append, ← hx, hok, cond_true, e1, e2, hdr, htk, k1]
      rfl

theorem F9_eq (k a : Int) (t : List UInt8) (vk vn vd : Int) (vs : List UInt8) : F9 k a t vk vn vd vs k a t vk vn vd vs = some (r9 true) := by
  refine F9_of _ _ _ _ _ _ _ _ _ _ _ _ _ _ ?_
  unfold T9
  simp

theorem F4_l2_eq (l m : List Tok) (hm : l.length ≤ 1000000) (hs : m.map keyT = l.map keyT) : ∀ (n i : Nat), i + n = l.length → F4_l2 (l.map Tok.row) (m.map Tok.row) (i : Int) = some (r4 true)
  | 0, i, h => by
    refine F4_l2_of _ _ _ ?_
    unfold T4_l2
    rw [decide_eq_false (by rw [List.length_map]; omega), cond_false, F7_eq]
    rfl
  | n + 1, i, h => by
    have hlen : m.length = l.length := by have := congrArg List.length hs; simpa using this
    obtain ⟨x, hx⟩ : ∃ x, l[i]? = some x := ⟨_, List.getElem?_eq_getElem (by omega)⟩
    obtain ⟨y, hy⟩ : ∃ y, m[i]? = some y := ⟨_, List.getElem?_eq_getElem (by omega)⟩
    have hxy : keyT y = keyT x := by
      have : (m.map keyT)[i]? = (l.map keyT)[i]? := by rw [hs]
      rw [List.getElem?_map, List.getElem?_map, hx, hy] at this
      simpa using this
    simp only [keyT, Prod.mk.injEq] at hxy
    obtain ⟨s1, s2, s3⟩ := hxy
    have hxr : (l.map Tok.row)[i]? = some x.row := by rw [List.getElem?_map, hx]; rfl
    have hyr : (m.map Tok.row)[i]? = some y.row := by rw [List.getElem?_map, hy]; rfl
    refine F4_l2_of _ _ _ ?_
    unfold T4_l2
    rw [decide_eq_true (by rw [List.length_map]; omega), cond_true]
    simp only [nth_at rfl hxr, nth_at rfl hyr, vRow_tok]
    rw [s1, s2, s3, F9_eq, vP9_mk, Bool.not_true, cond_false]
    have hw : IntKind.wrap .i64 ((i : Int) + 1) = ((i + 1 : Nat) : Int) := by rw [wr64 (by omega) (by omega)]; omega
    rw [hw]
    exact F4_l2_eq l m hm hs n (i + 1) (by omega)

/-- One gap, and the token behind it. -/
theorem F4_l0_eq (gs l : List (List D)) (x9 : Int) (n : Nat) (hn : n ≤ 3) {r : Res} : ∀ (j i : Nat) (b : List UInt8), i + j = n → b.length + j ≤ 1000000 →
    ∃ g : List UInt8, g.all isBl = true ∧ g.length = j ∧ (F4_l0 gs l (b ++ g) x9 (n : Int) (n : Int) = some r → F4_l0 gs l b x9 (n : Int) (i : Int) = some r)
  | 0, i, b, h, hb => ⟨[], rfl, rfl, fun h' => by rw [List.append_nil] at h'; rw [show i = n by omega]; exact h'⟩
  | j + 1, i, b, h, hb => by
    have step : ∀ c : UInt8, isBl c = true → ((Int.tmod (i : Int) 2 == 0) = true → c = 32) → ((Int.tmod (i : Int) 2 == 0) = false → c = 10) → ∃ g : List UInt8, g.all isBl = true ∧ g.length = j + 1 ∧ (F4_l0 gs l (b ++ g) x9 (n : Int) (n : Int) = some r → F4_l0 gs l b x9 (n : Int) (i : Int) = some r) := by
      intro c hc h1 h2
      obtain ⟨g, g1, g2, g3⟩ := F4_l0_eq gs l x9 n hn (r := r) j (i + 1) (b ++ [c]) (by omega) (by simp; omega)
      refine ⟨c :: g, by simp [hc, g1], by simp [g2], fun h' => ?_⟩
      rw [show b ++ c :: g = b ++ [c] ++ g by simp] at h'
      have h3 := g3 h'
      refine F4_l0_of _ _ _ _ _ _ ?_
      unfold T4_l0
      have hw : IntKind.wrap .i64 ((i : Int) + 1) = ((i + 1 : Nat) : Int) := by rw [wr64 (by omega) (by omega)]; omega
      rw [decide_eq_true (by omega), cond_true, if_neg (by decide), hw]
      cases hp : Int.tmod (i : Int) 2 == 0 with
      | true => rw [cond_true, if_pos (by simp; omega)]; rw [h1 hp] at h3; exact h3
      | false => rw [cond_false, if_pos (by simp; omega)]; rw [h2 hp] at h3; exact h3
    cases hp : Int.tmod (i : Int) 2 == 0 with
    | true => exact step 32 rfl (fun _ => rfl) (fun h => by rw [hp] at h; cases h)
    | false => exact step 10 rfl (fun h => by rw [hp] at h; cases h) (fun _ => rfl)

theorem F4_l1_eq (gs : List Int) (l : List Tok) (hg : ∀ x ∈ l, Good x) (hll : l.length ≤ 20000) (hgl : (gs.length : Int) ≤ 9223372036854775807) (hsum : (l.map fun x => x.t.length).sum ≤ 20000) :
    ∀ (r : List Tok) (q : List Tok) (b : List UInt8), l = q ++ r → Laid b q → b.length ≤ 3 * q.length + (q.map fun x => x.t.length).sum → F4_l1 (gs.map fun g => [.i .i64 g]) (l.map Tok.row) b (q.length : Int) = some (r4 true)
  | [], q, b, hq, hb, hbl => by
    rw [List.append_nil] at hq
    subst hq
    refine F4_l1_of _ _ _ _ ?_
    unfold T4_l1
    rw [decide_eq_false (by rw [List.length_map]; omega), cond_false]
    by_cases hlen : 16384 < b.length
    · rw [F6_long b hlen, v6_mk, decide_eq_true (by omega), cond_true, F7_eq]
      rfl
    · obtain ⟨l', k1, k2⟩ := tok_laid l b b.length 0 hg hb (Nat.le_refl _)
      rw [F6_eq b (by omega), k1]
      show (v6 (some (r6 (l'.map Tok.row) 0 0)) _) = _
      rw [v6_mk, decide_eq_false (by omega), cond_false, show ((0 : Int) != 0) = false from rfl, cond_false, List.length_map, List.length_map, show l'.length = l.length by (have := congrArg List.length k2; simpa using this), show (((l.length : Int) != (l.length : Int))) = false by simp, cond_false]
      exact F4_l2_eq l l' (by omega) k2 l.length 0 (by omega)
  | x :: r, q, b, hq, hb, hbl => by
    have hlt : q.length < l.length := by rw [hq]; simp
    have hx : l[q.length]? = some x := by rw [hq]; simp
    have hxr : (l.map Tok.row)[q.length]? = some x.row := by rw [List.getElem?_map, hx]; rfl
    have hsq : (q.map fun x => x.t.length).sum + x.t.length ≤ 20000 := by
      have : (l.map fun x => x.t.length).sum = (q.map fun x => x.t.length).sum + (x.t.length + (r.map fun x => x.t.length).sum) := by rw [hq]; simp
      omega
    have key : ∀ n : Nat, 1 ≤ n → n ≤ 3 → F4_l0 (gs.map fun g => [.i .i64 g]) (l.map Tok.row) b (q.length : Int) (n : Int) 0 = some (r4 true) := by
      intro n h1 h3
      obtain ⟨g, g1, g2, g3⟩ := F4_l0_eq (gs.map fun g => [.i .i64 g]) (l.map Tok.row) (q.length : Int) n h3 (r := r4 true) n 0 b (by omega) (by omega)
      refine g3 (F4_l0_of _ _ _ _ _ _ ?_)
      unfold T4_l0
      have hw : IntKind.wrap .i64 ((q.length : Int) + 1) = ((q ++ [x]).length : Int) := by rw [wr64 (by omega) (by omega)]; simp
      rw [decide_eq_false (by omega), cond_false, nth_at rfl hxr, vRow_tok, hw, if_pos (by rw [List.length_append]; omega)]
      have hgne : g ≠ [] := by rintro rfl; simp at g2; omega
      exact F4_l1_eq gs l hg hll hgl hsum r (q ++ [x]) (b ++ g ++ x.t) (by rw [hq]; simp) (hb.snoc g1 hgne) (by simp only [List.length_append, List.map_append, List.map_cons, List.map_nil, List.sum_append, List.sum_cons, List.sum_nil, List.length_cons, List.length_nil]; omega)
    refine F4_l1_of _ _ _ _ ?_
    unfold T4_l1
    rw [decide_eq_true (by rw [List.length_map]; omega), cond_true]
    by_cases hgi : q.length < gs.length
    · obtain ⟨g, hgg⟩ : ∃ g, gs[q.length]? = some g := ⟨_, List.getElem?_eq_getElem hgi⟩
      have hgr : (gs.map fun g => ([.i .i64 g] : List D))[q.length]? = some [.i .i64 g] := by rw [List.getElem?_map, hgg]; rfl
      rw [decide_eq_true (by rw [List.length_map]; omega), cond_true, nth_at rfl hgr, vRow_i_mk]
      have b1 : -3 < Int.tmod g 3 ∧ Int.tmod g 3 < 3 := by
        have := Int.tmod_lt_of_pos g (show (0 : Int) < 3 by decide)
        have := Int.lt_tmod_of_pos g (show (0 : Int) < 3 by decide)
        omega
      have w1 : IntKind.wrap .i64 (Int.tmod g 3 + 3) = Int.tmod g 3 + 3 := wr64 (by omega) (by omega)
      have e2 : Int.tmod (Int.tmod g 3 + 3) 3 = (Int.tmod g 3 + 3) % 3 := Int.tmod_eq_emod_of_nonneg (by omega)
      rw [if_neg (by decide), if_neg (by decide), w1, e2]
      have w2 : IntKind.wrap .i64 (1 + (Int.tmod g 3 + 3) % 3) = (((1 + (Int.tmod g 3 + 3) % 3).toNat : Nat) : Int) := by rw [wr64 (by omega) (by omega)]; omega
      rw [w2]
      exact key _ (by omega) (by omega)
    · rw [decide_eq_false (by rw [List.length_map]; omega), cond_false]
      exact key 1 (by omega) (by omega)

theorem lexAgain (s : List UInt8) (gs : List Int) (hs : (s.length : Int) ≤ 9223372036854775807) (hgl : (gs.length : Int) ≤ 9223372036854775807) : F4 s (gs.map fun g => [.i .i64 g]) = some (r4 true) := by
  refine F4_of _ _ ?_
  unfold T4
  by_cases hl : 16384 < s.length
  · rw [F6_long s hl, v6_mk, F7_eq]
    rfl
  · rw [F6_eq s (by omega)]
    cases h : tokS s.length s 0 with
    | mk o p =>
      cases o with
      | none =>
        show (v6 (some (r6 [] 50 (p : Int))) _) = _
        rw [v6_mk, F7_eq]
        rfl
      | some l =>
        obtain ⟨h1, h2, h3⟩ := tok_good _ _ _ _ _ h
        show (v6 (some (r6 (l.map Tok.row) 0 0)) _) = _
        rw [v6_mk, show ((0 : Int) != 0) = false from rfl, cond_false]
        exact F4_l1_eq gs l h1 (by omega) hgl (by omega) l [] [] rfl rfl (by simp)

end Go.Eng.L05
