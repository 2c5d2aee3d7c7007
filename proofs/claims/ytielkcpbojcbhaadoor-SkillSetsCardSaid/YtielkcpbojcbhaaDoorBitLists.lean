/- Plain lemmas: the list of a set's bits; what covers what. No program is in sight. -/
import Derived.Test.YtielkcpbojcbhaaDoorSets
import Derived.Lib.TrailingZeros
namespace Go.Proofs.YtielkcpbojcbhaaDoor.Bits

/-- The places of the set bits among the n lowest, the first counted as i. -/
def bl : Nat → Nat → Nat → List Int
  | 0, _, _ => []
  | n + 1, i, x => if x % 2 = 1 then (i : Int) :: bl n (i + 1) (x / 2) else bl n (i + 1) (x / 2)

theorem bl_double (n i m : Nat) : bl (n + 1) i (2 * m) = bl n (i + 1) m := by
  show (if 2 * m % 2 = 1 then _ else _) = _
  rw [if_neg (by omega), show 2 * m / 2 = m from by omega]
theorem bl_odd (n i m : Nat) : bl (n + 1) i (2 * m + 1) = (i : Int) :: bl n (i + 1) m := by
  show (if (2 * m + 1) % 2 = 1 then _ else _) = _
  rw [if_pos (by omega), show (2 * m + 1) / 2 = m from by omega]
theorem bl_pow (t : Nat) : ∀ n i y, bl (n + t) i (2 ^ t * y) = bl n (i + t) y := by
  induction t with
  | zero => intro n i y; simp
  | succ t ih =>
    intro n i y
    rw [show 2 ^ (t + 1) * y = 2 * (2 ^ t * y) from by rw [Nat.pow_succ, Nat.mul_comm (2 ^ t) 2, Nat.mul_assoc], show n + (t + 1) = (n + t) + 1 from by omega, bl_double, ih, show i + 1 + t = i + (t + 1) from by omega]
theorem bl_low (x : Nat) (h0 : x ≠ 0) (h : x < 2 ^ 64) : bl 64 0 x = ((Lib.ctz 64 x : Nat) : Int) :: bl 64 0 (x &&& (x - 1)) := by
  obtain ⟨m, hm, hk⟩ := Lib.ctzFrom_spec 64 x (by omega) h
  have e : Lib.ctz 64 x = Lib.ctzFrom 64 x := by simp [Lib.ctz, h0]
  rw [e]
  generalize Lib.ctzFrom 64 x = t at *
  clear e
  have hx : x = 2 ^ (t + 1) * m + 2 ^ t := by rw [hm, Nat.mul_add, Nat.mul_one, ← Nat.mul_assoc, ← Nat.pow_succ]
  have hp := Nat.two_pow_pos t
  have h1 : x - 1 = 2 ^ (t + 1) * m + (2 ^ t - 1) := by rw [hx]; omega
  have hlt : 2 ^ t < 2 ^ (t + 1) := Nat.pow_lt_pow_right (by decide) (by omega)
  have hand : x &&& (x - 1) = 2 ^ t * (2 * m) := by
    rw [h1, hx, and_split _ _ _ _ _ hlt (by omega), Nat.and_self, Nat.and_two_pow_sub_one_eq_mod, Nat.mod_self, Nat.add_zero, Nat.pow_succ, Nat.mul_assoc]
  rw [hand, hm, show (64 : Nat) = (63 - t + 1) + t from by omega, bl_pow, bl_pow, bl_odd, bl_double, Nat.zero_add]

theorem mem_bl (n : Nat) : ∀ (i x : Nat) (j : Int), j ∈ bl n i x ↔ ∃ d, d < n ∧ j = ((i + d : Nat) : Int) ∧ x.testBit d = true := by
  induction n with
  | zero => intro i x j; simp [bl]
  | succ n ih =>
    intro i x j
    have hrest : (∃ d, d < n ∧ j = ((i + 1 + d : Nat) : Int) ∧ (x / 2).testBit d = true) ↔ ∃ d, d < n + 1 ∧ 0 < d ∧ j = ((i + d : Nat) : Int) ∧ x.testBit d = true := by
      constructor
      · rintro ⟨d, h1, h2, h3⟩
        exact ⟨d + 1, by omega, by omega, by omega, by rw [Nat.testBit_succ]; exact h3⟩
      · rintro ⟨d, h1, h2, h3, h4⟩
        obtain ⟨d, rfl⟩ : ∃ e, d = e + 1 := ⟨d - 1, by omega⟩
        exact ⟨d, by omega, by omega, by rw [Nat.testBit_succ] at h4; exact h4⟩
    have h0 : x.testBit 0 = decide (x % 2 = 1) := Nat.testBit_zero x
    unfold bl
    by_cases hx : x % 2 = 1
    · rw [if_pos hx, List.mem_cons, ih, hrest]
      constructor
      · rintro (h | ⟨d, h1, _, h3, h4⟩)
        · exact ⟨0, by omega, by simpa using h, by rw [h0]; simpa using hx⟩
        · exact ⟨d, h1, h3, h4⟩
      · rintro ⟨d, h1, h3, h4⟩
        rcases Nat.eq_zero_or_pos d with rfl | hd
        · exact .inl (by simpa using h3)
        · exact .inr ⟨d, h1, hd, h3, h4⟩
    · rw [if_neg hx, ih, hrest]
      constructor
      · rintro ⟨d, h1, _, h3, h4⟩
        exact ⟨d, h1, h3, h4⟩
      · rintro ⟨d, h1, h3, h4⟩
        rcases Nat.eq_zero_or_pos d with rfl | hd
        · rw [h0] at h4
          simp [hx] at h4
        · exact ⟨d, h1, hd, h3, h4⟩

theorem bl_nodup (n : Nat) : ∀ i x, (bl n i x).Nodup := by
  induction n with
  | zero => intro i x; exact List.nodup_nil
  | succ n ih =>
    intro i x
    unfold bl
    split
    · rw [List.nodup_cons]
      refine ⟨fun hm => ?_, ih _ _⟩
      obtain ⟨d, _, h, _⟩ := (mem_bl n (i + 1) (x / 2) i).1 hm
      omega
    · exact ih _ _

theorem pop_succ (x n : Nat) : pop x (n + 1) = x % 2 + pop (x / 2) n := by
  unfold pop
  conv => lhs; unfold S
theorem pop_none (x : Nat) : pop x 0 = 0 := by
  unfold pop
  unfold S
  rfl
theorem bl_length (n : Nat) : ∀ i x, (bl n i x).length = pop x n := by
  induction n with
  | zero => intro i x; rw [pop_none]; rfl
  | succ n ih =>
    intro i x
    rw [pop_succ]
    unfold bl
    split
    · rw [List.length_cons, ih]; omega
    · rw [ih]; omega

theorem bl_nil (x : Nat) (h : x < 2 ^ 64) (e : bl 64 0 x = []) : x = 0 := by
  by_cases h0 : x = 0
  · exact h0
  · rw [bl_low x h0 h] at e
    cases e

/-- The list of a valid set is the list of that set. -/
theorem ofL_bl (a : Nat) (ha : a < 2 ^ 62) : ofL 0 0 (bl 64 0 a) = ((a : Int), 0, 0) := by
  have hg : Good 0 (bl 64 0 a) := by
    refine ⟨fun s hs => ?_, bl_nodup _ _ _⟩
    obtain ⟨d, h1, h2, h3⟩ := (mem_bl _ _ _ _).1 hs
    have : d < 62 := by
      rcases Nat.lt_or_ge d 62 with h | h
      · exact h
      · rw [Nat.testBit_lt_two_pow (Nat.lt_of_lt_of_le ha (Nat.pow_le_pow_right (by decide) h))] at h3
        cases h3
    exact ⟨by omega, by omega, Nat.zero_testBit _⟩
  obtain ⟨r, h1, h2, h3, _⟩ := ofL_good _ 0 0 (by decide) hg
  have : r = a := by
    apply Nat.eq_of_testBit_eq
    intro j
    rw [h3, Nat.zero_testBit, Bool.false_or, Bool.eq_iff_iff, decide_eq_true_iff, mem_bl]
    constructor
    · rintro ⟨d, _, h, hb⟩
      have : j = d := by omega
      rw [this]; exact hb
    · intro h
      refine ⟨j, ?_, by omega, h⟩
      rcases Nat.lt_or_ge j 64 with hj | hj
      · exact hj
      · rw [Nat.testBit_lt_two_pow (Nat.lt_of_lt_of_le ha (Nat.pow_le_pow_right (by decide) (by omega)))] at h
        cases h
  rw [h1, this]

/-- Which of two words has each bit of the other. -/
def cov (x y : Nat) : Bool := (y &&& (18446744073709551615 - x)) == 0
theorem cov_iff (x y : Nat) (hx : x < 2 ^ 64) (hy : y < 2 ^ 64) : cov x y = true ↔ ∀ j, y.testBit j = true → x.testBit j = true := by
  unfold cov
  rw [beq_iff_eq, show 18446744073709551615 - x = 2 ^ 64 - (x + 1) from by omega]
  constructor
  · intro h j hj
    have hb : (y &&& (2 ^ 64 - (x + 1))).testBit j = false := by rw [h]; exact Nat.zero_testBit _
    rw [Nat.testBit_and, Nat.testBit_two_pow_sub_succ hx, hj] at hb
    have hlt : j < 64 := by
      rcases Nat.lt_or_ge j 64 with h | h
      · exact h
      · rw [Nat.testBit_lt_two_pow (Nat.lt_of_lt_of_le hy (Nat.pow_le_pow_right (by decide) h))] at hj
        cases hj
    simpa [hlt] using hb
  · intro h
    apply Nat.eq_of_testBit_eq
    intro j
    rw [Nat.testBit_and, Nat.testBit_two_pow_sub_succ hx, Nat.zero_testBit]
    cases hj : y.testBit j with
    | false => rfl
    | true => simp [h j hj]
theorem cov_self (x : Nat) (hx : x < 2 ^ 64) : cov x x = true := (cov_iff x x hx hx).2 fun _ h => h
theorem cov_and (x y : Nat) (hx : x < 2 ^ 64) : cov x (x &&& y) = true := (cov_iff x _ hx (Nat.lt_of_le_of_lt Nat.and_le_left hx)).2 fun j h => by
  rw [Nat.testBit_and, Bool.and_eq_true] at h
  exact h.1
theorem cov_or (x y : Nat) (hx : x < 2 ^ 64) (hy : y < 2 ^ 64) : cov (x ||| y) y = true := (cov_iff _ y (Nat.or_lt_two_pow hx hy) hy).2 fun j h => by
  rw [Nat.testBit_or, h, Bool.or_true]
theorem cov_or_eq (x y : Nat) (hx : x < 2 ^ 64) (hy : y < 2 ^ 64) : cov x y = ((x ||| y) == x) := by
  rw [Bool.eq_iff_iff, cov_iff x y hx hy, beq_iff_eq]
  constructor
  · intro h
    apply Nat.eq_of_testBit_eq
    intro j
    rw [Nat.testBit_or]
    cases hj : y.testBit j with
    | false => rw [Bool.or_false]
    | true => rw [h j hj]; rfl
  · intro h j hj
    rw [← h, Nat.testBit_or, hj, Bool.or_true]

/-- The question bit by bit. -/
theorem cov_bits (x y : Nat) (hx : x < 2 ^ 64) (hy : y < 2 ^ 64) : cov x y = (List.range 64).all fun j => !(y.testBit j) || x.testBit j := by
  rw [Bool.eq_iff_iff, cov_iff x y hx hy, List.all_eq_true]
  constructor
  · intro h j _
    cases hj : y.testBit j with
    | false => rfl
    | true => rw [h j hj]; rfl
  · intro h j hj
    have hlt : j < 64 := by
      rcases Nat.lt_or_ge j 64 with h | h
      · exact h
      · rw [Nat.testBit_lt_two_pow (Nat.lt_of_lt_of_le hy (Nat.pow_le_pow_right (by decide) h))] at hj
        cases hj
    have := h j (List.mem_range.2 hlt)
    simpa [hj] using this

end Go.Proofs.YtielkcpbojcbhaaDoor.Bits
