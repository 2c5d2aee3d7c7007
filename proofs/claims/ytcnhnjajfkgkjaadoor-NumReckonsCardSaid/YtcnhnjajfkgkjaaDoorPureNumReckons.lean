/- NumReckons, the plain law: 'Fits', 'Add' and 'Mul' of any two numbers are as the document's answer has them. -/
import Derived.Test.YtcnhnjajfkgkjaaDoorNum
namespace Go.Proofs.YtcnhnjajfkgkjaaDoor.Pure
open Go.RowKit Go.Proofs.YtcnhnjajfkgkjaaDoor.PNu Go.Proofs.YtcnhnjajfkgkjaaDoorW.PrintWords Go.Proofs.YtcnhnjajfkgkjaaDoorW.PrintLast Go.Proofs.YtcnhnjajfkgkjaaDoorW.PrintMore

theorem shr_and (b n : Nat) (hb : b ≤ 4611686018427387903) (hn : n ≤ 61) : Go.bits .and .i64 (shr .i64 (b : Int) (n : Int)) 1 = ((b / 2 ^ n % 2 : Nat) : Int) := by
  have e : shr .i64 (b : Int) (n : Int) = ((b / 2 ^ n : Nat) : Int) := by
    unfold shr
    rw [Int.toNat_natCast, Nat.min_eq_left (show n ≤ IntKind.bits .i64 by show n ≤ 64; omega), Int.natCast_ediv, Int.natCast_pow]
    rfl
  have hle : b / 2 ^ n ≤ b := Nat.div_le_self _ _
  have hk : ∀ n : Int, 0 ≤ n → n < 2 ^ 63 → IntKind.i64.wrap n = n := fun n h0 h1 => by rw [IntKind.wrap_i64]; omega
  rw [e]
  generalize b / 2 ^ n = q at *
  have := bits_mask .i64 63 (by decide) hk 1 (by decide) (q : Int) (by omega) (by omega)
  rw [show (1 : Int) = 2 ^ 1 - 1 from by decide, this]
  omega

theorem ref_mul_loop (a : Int) (b : Nat) (ha : fit a) (hb : b ≤ 4611686018427387903) : ∀ (n : Nat), n ≤ 62 → fit (a * ((b / 2 ^ n : Nat) : Int)) → ∀ k, n < k →
    haulierref01_Mul.l0 k a (b : Int) (a * ((b / 2 ^ n : Nat) : Int)) ((n : Int) - 1) = some (if fit (a * (b : Int)) then (a * (b : Int), 0) else (0, 10)) := by
  intro n
  induction n with
  | zero =>
    intro _ hf k hk
    obtain ⟨k, rfl⟩ : ∃ m, k = m + 1 := ⟨k - 1, by omega⟩
    rw [Nat.pow_zero, Nat.div_one] at hf ⊢
    simp only [haulierref01_Mul.l0]
    rw [if_neg (by decide), if_pos hf]
  | succ n ih =>
    intro hn hf k hk
    obtain ⟨k, rfl⟩ : ∃ m, k = m + 1 := ⟨k - 1, by omega⟩
    have hq : b / 2 ^ n = 2 * (b / 2 ^ (n + 1)) + b / 2 ^ n % 2 := by
      rw [Nat.pow_succ, ← Nat.div_div_eq_div_mul]
      omega
    have hle : b / 2 ^ n ≤ b := Nat.div_le_self _ _
    have hbit := shr_and b n hb (by omega)
    have hi := ih (by omega)
    generalize b / 2 ^ (n + 1) = q at *
    generalize hp : b / 2 ^ n = p at *
    simp only [haulierref01_Mul.l0]
    rw [show ((n + 1 : Nat) : Int) - 1 = (n : Int) from by omega, if_pos (by omega), ref_fits]
    simp only [Option.bind_some]
    have e2 : 2 * (a * (q : Int)) = a * ((2 * q : Nat) : Int) := by
      rw [Int.natCast_mul, ← Int.mul_assoc, Int.mul_comm 2 a, Int.mul_assoc]
      rfl
    have hw : wrap64 (2 * (a * (q : Int))) = a * ((2 * q : Nat) : Int) := by
      rw [← e2]
      unfold fit at hf
      unfold wrap64
      omega
    rw [hw]
    by_cases h2 : fit (a * ((2 * q : Nat) : Int))
    · rw [decide_eq_true h2, if_pos rfl, if_pos (by omega), hbit, show wrap64 ((n : Int) - 1) = (n : Int) - 1 from by unfold wrap64; omega]
      by_cases hb1 : p % 2 = 1
      · have e3 : a * ((2 * q : Nat) : Int) + a = a * (p : Int) := by
          rw [hq, hb1, Int.natCast_add, Int.mul_add]
          simp
        have hw3 : wrap64 (a * ((2 * q : Nat) : Int) + a) = a * (p : Int) := by
          rw [← e3]
          unfold fit at h2 ha
          unfold wrap64
          omega
        rw [if_pos (by omega), hw3, ref_fits]
        simp only [Option.bind_some]
        by_cases h3 : fit (a * (p : Int))
        · rw [decide_eq_true h3, if_pos rfl]
          exact hi h3 k (by omega)
        · rw [decide_eq_false h3, if_neg (by decide), if_neg (fun h => h3 (fit_less (by omega) (by omega) h))]
      · rw [if_neg (by omega)]
        have e3 : a * ((2 * q : Nat) : Int) = a * (p : Int) := by rw [show 2 * q = p from by omega]
        rw [e3] at h2 ⊢
        exact hi h2 k (by omega)
    · rw [decide_eq_false h2, if_neg (by decide), if_neg (fun h => h2 (fit_less (by omega) (by omega) h))]

theorem ref_mul (a b : Int) (k : Nat) (hk : 70 < k) : haulierref01_Mul.f k a b = some (mulG a b) := by
  unfold haulierref01_Mul.f mulG
  obtain ⟨k, rfl⟩ : ∃ m, k = m + 1 + 1 := ⟨k - 2, by omega⟩
  have main : ∀ (x : Int) (y : Nat), fit x → y ≤ 4611686018427387903 → haulierref01_Mul.j1 (k + 1) x (y : Int) = some (if fit (x * (y : Int)) then (x * (y : Int), 0) else (0, 10)) := by
    intro x y hx hy
    simp only [haulierref01_Mul.j1]
    have h0 : y / 2 ^ 62 = 0 := Nat.div_eq_of_lt (by omega)
    have := ref_mul_loop x y hx hy 62 (Nat.le_refl _) (by rw [h0]; simp; decide) k (by omega)
    rw [h0] at this
    simpa using this
  rw [ref_fits]
  simp only [Option.bind_some]
  by_cases ha : fit a
  · rw [decide_eq_true ha, if_pos rfl, ref_fits]
    simp only [Option.bind_some]
    by_cases hb : fit b
    · rw [decide_eq_true hb]
      simp only [haulierref01_Mul.j0]
      rw [if_neg (by decide)]
      by_cases h0 : b < 0
      · have e1 : wrap64 (-a) = -a := by unfold fit at ha; unfold wrap64; omega
        have e2 : wrap64 (-b) = -b := by unfold fit at hb; unfold wrap64; omega
        rw [if_pos h0, e1, e2]
        obtain ⟨y, hy⟩ := Int.eq_ofNat_of_zero_le (show 0 ≤ -b by omega)
        have hm := main (-a) y (fit_neg ha) (by unfold fit at hb; omega)
        rw [← hy, Int.neg_mul_neg] at hm
        rw [hm]
        by_cases hf : fit (a * b)
        · rw [if_pos hf, if_pos ⟨ha, hb, hf⟩]
        · rw [if_neg hf, if_neg (fun h => hf h.2.2)]
      · rw [if_neg h0]
        obtain ⟨y, rfl⟩ := Int.eq_ofNat_of_zero_le (show 0 ≤ b by omega)
        rw [main a y ha (by unfold fit at hb; omega)]
        by_cases hf : fit (a * (y : Int))
        · rw [if_pos hf, if_pos ⟨ha, hb, hf⟩]
        · rw [if_neg hf, if_neg (fun h => hf h.2.2)]
    · rw [decide_eq_false hb, if_neg (fun h => hb h.2.1)]
      simp only [haulierref01_Mul.j0]
      rw [if_pos (by decide)]
  · rw [decide_eq_false ha, if_neg (by decide), if_neg (fun h => ha h.1)]
    simp only [haulierref01_Mul.j0]
    rw [if_pos trivial]

theorem NumReckons : haulierlaw01_NumReckons.Pure := by
  intro a b _ _
  obtain ⟨K, hK⟩ : ∃ K : Nat, 70 < K := ⟨71, by omega⟩
  refine ⟨K, ?_⟩
  unfold haulierlaw01_NumReckons.f
  rw [awake]
  simp only [Option.bind_some, if_true]
  rw [add_tells, ref_add, mul_tells, ref_mul a b K hK, fits_tells, ref_fits]
  simp only [Option.bind_some, if_true]
  rw [if_pos (beq_self_eq_true _), beq_self_eq_true]

end Go.Proofs.YtcnhnjajfkgkjaaDoor.Pure
