/- The printed functions of layer 1 in plain words: sums, products, the fixed facts. -/
import Derived.Test.YtcnhnjajfkgkjaaDoorPNux3
namespace Go.Proofs.YtcnhnjajfkgkjaaDoor.Pure
open Go.RowKit Go.Proofs.YtcnhnjajfkgkjaaDoor.PNu Go.Proofs.YtcnhnjajfkgkjaaDoorW.PrintWords Go.Proofs.YtcnhnjajfkgkjaaDoorW.PrintLast Go.Proofs.YtcnhnjajfkgkjaaDoorW.PrintMore

/-- Within 2^62 - 1. -/
def fit (a : Int) : Prop := -4611686018427387903 ≤ a ∧ a ≤ 4611686018427387903
instance (a : Int) : Decidable (fit a) := inferInstanceAs (Decidable (_ ∧ _))
def addG (a b : Int) : Int × Int := if fit a ∧ fit b ∧ fit (a + b) then (a + b, 0) else (0, 10)
def mulG (a b : Int) : Int × Int := if fit a ∧ fit b ∧ fit (a * b) then (a * b, 0) else (0, 10)

theorem wf_i64 (a : Int) (h : (Lit.int .i64 a).wf = true) : -9223372036854775808 ≤ a ∧ a ≤ 9223372036854775807 := by
  simp [Lit.wf, IntKind.min, IntKind.max, IntKind.signed, IntKind.bits] at h
  omega

theorem fits_tells (a : Int) : num_Fits.f a = some (decide (fit a)) := by
  unfold num_Fits.f
  by_cases h : a ≥ -4611686018427387903
  · rw [if_pos h]
    congr 1
    rw [Bool.eq_iff_iff, decide_eq_true_iff, decide_eq_true_iff]
    unfold fit
    omega
  · rw [if_neg h, decide_eq_false (show ¬ fit a from fun e => h e.1)]
theorem wrap_small (n : Nat) (h : n ≤ 4611686018427387903) : wrap64 (n : Int) = (n : Int) := by
  unfold wrap64
  omega
theorem ref_fits (a : Int) : haulierref01_Fits.f a = some (decide (fit a)) := by
  have : haulierref01_Fits.f a = num_Fits.f a := rfl
  rw [this, fits_tells]
theorem add_tells (a b : Int) : num_Add.f a b = some (addG a b) := by
  unfold num_Add.f addG
  rw [fits_tells]
  simp only [Option.bind_some]
  by_cases ha : fit a
  · rw [decide_eq_true ha, if_pos rfl, fits_tells]
    simp only [Option.bind_some]
    by_cases hb : fit b
    · have hw : wrap64 (a + b) = a + b := by unfold fit at ha hb; unfold wrap64; omega
      rw [decide_eq_true hb, if_pos rfl, hw, fits_tells]
      simp only [Option.bind_some]
      by_cases hc : fit (a + b)
      · rw [decide_eq_true hc, if_pos rfl, if_pos ⟨ha, hb, hc⟩]
      · rw [decide_eq_false hc, if_neg (by decide), if_neg (fun h => hc h.2.2)]
    · rw [decide_eq_false hb, if_neg (by decide), if_neg (fun h => hb h.2.1)]
  · rw [decide_eq_false ha, if_neg (by decide), if_neg (fun h => ha h.1)]
theorem ref_add (a b : Int) : haulierref01_Add.f a b = some (addG a b) := by
  have : haulierref01_Add.f a b = num_Add.f a b := rfl
  rw [this, add_tells]

/-! Products: both magnitudes. -/
theorem fit_neg {a : Int} (h : fit a) : fit (-a) := by unfold fit at *; omega
theorem fit_neg_iff (a : Int) : fit (-a) ↔ fit a := by unfold fit; omega
/-- A product by less is no greater. -/
theorem fit_less {a b m : Int} (h0 : 0 ≤ m) (h1 : m ≤ b) (h : fit (a * b)) : fit (a * m) := by
  unfold fit at *
  rcases Int.le_total 0 a with ha | ha
  · have := Int.mul_le_mul_of_nonneg_left h1 ha
    have := Int.mul_nonneg ha h0
    omega
  · have h2 := Int.mul_le_mul_of_nonpos_left ha h1
    have h3 := Int.mul_nonpos_of_nonpos_of_nonneg ha h0
    omega
theorem size_tells (a : Int) (h : fit a) : num_size.f a = some (a.natAbs : Int) := by
  unfold num_size.f
  unfold fit at h
  by_cases h0 : a < 0
  · rw [if_pos h0]
    congr 1
    unfold wrap64
    omega
  · rw [if_neg h0]
    congr 1
    omega
theorem mul_tells (a b : Int) : num_Mul.f a b = some (mulG a b) := by
  unfold num_Mul.f mulG
  rw [fits_tells]
  simp only [Option.bind_some]
  by_cases ha : fit a
  · rw [decide_eq_true ha, if_pos rfl, fits_tells]
    simp only [Option.bind_some]
    by_cases hb : fit b
    · rw [decide_eq_true hb, if_pos rfl]
      by_cases h0 : a = 0
      · subst h0
        rw [if_pos rfl, Int.zero_mul, if_pos ⟨ha, hb, by decide⟩, show wrap64 0 = 0 from by unfold wrap64; omega]
      · rw [if_neg h0, size_tells b hb]
        simp only [Option.bind_some]
        rw [size_tells a ha]
        simp only [Option.bind_some]
        have hpos : 0 < a.natAbs := Int.natAbs_pos.2 h0
        rw [if_neg (by omega)]
        have hd : Int.tdiv 4611686018427387903 (a.natAbs : Int) = ((4611686018427387903 / a.natAbs : Nat) : Int) := by
          rw [Int.tdiv_eq_ediv_of_nonneg (by decide)]
          exact (Int.natCast_ediv _ _).symm
        have hle : 4611686018427387903 / a.natAbs ≤ 4611686018427387903 := Nat.div_le_self _ _
        have hw : wrap64 ((4611686018427387903 / a.natAbs : Nat) : Int) = ((4611686018427387903 / a.natAbs : Nat) : Int) := wrap_small _ hle
        rw [hd, hw]
        have key : (b.natAbs ≤ 4611686018427387903 / a.natAbs) ↔ fit (a * b) := by
          rw [Nat.le_div_iff_mul_le hpos, ← Int.natAbs_mul, Int.mul_comm]
          unfold fit
          omega
        by_cases hk : fit (a * b)
        · have := key.2 hk
          rw [if_neg (by omega), if_pos ⟨ha, hb, hk⟩]
          congr 2
          unfold fit at hk
          unfold wrap64
          omega
        · have : ¬ b.natAbs ≤ 4611686018427387903 / a.natAbs := fun h => hk (key.1 h)
          rw [if_pos (by omega), if_neg (fun h => hk h.2.2)]
    · rw [decide_eq_false hb, if_neg (by decide), if_neg (fun h => hb h.2.1)]
  · rw [decide_eq_false ha, if_neg (by decide), if_neg (fun h => ha h.1)]

/-! The fixed facts. -/
theorem dec_step (u : Nat) (h : ¬ u < 10) : Lib.decDigits u = Lib.decDigits (u / 10) ++ [UInt8.ofNat (48 + u % 10)] := by
  rw [Lib.decDigits, dif_neg h]
theorem dec_last (u : Nat) (h : u < 10) : Lib.decDigits u = [UInt8.ofNat (48 + u)] := by
  rw [Lib.decDigits, dif_pos h]
theorem least_text : Lib.itoa (-9223372036854775808) = [45, 57, 50, 50, 51, 51, 55, 50, 48, 51, 54, 56, 53, 52, 55, 55, 53, 56, 48, 56] := by
  unfold Lib.itoa
  rw [if_pos (by decide), show (-9223372036854775808 : Int).natAbs = 9223372036854775808 from rfl]
  rw [dec_step 9223372036854775808 (by decide), dec_step (9223372036854775808 / 10) (by decide)]
  simp only [Nat.reduceDiv, Nat.reduceMod]
  iterate 16 (rw [dec_step _ (by decide)]; simp only [Nat.reduceDiv, Nat.reduceMod])
  rw [dec_last _ (by decide)]
  decide
theorem text_tells (a : Int) (h0 : -9223372036854775808 ≤ a) (h1 : a ≤ 9223372036854775807) : num_Text.f a = some ⟨(Lib.itoa a).toArray⟩ := by
  unfold num_Text.f strconv_Itoa.f
  rw [if_pos ⟨h0, h1⟩]
  rfl
theorem parse_tells (s : ByteArray) (h : s.size ≤ 140737488351232) : num_Parse.f s = some (parseG s.data.toList) := by
  unfold num_Parse.f
  rw [if_pos h]
theorem awake : haulierlaw01_Awake.f = some true := by
  unfold haulierlaw01_Awake.f
  rw [mul_tells, show mulG 2147483648 2147483648 = (0, 10) from by decide]
  simp only [Option.bind_some]
  rw [parse_tells _ (by decide), show parseG (ByteArray.mk #[45, 49, 50]).data.toList = (-12, 0) from by decide +kernel]
  simp only [Option.bind_some, if_true]
  rw [text_tells _ (by decide) (by decide), least_text]
  simp only [Option.bind_some]
  rw [Lib.toList_data]
  decide

end Go.Proofs.YtcnhnjajfkgkjaaDoor.Pure
