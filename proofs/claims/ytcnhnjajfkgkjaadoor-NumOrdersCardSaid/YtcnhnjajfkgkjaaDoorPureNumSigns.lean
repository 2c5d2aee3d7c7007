/- NumSigns, the plain law: with both signs turned the sum's sign turns, the product's does not; with one the product's does. -/
import Derived.Test.YtcnhnjajfkgkjaaDoorNum
namespace Go.Proofs.YtcnhnjajfkgkjaaDoor.Pure
open Go.RowKit Go.Proofs.YtcnhnjajfkgkjaaDoor.PNu Go.Proofs.YtcnhnjajfkgkjaaDoorW.PrintWords Go.Proofs.YtcnhnjajfkgkjaaDoorW.PrintLast Go.Proofs.YtcnhnjajfkgkjaaDoorW.PrintMore

theorem addG_not {a b : Int} (h : ¬ (fit a ∧ fit b)) : addG a b = (0, 10) := by
  unfold addG
  rw [if_neg (fun e => h ⟨e.1, e.2.1⟩)]
theorem mulG_not {a b : Int} (h : ¬ (fit a ∧ fit b)) : mulG a b = (0, 10) := by
  unfold mulG
  rw [if_neg (fun e => h ⟨e.1, e.2.1⟩)]
theorem addG_neg (a b : Int) : addG (-a) (-b) = (-(addG a b).1, (addG a b).2) := by
  unfold addG
  rw [show -a + -b = -(a + b) from by omega]
  by_cases h : fit a ∧ fit b ∧ fit (a + b)
  · rw [if_pos h, if_pos ⟨fit_neg h.1, fit_neg h.2.1, fit_neg h.2.2⟩]
  · rw [if_neg h, if_neg (fun e => h ⟨(fit_neg_iff a).1 e.1, (fit_neg_iff b).1 e.2.1, (fit_neg_iff (a + b)).1 e.2.2⟩)]
    rfl
theorem mulG_neg (a b : Int) : mulG (-a) b = (-(mulG a b).1, (mulG a b).2) := by
  unfold mulG
  rw [Int.neg_mul]
  by_cases h : fit a ∧ fit b ∧ fit (a * b)
  · rw [if_pos h, if_pos ⟨fit_neg h.1, h.2.1, fit_neg h.2.2⟩]
  · rw [if_neg h, if_neg (fun e => h ⟨(fit_neg_iff a).1 e.1, e.2.1, (fit_neg_iff (a * b)).1 e.2.2⟩)]
    rfl
theorem mulG_comm (a b : Int) : mulG a b = mulG b a := by
  unfold mulG
  rw [Int.mul_comm b a]
  by_cases h : fit a ∧ fit b ∧ fit (a * b)
  · rw [if_pos h, if_pos ⟨h.2.1, h.1, h.2.2⟩]
  · rw [if_neg h, if_neg (fun e => h ⟨e.2.1, e.1, e.2.2⟩)]
theorem addG_fit (a b : Int) : fit (addG a b).1 := by
  unfold addG
  split
  · rename_i h; exact h.2.2
  · exact ⟨by decide, by decide⟩
theorem mulG_fit (a b : Int) : fit (mulG a b).1 := by
  unfold mulG
  split
  · rename_i h; exact h.2.2
  · exact ⟨by decide, by decide⟩
theorem wrap_neg {x : Int} (h : fit x) : wrap64 (-x) = -x := by
  unfold fit at h
  unfold wrap64
  omega

theorem NumSigns : haulierlaw01_NumSigns.Pure := by
  intro a b _ _
  refine ⟨1, ?_⟩
  unfold haulierlaw01_NumSigns.f
  rw [awake]
  simp only [Option.bind_some, if_true]
  have bad : ¬ (fit a ∧ fit b) → haulierlaw01_NumSigns.j0 1 a b true = some true := by
    intro h
    simp only [haulierlaw01_NumSigns.j0]
    rw [if_pos trivial, add_tells, mul_tells, addG_not h, mulG_not h]
    rfl
  rw [ref_fits]
  simp only [Option.bind_some]
  by_cases ha : fit a
  · rw [decide_eq_true ha, if_pos rfl, ref_fits]
    simp only [Option.bind_some]
    by_cases hb : fit b
    · rw [decide_eq_true hb]
      simp only [haulierlaw01_NumSigns.j0]
      rw [if_neg (by decide), wrap_neg ha, wrap_neg hb, add_tells, add_tells, mul_tells, mul_tells, mul_tells, addG_neg, mulG_neg, mulG_comm a (-b), mulG_neg, mulG_comm b a, mulG_neg]
      simp only [Option.bind_some]
      have e1 := addG_fit a b
      have e2 := mulG_fit a b
      rw [wrap_neg (fit_neg e1), wrap_neg e2, if_pos (by omega), if_pos trivial, if_pos (by omega), if_pos trivial, if_pos rfl, beq_self_eq_true]
    · rw [decide_eq_false hb]
      exact bad fun h => hb h.2
  · rw [decide_eq_false ha, if_neg (by decide)]
    exact bad fun h => ha h.1

end Go.Proofs.YtcnhnjajfkgkjaaDoor.Pure
