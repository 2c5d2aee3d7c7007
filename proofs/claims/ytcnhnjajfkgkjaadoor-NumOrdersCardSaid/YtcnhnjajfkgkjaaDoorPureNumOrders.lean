/- NumOrders, the plain law: sums and products go by any order; a number and its opposite are nothing; a product by one more is the sum with it once more. -/
import Derived.Test.YtcnhnjajfkgkjaaDoorPureNumSigns
namespace Go.Proofs.YtcnhnjajfkgkjaaDoor.Pure
open Go.RowKit Go.Proofs.YtcnhnjajfkgkjaaDoor.PNu Go.Proofs.YtcnhnjajfkgkjaaDoorW.PrintWords Go.Proofs.YtcnhnjajfkgkjaaDoorW.PrintLast Go.Proofs.YtcnhnjajfkgkjaaDoorW.PrintMore

theorem addG_comm (a b : Int) : addG a b = addG b a := by
  unfold addG
  rw [Int.add_comm b a]
  by_cases h : fit a ∧ fit b ∧ fit (a + b)
  · rw [if_pos h, if_pos ⟨h.2.1, h.1, h.2.2⟩]
  · rw [if_neg h, if_neg (fun e => h ⟨e.2.1, e.1, e.2.2⟩)]

theorem orders_end (a b : Int) (ha : fit a) (h0 : 0 ≤ b) (h1 : b < 4611686018427387903) : ∃ k, haulierlaw01_NumOrders.j1 k a b (mulG a b).1 (mulG a b).2 false = some true := by
  refine ⟨3, ?_⟩
  have hb : fit b := ⟨by omega, by omega⟩
  have hb1 : fit (b + 1) := ⟨by omega, by omega⟩
  have hz : addG a (-a) = (0, 0) := by
    unfold addG
    rw [Int.add_right_neg, if_pos ⟨ha, fit_neg ha, ⟨by decide, by decide⟩⟩]
  have hadd : a * (b + 1) = a * b + a := by rw [Int.mul_add, Int.mul_one]
  simp only [haulierlaw01_NumOrders.j1]
  rw [if_neg (by decide), wrap_neg ha, add_tells, hz, show wrap64 (b + 1) = b + 1 from by unfold wrap64; omega, mul_tells]
  simp only [Option.bind_some, if_true]
  by_cases hg : fit (a * b)
  · have e1 : mulG a b = (a * b, 0) := by unfold mulG; rw [if_pos ⟨ha, hb, hg⟩]
    rw [e1]
    simp only [if_true]
    simp only [haulierlaw01_NumOrders.j2]
    rw [if_neg (by decide)]
    by_cases hk : fit (a * (b + 1))
    · have e2 : mulG a (b + 1) = (a * (b + 1), 0) := by unfold mulG; rw [if_pos ⟨ha, hb1, hk⟩]
      have e3 : addG (a * b) a = (a * b + a, 0) := by unfold addG; rw [if_pos ⟨hg, ha, by rw [← hadd]; exact hk⟩]
      rw [e2, add_tells, e3]
      simp only [Option.bind_some, if_true]
      rw [hadd, beq_self_eq_true]
    · have e2 : mulG a (b + 1) = (0, 10) := by unfold mulG; rw [if_neg (fun e => hk e.2.2)]
      rw [e2, if_neg (by decide)]
  · have e1 : mulG a b = (0, 10) := by unfold mulG; rw [if_neg (fun e => hg e.2.2)]
    have e2 : mulG a (b + 1) = (0, 10) := by unfold mulG; rw [if_neg (fun e => hg (fit_less h0 (by omega) e.2.2))]
    rw [e1, e2, if_neg (by decide)]
    simp only [haulierlaw01_NumOrders.j2]
    rfl

theorem NumOrders : haulierlaw01_NumOrders.Pure := by
  intro a b _ _
  have main : ∃ k, haulierlaw01_NumOrders.j0 k a b (mulG a b).1 (mulG a b).2 false = some true := by
    by_cases ha : fit a
    · by_cases h0 : b < 0
      · refine ⟨2, ?_⟩
        simp only [haulierlaw01_NumOrders.j0]
        rw [if_neg (by decide), ref_fits]
        simp only [Option.bind_some]
        rw [decide_eq_true ha, if_pos rfl, if_pos h0]
        rfl
      · by_cases h1 : b < 4611686018427387903
        · obtain ⟨k, hk⟩ := orders_end a b ha (by omega) h1
          refine ⟨k + 1, ?_⟩
          simp only [haulierlaw01_NumOrders.j0]
          rw [if_neg (by decide), ref_fits]
          simp only [Option.bind_some]
          rw [decide_eq_true ha, if_pos rfl, if_neg h0, decide_eq_false (by omega)]
          exact hk
        · refine ⟨2, ?_⟩
          simp only [haulierlaw01_NumOrders.j0]
          rw [if_neg (by decide), ref_fits]
          simp only [Option.bind_some]
          rw [decide_eq_true ha, if_pos rfl, if_neg h0, decide_eq_true (by omega)]
          rfl
    · refine ⟨2, ?_⟩
      simp only [haulierlaw01_NumOrders.j0]
      rw [if_neg (by decide), ref_fits]
      simp only [Option.bind_some]
      rw [decide_eq_false ha, if_neg (by decide)]
      rfl
  obtain ⟨k, hk⟩ := main
  refine ⟨k, ?_⟩
  unfold haulierlaw01_NumOrders.f
  rw [awake]
  simp only [Option.bind_some, if_true]
  rw [add_tells, add_tells, mul_tells, mul_tells, addG_comm b a, mulG_comm b a]
  simp only [Option.bind_some]
  rw [if_pos trivial, if_pos trivial, if_pos trivial, bne_self_eq_false]
  exact hk

end Go.Proofs.YtcnhnjajfkgkjaaDoor.Pure
