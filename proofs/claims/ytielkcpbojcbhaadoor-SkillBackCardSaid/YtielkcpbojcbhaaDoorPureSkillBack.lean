/- SkillBack, the plain law: a valid set's list is the list of that set; a set covers itself and what it has in common with another one. -/
import Derived.Test.YtielkcpbojcbhaaDoorLists
namespace Go.Proofs.YtielkcpbojcbhaaDoor.Pure
open Go.RowKit Go.Proofs.YtielkcpbojcbhaaDoor.PSk Go.Proofs.YtielkcpbojcbhaaDoorW.PrintWords Go.Proofs.YtielkcpbojcbhaaDoorW.PrintLast Go.Proofs.YtielkcpbojcbhaaDoorW.PrintMore Go.Proofs.YtielkcpbojcbhaaDoor.Bits

theorem wf_u64 (a : Int) (h : (Lit.int .u64 a).wf = true) : 0 ≤ a ∧ a < 18446744073709551616 := by
  simp [Lit.wf, IntKind.min, IntKind.max, IntKind.signed, IntKind.bits] at h
  omega

theorem SkillBack : haulierlaw10_SkillBack.Pure := by
  intro a0 a1 h0 h1
  obtain ⟨p0, q0⟩ := wf_u64 a0 h0
  obtain ⟨p1, q1⟩ := wf_u64 a1 h1
  refine ⟨200, ?_⟩
  obtain ⟨a, ha, hea⟩ : ∃ a : Nat, a < 4611686018427387904 ∧ a0 / 4 = (a : Int) := ⟨(a0 / 4).toNat, by omega, by omega⟩
  obtain ⟨b, hb, heb⟩ : ∃ b : Nat, b < 4611686018427387904 ∧ a1 / 4 = (b : Int) := ⟨(a1 / 4).toNat, by omega, by omega⟩
  have ha' : a < 18446744073709551616 := by omega
  have hb' : b < 18446744073709551616 := by omega
  have hor : a ||| b < 18446744073709551616 := Nat.or_lt_two_pow (n := 64) ha' hb'
  have hand : a &&& b < 18446744073709551616 := Nat.lt_of_le_of_lt Nat.and_le_left ha'
  have hl := bl_le a
  unfold haulierlaw10_SkillBack.f
  rw [hea, heb, awake _ (by decide)]
  simp only [Option.bind_some, if_true]
  rw [list_tells a ha' 200 (by decide)]
  simp only [Option.bind_some]
  rw [of_tells _ (by omega) 200 (by omega), ofL_bl a ha]
  simp only [Option.bind_some, if_true]
  rw [valid_tells, decide_eq_true ha]
  simp only [Option.bind_some, if_true]
  rw [u64_and_nat a b ha' hb', u64_or_nat a b ha' hb', covers_tells a a ha' ha', cov_self a ha', covers_tells a _ ha' hand, cov_and a b ha', covers_tells _ b hor hb', cov_or a b ha' hb', covers_tells a b ha' hb', cov_or_eq a b ha' hb', count_tells a ha', count_tells b hb', count_tells _ hor, count_tells _ hand]
  simp only [Option.bind_some, if_true]
  have e : ((((a ||| b : Nat) : Int)) == ((a : Nat) : Int)) = ((a ||| b) == a) := by
    rw [Bool.eq_iff_iff, beq_iff_eq, beq_iff_eq]
    omega
  have hs := pop_or_and 64 a b
  rw [e, if_pos (beq_self_eq_true _), show ((pop a 64 : Nat) : Int) + ((pop b 64 : Nat) : Int) = ((pop (a ||| b) 64 : Nat) : Int) + ((pop (a &&& b) 64 : Nat) : Int) from by omega, beq_self_eq_true]

end Go.Proofs.YtielkcpbojcbhaaDoor.Pure
