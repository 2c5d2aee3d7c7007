/- SkillOrders: for every list of numbers the law answers true: in which order skills stand does not matter, and each more makes the set greater by one. Its conditions: the list is read as data (at most 2^47 - 4096 bytes, each element an int). This text: the printed functions come to true. -/
import Derived.Test.YtielkcpbojcbhaaOf
import Derived.Test.YtielkcpbojcbhaaSizedName
namespace Go.Proofs.Ytielkcpbojcbhaa.Pure
open Go.RowKit Go.Proofs.Ytielkcpbojcbhaa.PSkillOrders Go.Proofs.YtielkcpbojcbhaaW.PrintWords Go.Proofs.YtielkcpbojcbhaaW.PrintLast Go.Proofs.YtielkcpbojcbhaaW.PrintMore Go.Proofs.Ytielkcpbojcbhaa.Bits

theorem law_end (l : List Int) (hl : l.length ≤ 200) (k : Nat) (hk : 2 * l.length + 2 < k) : haulierlaw10_SkillOrders.l0 k l l.reverse (-1) = some true := by
  obtain ⟨k, rfl⟩ : ∃ m, k = m + 1 + 1 := ⟨k - 2, by omega⟩
  simp only [haulierlaw10_SkillOrders.l0]
  rw [if_neg (by decide)]
  simp only [Option.bind_some, List.nil_append, List.length_nil]
  rw [if_pos (by omega), of_tells l (by omega) _ (by omega), of_tells l.reverse (by simp; omega) _ (by simp; omega)]
  simp only [Option.bind_some]
  rcases ofL_reverse l with ⟨_, r, h1, h2, hb, hp⟩ | ⟨i, e, j, f, h1, h2, he, hf⟩
  · rw [h1, h2]
    simp only [haulierlaw10_SkillOrders.j1, bne_self_eq_false, Bool.false_eq_true, if_false, if_true]
    rw [count_tells r (by omega)]
    simp only [Option.bind_some, hp, if_true]
    unfold skill_Valid.f
    rw [show (r : Int) / 4611686018427387904 = 0 from by omega]
    rfl
  · rw [h1, h2]
    have e1 : (e == 0) = false := by simpa using he
    have e2 : (f == 0) = false := by simpa using hf
    simp only [haulierlaw10_SkillOrders.j1, e1, e2, bne_self_eq_false, Bool.false_eq_true, if_false, if_neg he, if_true]

theorem law_loop (l : List Int) (hl : l.length ≤ 200) : ∀ (d : Nat), d ≤ l.length → ∀ k, d + 2 * l.length + 3 < k →
    haulierlaw10_SkillOrders.l0 k l (l.drop d).reverse ((d : Int) - 1) = some true := by
  intro d
  induction d with
  | zero => intro _ k hk; exact law_end l hl k (by omega)
  | succ d ih =>
    intro hd k hk
    obtain ⟨k, rfl⟩ : ∃ m, k = m + 1 := ⟨k - 1, by omega⟩
    have hlt : d < l.length := by omega
    simp only [haulierlaw10_SkillOrders.l0]
    rw [show (((d + 1 : Nat) : Int) - 1) = (d : Int) from by omega, if_pos (by omega), if_pos (by omega), if_pos (by omega), if_pos (by simp; omega), show wrap64 ((d : Int) - 1) = (d : Int) - 1 from by unfold wrap64; omega]
    have hrd : rd l (d : Int) = l[d] := by simp [rd, List.getElem?_eq_getElem hlt]
    have e : (l.drop (d + 1)).reverse ++ [rd l (d : Int)] = (l.drop d).reverse := by
      rw [hrd, List.drop_eq_getElem_cons hlt, List.reverse_cons]
    rw [e]
    exact ih (by omega) k (by omega)

theorem SkillOrders : haulierlaw10_SkillOrders.Pure := by
  intro l _ hl _
  refine ⟨3 * l.length + 10, ?_⟩
  unfold haulierlaw10_SkillOrders.f
  rw [awake _ (by omega)]
  simp only [Option.bind_some, if_true]
  by_cases h : (l.length : Int) > 200
  · rw [if_pos h]
  · rw [if_neg h, show wrap64 ((l.length : Int) - 1) = (l.length : Int) - 1 from by unfold wrap64; omega]
    have := law_loop l (by omega) l.length (Nat.le_refl _) (3 * l.length + 10) (by omega)
    rwa [List.drop_length] at this

end Go.Proofs.Ytielkcpbojcbhaa.Pure
