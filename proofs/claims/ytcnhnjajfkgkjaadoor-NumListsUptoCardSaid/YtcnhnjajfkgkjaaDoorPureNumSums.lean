/- NumSums, the plain law: 'Sum' of any list is as the document's answer has it. -/
import Derived.Test.YtcnhnjajfkgkjaaDoorNum
import Derived.Test.YtcnhnjajfkgkjaaDoorPNux4
import Derived.Test.YtcnhnjajfkgkjaaDoorSizedName
namespace Go.Proofs.YtcnhnjajfkgkjaaDoor.Pure
open Go.RowKit Go.Proofs.YtcnhnjajfkgkjaaDoor.PNu Go.Proofs.YtcnhnjajfkgkjaaDoorW.PrintWords Go.Proofs.YtcnhnjajfkgkjaaDoorW.PrintLast Go.Proofs.YtcnhnjajfkgkjaaDoorW.PrintMore

/-- The numbers added one by one. -/
def sumG : Int → List Int → Int × Int
  | s, [] => (s, 0)
  | s, a :: r => if (addG s a).2 = 0 then sumG (addG s a).1 r else (0, (addG s a).2)

theorem rd_elem (l : List Int) (i : Nat) (h : i < l.length) : rd l (i : Int) = l[i] := by simp [rd, List.getElem?_eq_getElem h]

theorem sum_loop (l : List Int) (hl : l.length ≤ 9223372036854775807) : ∀ (d i : Nat) (s : Int), i + d = l.length → ∀ k, d < k → num_Sum.l0 k s l (l.length : Int) (i : Int) = some (sumG s (l.drop i)) := by
  intro d
  induction d with
  | zero =>
    intro i s hi k hk
    obtain ⟨k, rfl⟩ : ∃ m, k = m + 1 := ⟨k - 1, by omega⟩
    rw [List.drop_of_length_le (by omega)]
    simp only [num_Sum.l0]
    rw [if_neg (by omega)]
    rfl
  | succ d ih =>
    intro i s hi k hk
    obtain ⟨k, rfl⟩ : ∃ m, k = m + 1 := ⟨k - 1, by omega⟩
    have hlt : i < l.length := by omega
    rw [List.drop_eq_getElem_cons hlt]
    simp only [num_Sum.l0]
    rw [if_pos (by omega), if_pos (by omega), if_pos (by omega), rd_elem l i hlt, add_tells, show wrap64 ((i : Int) + 1) = ((i + 1 : Nat) : Int) from by unfold wrap64; omega]
    simp only [Option.bind_some]
    unfold sumG
    by_cases h : (addG s l[i]).2 = 0
    · rw [if_pos h, if_pos h]
      exact ih (i + 1) _ (by omega) k (by omega)
    · rw [if_neg h, if_neg h]
theorem sum_tells (l : List Int) (hl : l.length ≤ 9223372036854775807) (k : Nat) (hk : l.length < k) : num_Sum.f k l = some (sumG 0 l) := by
  unfold num_Sum.f
  have := sum_loop l hl l.length 0 0 (by omega) k hk
  simpa using this

theorem ref_sum_loop (l : List Int) (hl : l.length ≤ 9223372036854775807) : ∀ (d i : Nat) (s : Int), i + d = l.length → ∀ k, d < k → haulierref01_Sum.l0 k l s (i : Int) = some (sumG s (l.drop i)) := by
  intro d
  induction d with
  | zero =>
    intro i s hi k hk
    obtain ⟨k, rfl⟩ : ∃ m, k = m + 1 := ⟨k - 1, by omega⟩
    rw [List.drop_of_length_le (by omega)]
    simp only [haulierref01_Sum.l0]
    rw [if_neg (by omega)]
    rfl
  | succ d ih =>
    intro i s hi k hk
    obtain ⟨k, rfl⟩ : ∃ m, k = m + 1 := ⟨k - 1, by omega⟩
    have hlt : i < l.length := by omega
    rw [List.drop_eq_getElem_cons hlt]
    simp only [haulierref01_Sum.l0]
    rw [if_pos (by omega), if_pos (by omega), rd_elem l i hlt, ref_add, show wrap64 ((i : Int) + 1) = ((i + 1 : Nat) : Int) from by unfold wrap64; omega]
    simp only [Option.bind_some]
    unfold sumG
    by_cases h : (addG s l[i]).2 = 0
    · rw [if_pos h, if_pos h]
      exact ih (i + 1) _ (by omega) k (by omega)
    · rw [if_neg h, if_neg h]
theorem ref_sum (l : List Int) (hl : l.length ≤ 9223372036854775807) (k : Nat) (hk : l.length < k) : haulierref01_Sum.f k l = some (sumG 0 l) := by
  unfold haulierref01_Sum.f
  have := ref_sum_loop l hl l.length 0 0 (by omega) k hk
  simpa using this

theorem NumSums : haulierlaw01_NumSums.Pure := by
  intro l _ hl _
  refine ⟨l.length + 1, ?_⟩
  unfold haulierlaw01_NumSums.f
  rw [awake]
  simp only [Option.bind_some, if_true, List.nil_append, List.length_nil]
  rw [if_pos (by omega), sum_tells l (by omega) _ (by omega), ref_sum l (by omega) _ (by omega)]
  simp only [Option.bind_some, if_true]
  rw [beq_self_eq_true]

end Go.Proofs.YtcnhnjajfkgkjaaDoor.Pure
