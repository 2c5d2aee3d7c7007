/- UTF-8 in plain words beside the library's decoder: where a rune begins, and whether a text is UTF-8. -/
import Derived.Test.YtldlkoncndlbhaaDoorRune
import Derived.Lib.ValidU
import Derived.Lib.DecodeN
import Derived.Lib.MapLaws
namespace Go.Proofs.YtldlkoncndlbhaaDoor.Utf
open Go.Lib
set_option linter.unusedSimpArgs false

theorem dec_cons (a : UInt8) (r : List UInt8) : decodeL (a :: r) = decodeN (r.length + 1) a.toNat (r.getD 0 0).toNat (r.getD 1 0).toNat (r.getD 2 0).toNat := by
  rw [decodeL_N]
  rfl

theorem dec_bad (l : List UInt8) (hne : l ≠ []) (h : wid l = 0) : decodeL l = (65533, 1) := by
  cases l with
  | nil => exact absurd rfl hne
  | cons a r =>
    rw [dec_cons]
    have h : lead a r = 0 := h
    have ha := a.toNat_lt
    unfold lead at h
    unfold decodeN
    match r, h with
    | [], h =>
      simp only [w2, w3, w4, List.length_nil] at h ⊢
      split at h
      · omega
      · rename_i h1
        rw [if_neg h1, if_neg (by omega), if_neg (by omega), if_neg (by omega)]
    | [b], h =>
      simp only [w2, w3, w4, List.length_cons, List.length_nil, List.getD_cons_zero, cont, two, three, four] at h ⊢
      repeat' split at h
      all_goals (repeat' split)
      all_goals first | rfl | (exfalso; simp at * <;> omega)
    | [b, c], h =>
      simp only [w2, w3, w4, List.length_cons, List.length_nil, List.getD_cons_zero, List.getD_cons_succ, cont, two, three, four] at h ⊢
      repeat' split at h
      all_goals (repeat' split)
      all_goals first | rfl | (exfalso; simp at * <;> omega)
    | b :: c :: d :: r, h =>
      simp only [w2, w3, w4, List.length_cons, List.getD_cons_zero, List.getD_cons_succ, cont, two, three, four] at h ⊢
      repeat' split at h
      all_goals (repeat' split)
      all_goals first | rfl | (exfalso; simp at * <;> omega)

theorem dec_good (l : List UInt8) (h : wid l ≠ 0) : (decodeL l).2 = wid l ∧ ((decodeL l).1 = 65533 → wid l = 3) := by
  cases l with
  | nil => exact absurd rfl h
  | cons a r =>
    rw [dec_cons]
    have ha := a.toNat_lt
    rw [show wid (a :: r) = lead a r from rfl] at h ⊢
    unfold lead at h ⊢
    unfold decodeN
    match r, h with
    | [], h =>
      simp only [w2, w3, w4, List.length_nil] at h ⊢
      split at h
      · rename_i h1
        rw [if_pos h1, if_pos h1]
        exact ⟨rfl, fun e => by simp at e; omega⟩
      · simp at h
    | [b], h =>
      simp only [w2, w3, w4, List.length_cons, List.length_nil, List.getD_cons_zero, cont, two, three, four] at h ⊢
      repeat' split at h
      all_goals (repeat' split)
      all_goals first | exact absurd rfl h | (refine ⟨?_, ?_⟩ <;> simp at * <;> omega)
    | [b, c], h =>
      simp only [w2, w3, w4, List.length_cons, List.length_nil, List.getD_cons_zero, List.getD_cons_succ, cont, two, three, four] at h ⊢
      repeat' split at h
      all_goals (repeat' split)
      all_goals first | exact absurd rfl h | (refine ⟨?_, ?_⟩ <;> simp at * <;> omega)
    | b :: c :: d :: r, h =>
      simp only [w2, w3, w4, List.length_cons, List.getD_cons_zero, List.getD_cons_succ, cont, two, three, four] at h ⊢
      repeat' split at h
      all_goals (repeat' split)
      all_goals first | exact absurd rfl h | (refine ⟨?_, ?_⟩ <;> simp at * <;> omega)

theorem validGo_utf : ∀ (n : Nat) (l : List UInt8), l.length ≤ n → validGoD n l = utf l
  | 0, l, h => by
    obtain rfl : l = [] := List.eq_nil_of_length_eq_zero (by omega)
    unfold utf
    rfl
  | n + 1, l, h => by
    unfold validGoD utf
    by_cases hne : l = []
    · rw [if_pos hne, dif_pos hne]
    · rw [if_neg hne, dif_neg hne]
      by_cases hw : wid l = 0
      · rw [dif_pos hw, dec_bad l hne hw, if_pos ⟨rfl, rfl⟩]
      · obtain ⟨h2, h3⟩ := dec_good l hw
        have hpos : 0 < l.length := List.length_pos_iff.2 hne
        rw [dif_neg hw, if_neg (fun e => by have := h3 e.1; omega), h2]
        exact validGo_utf n _ (by rw [List.length_drop]; omega)
theorem valid_utf (l : List UInt8) : validD l = utf l := validGo_utf _ _ (Nat.le_refl _)

end Go.Proofs.YtldlkoncndlbhaaDoor.Utf
