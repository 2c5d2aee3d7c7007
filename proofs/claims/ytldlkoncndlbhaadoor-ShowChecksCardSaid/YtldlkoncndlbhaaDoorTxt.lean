/- A tree's text, in plain words. -/
import Derived.Test.YtldlkoncndlbhaaDoorPShx0
import Derived.Test.YtldlkoncndlbhaaDoorPlain
import Derived.Test.YtldlkoncndlbhaaDoorQuotePlain
import Derived.Lib.ItoaNum
namespace Go.Proofs.YtldlkoncndlbhaaDoor.Tx
open Go.RowKit Go.Proofs.YtldlkoncndlbhaaDoor.Utf Go.Proofs.YtldlkoncndlbhaaDoor.Pl Go.Proofs.YtldlkoncndlbhaaDoor.PSh Go.Proofs.YtldlkoncndlbhaaDoorW.PrintWords Go.Proofs.YtldlkoncndlbhaaDoorW.PrintLast Go.Proofs.YtldlkoncndlbhaaDoorW.PrintMore

/-- So many texts, a comma between. -/
def joined (g : Nat → List UInt8) : Nat → List UInt8
  | 0 => []
  | i + 1 => joined g i ++ ((if i = 0 then [] else [44]) ++ g i)
/-- A value's text, of its kids' texts. -/
def txtOf (g : Int → List UInt8) (x : S39) : List UInt8 :=
  if x.f0 = 1 then [110, 117, 108, 108]
  else if x.f0 = 2 then (if x.f1 = true then [116, 114, 117, 101] else [102, 97, 108, 115, 101])
  else if x.f0 = 3 then Lib.itoa x.f2
  else if x.f0 = 4 then inQuotes x.f3.data.toList
  else if x.f0 = 5 then [91] ++ joined (fun i => g (rd x.f5 (i : Int))) x.f5.length ++ [93]
  else [123] ++ joined (fun i => inQuotes (rdOf ByteArray.empty x.f4 (i : Int)).data.toList ++ [58] ++ g (rd x.f5 (i : Int))) x.f5.length ++ [125]
/-- The text of the value at a place. -/
def txt (l : List S39) : Nat → Int → List UInt8
  | 0, _ => []
  | f + 1, a => txtOf (txt l f) (rd_T39 l a)
theorem txt_succ (l : List S39) (f : Nat) (a : Int) : txt l (f + 1) a = txtOf (txt l f) (rd_T39 l a) := rfl
theorem txtOf_1 (g : Int → List UInt8) (x : S39) (h : x.f0 = 1) : txtOf g x = [110, 117, 108, 108] := by unfold txtOf; rw [if_pos h]
theorem txtOf_2 (g : Int → List UInt8) (x : S39) (h : x.f0 = 2) : txtOf g x = if x.f1 = true then [116, 114, 117, 101] else [102, 97, 108, 115, 101] := by unfold txtOf; rw [if_neg (by omega), if_pos h]
theorem txtOf_3 (g : Int → List UInt8) (x : S39) (h : x.f0 = 3) : txtOf g x = Lib.itoa x.f2 := by unfold txtOf; rw [if_neg (by omega), if_neg (by omega), if_pos h]
theorem txtOf_4 (g : Int → List UInt8) (x : S39) (h : x.f0 = 4) : txtOf g x = inQuotes x.f3.data.toList := by unfold txtOf; rw [if_neg (by omega), if_neg (by omega), if_neg (by omega), if_pos h]
theorem txtOf_5 (g : Int → List UInt8) (x : S39) (h : x.f0 = 5) : txtOf g x = [91] ++ joined (fun i => g (rd x.f5 (i : Int))) x.f5.length ++ [93] := by unfold txtOf; rw [if_neg (by omega), if_neg (by omega), if_neg (by omega), if_neg (by omega), if_pos h]
theorem txtOf_6 (g : Int → List UInt8) (x : S39) (h : x.f0 = 6) : txtOf g x = [123] ++ joined (fun i => inQuotes (rdOf ByteArray.empty x.f4 (i : Int)).data.toList ++ [58] ++ g (rd x.f5 (i : Int))) x.f5.length ++ [125] := by unfold txtOf; rw [if_neg (by omega), if_neg (by omega), if_neg (by omega), if_neg (by omega), if_neg (by omega)]
def plainOf (x : S39) : Bool := plainB x.f0 x.f1 x.f2 x.f3 x.f4 x.f5
/-- A tree: each value such as there may be, each kid ahead of it. -/
def Tree (l : List S39) : Prop := ∀ a : Int, 0 ≤ a → a < l.length → plainOf (rd_T39 l a) = true ∧ ∀ i : Nat, i < (rd_T39 l a).f5.length → 0 ≤ rd (rd_T39 l a).f5 (i : Int) ∧ rd (rd_T39 l a).f5 (i : Int) < a
/-- Of a size that can be written. -/
def Sized (l : List S39) : Prop := ∀ a : Int, 0 ≤ a → a < l.length → (rd_T39 l a).f3.size ≤ 17592186044416 ∧ (rd_T39 l a).f5.length ≤ 140737488355328 ∧ ∀ i : Nat, i < (rd_T39 l a).f4.length → (rdOf ByteArray.empty (rd_T39 l a).f4 (i : Int)).size ≤ 17592186044416

theorem joined_le (g : Nat → List UInt8) : ∀ n i, i ≤ n → (joined g i).length ≤ (joined g n).length
  | 0, i, h => by obtain rfl : i = 0 := by omega
                  exact Nat.le_refl _
  | n + 1, i, h => by
    by_cases e : i = n + 1
    · subst e; exact Nat.le_refl _
    · have := joined_le g n i (by omega)
      rw [joined, List.length_append]
      omega
theorem joined_succ (g : Nat → List UInt8) (i : Nat) : joined g (i + 1) = joined g i ++ ((if i = 0 then [] else [44]) ++ g i) := rfl

/-- What 'plain' says of the kinds. -/
theorem plain_kind {x : S39} (h : plainOf x = true) : x.f0 = 1 ∨ x.f0 = 2 ∨ (x.f0 = 3 ∧ -4611686018427387903 ≤ x.f2 ∧ x.f2 ≤ 4611686018427387903) ∨ x.f0 = 4 ∨ x.f0 = 5 ∨ (x.f0 = 6 ∧ x.f4.length = x.f5.length) := by
  unfold plainOf plainB at h
  split at h
  · by_cases k1 : x.f0 = 1
    · exact .inl k1
    rw [if_neg k1] at h
    by_cases k2 : x.f0 = 2
    · exact .inr (.inl k2)
    rw [if_neg k2] at h
    by_cases k3 : x.f0 = 3
    · rw [if_pos k3] at h
      simp only [Bool.and_eq_true, decide_eq_true_eq] at h
      exact .inr (.inr (.inl ⟨k3, h.2⟩))
    rw [if_neg k3] at h
    by_cases k4 : x.f0 = 4
    · exact .inr (.inr (.inr (.inl k4)))
    rw [if_neg k4] at h
    by_cases k5 : x.f0 = 5
    · exact .inr (.inr (.inr (.inr (.inl k5))))
    rw [if_neg k5] at h
    by_cases k6 : x.f0 = 6
    · rw [if_pos k6] at h
      simp only [Bool.and_eq_true, beq_iff_eq] at h
      exact .inr (.inr (.inr (.inr (.inr ⟨k6, h.1.1.1⟩))))
    · rw [if_neg k6] at h
      cases h
  · cases h

end Go.Proofs.YtldlkoncndlbhaaDoor.Tx
