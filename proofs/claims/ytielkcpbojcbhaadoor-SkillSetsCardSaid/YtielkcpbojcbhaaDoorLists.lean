/- The printed 'List', 'Numbers', 'Covers', 'Skills', 'SameInts' in plain words. -/
import Derived.Test.YtielkcpbojcbhaaDoorOf
import Derived.Test.YtielkcpbojcbhaaDoorBitLists
namespace Go.Proofs.YtielkcpbojcbhaaDoor.Pure
open Go.RowKit Go.Proofs.YtielkcpbojcbhaaDoor.PSk Go.Proofs.YtielkcpbojcbhaaDoorW.PrintWords Go.Proofs.YtielkcpbojcbhaaDoorW.PrintLast Go.Proofs.YtielkcpbojcbhaaDoorW.PrintMore Go.Proofs.YtielkcpbojcbhaaDoor.Bits

theorem covers_tells (x y : Nat) (hx : x < 18446744073709551616) (hy : y < 18446744073709551616) : skill_Covers.f (x : Int) (y : Int) = some (cov x y) := by
  unfold skill_Covers.f cov
  rw [u64_andNot_nat y x hy hx]
  congr 1
  rw [Bool.eq_iff_iff, beq_iff_eq, beq_iff_eq]
  omega

theorem valid_tells (x : Nat) : skill_Valid.f (x : Int) = some (decide (x < 4611686018427387904)) := by
  unfold skill_Valid.f
  congr 1
  rw [Bool.eq_iff_iff, beq_iff_eq, decide_eq_true_iff]
  omega

theorem list_loop : ∀ (l : List Int) (x : Nat) (acc : List Int), x < 18446744073709551616 → bl 64 0 x = l → acc.length + l.length ≤ 64 → ∀ k, l.length < k → skill_List.l0 k (x : Int) acc = some (acc ++ l) := by
  intro l
  induction l with
  | nil =>
    intro x acc hx hl _ k hk
    obtain ⟨k, rfl⟩ : ∃ m, k = m + 1 := ⟨k - 1, by omega⟩
    obtain rfl := bl_nil x hx hl
    simp only [skill_List.l0]
    rw [if_pos (by decide), List.append_nil]
  | cons s t ih =>
    intro x acc hx hl hn k hk
    rw [List.length_cons] at hn hk
    obtain ⟨k, rfl⟩ : ∃ m, k = m + 1 := ⟨k - 1, by omega⟩
    have h0 : x ≠ 0 := fun e => by
      subst e
      rw [show bl 64 0 0 = [] from by decide] at hl
      cases hl
    rw [bl_low x h0 hx] at hl
    obtain ⟨rfl, hl2⟩ := List.cons.inj hl
    simp only [skill_List.l0]
    have htz : bits_TrailingZeros64.f (x : Int) = some ((Lib.ctz 64 x : Nat) : Int) := by
      unfold bits_TrailingZeros64.f
      rw [if_pos (by omega), Int.toNat_natCast]
    rw [if_neg (by omega), htz]
    simp only [Option.bind_some]
    have hw : IntKind.u64.wrap ((x : Int) - 1) = ((x - 1 : Nat) : Int) := by rw [IntKind.wrap_u64]; omega
    rw [if_pos (by omega), hw, u64_and_nat _ _ hx (by omega), ih _ _ (Nat.lt_of_le_of_lt Nat.and_le_left hx) hl2 (by rw [List.length_append, List.length_singleton]; omega) k (by omega)]
    rw [List.append_assoc]
    rfl
theorem bl_le (x : Nat) : (bl 64 0 x).length ≤ 64 := by
  have : ∀ n i x, (bl n i x).length ≤ n := by
    intro n
    induction n with
    | zero => intro i x; exact Nat.le_refl _
    | succ n ih =>
      intro i x
      unfold bl
      have := ih (i + 1) (x / 2)
      split
      · rw [List.length_cons]; omega
      · omega
  exact this 64 0 x
theorem list_tells (x : Nat) (hx : x < 18446744073709551616) (k : Nat) (hk : 64 < k) : skill_List.f k (x : Int) = some (bl 64 0 x) := by
  unfold skill_List.f
  have := bl_le x
  rw [list_loop _ x [] hx rfl (by simp only [List.length_nil]; omega) k (by omega)]
  rfl

theorem bit_one (a s : Nat) (ha : a < 18446744073709551616) (hs : s < 64) : Go.bits .and .u64 (shr .u64 (a : Int) (s : Int)) 1 = ((a / 2 ^ s % 2 : Nat) : Int) := by
  have e : shr .u64 (a : Int) (s : Int) = ((a / 2 ^ s : Nat) : Int) := by
    unfold shr
    rw [Int.toNat_natCast, Nat.min_eq_left (show s ≤ IntKind.bits .u64 by show s ≤ 64; omega), Int.natCast_ediv, Int.natCast_pow]
    rfl
  have hlt : a / 2 ^ s < 18446744073709551616 := Nat.lt_of_le_of_lt (Nat.div_le_self _ _) ha
  rw [e, show (1 : Int) = ((1 : Nat) : Int) from rfl, u64_and_nat _ _ hlt (by decide), Nat.and_one_is_mod]

end Go.Proofs.YtielkcpbojcbhaaDoor.Pure
