/- The printed 'Of', 'Count', 'Valid' and 'Covers' over sets as numbers. -/
import Derived.Test.YtielkcpbojcbhaaDoorPSkx2
import Derived.Test.YtielkcpbojcbhaaDoorSets
namespace Go.Proofs.YtielkcpbojcbhaaDoor.Pure
open Go.RowKit Go.Proofs.YtielkcpbojcbhaaDoor.PSk Go.Proofs.YtielkcpbojcbhaaDoorW.PrintWords Go.Proofs.YtielkcpbojcbhaaDoorW.PrintLast Go.Proofs.YtielkcpbojcbhaaDoorW.PrintMore Go.Proofs.YtielkcpbojcbhaaDoor.Bits

theorem and_127 (z : Nat) (h : z < 9223372036854775808) : Go.bits .and .i64 (z : Int) 127 = ((z % 128 : Nat) : Int) := by
  have hk : ∀ n : Int, 0 ≤ n → n < 2 ^ 63 → IntKind.i64.wrap n = n := fun n h0 h1 => by rw [IntKind.wrap_i64]; omega
  have := bits_mask .i64 63 (by decide) hk 7 (by decide) (z : Int) (by omega) (by omega)
  rw [show (127 : Int) = 2 ^ 7 - 1 from by decide, this]
  omega

theorem count_tells (a : Nat) (h : a < 18446744073709551616) : skill_Count.f (a : Int) = some ((pop a 64 : Nat) : Int) := by
  obtain ⟨z, hz, hlt, hm⟩ := count_nat a h _ _ _ _ _ rfl rfl rfl rfl rfl
  have : bits_OnesCount64.f (a : Int) = some ((pop a 64 : Nat) : Int) := by
    unfold bits_OnesCount64.f
    rw [hz, ← hm, show wrap64 (z : Int) = (z : Int) from by unfold wrap64; omega, and_127 z hlt]
  unfold skill_Count.f
  rw [this]; rfl

theorem bit_test (a s : Nat) (ha : a < 18446744073709551616) (hs : s < 64) : Go.bits .and .u64 (shr .u64 (a : Int) (s : Int)) 1 = 0 ↔ a.testBit s = false := by
  have e : shr .u64 (a : Int) (s : Int) = ((a / 2 ^ s : Nat) : Int) := by
    unfold shr
    rw [Int.toNat_natCast, Nat.min_eq_left (show s ≤ IntKind.bits .u64 by show s ≤ 64; omega), Int.natCast_ediv, Int.natCast_pow]
    rfl
  have hlt : a / 2 ^ s < 18446744073709551616 := Nat.lt_of_le_of_lt (Nat.div_le_self _ _) ha
  rw [e, show (1 : Int) = ((1 : Nat) : Int) from rfl, u64_and_nat _ _ hlt (by decide), Nat.and_one_is_mod, Nat.testBit_eq_decide_div_mod_eq, decide_eq_false_iff_not]
  generalize a / 2 ^ s = q
  omega

theorem shl_one (s : Nat) (hs : s < 64) : shl .u64 1 (s : Int) = ((2 ^ s : Nat) : Int) := by
  unfold shl
  have hp : 2 ^ s < 18446744073709551616 := by
    have := Nat.pow_lt_pow_right (a := 2) (by decide) hs
    simpa using this
  rw [Int.toNat_natCast, Nat.min_eq_left (show s ≤ IntKind.bits .u64 by show s ≤ 64; omega), Int.one_mul, show ((2 : Int) ^ s) = ((2 ^ s : Nat) : Int) from by simp, wrap_nat _ hp]

theorem of_loop (l : List Int) (hl : l.length * 8 ≤ 140737488351232) : ∀ (d i : Nat) (set : Nat), i + d = l.length → set < 2 ^ 62 → ∀ k, 2 * d < k →
    skill_Of.l0 k (set : Int) l (l.length : Int) (i : Int) = some (ofL set (i : Int) (l.drop i)) := by
  intro d
  induction d with
  | zero =>
    intro i set hi hs k hk
    obtain ⟨k, rfl⟩ : ∃ m, k = m + 1 := ⟨k - 1, by omega⟩
    rw [List.drop_of_length_le (by omega)]
    simp only [skill_Of.l0]
    rw [if_neg (by omega)]
    rfl
  | succ d ih =>
    intro i set hi hs k hk
    obtain ⟨k, rfl⟩ : ∃ m, k = m + 1 + 1 := ⟨k - 2, by omega⟩
    have hlt : i < l.length := by omega
    have hrd : rd l (i : Int) = l[i] := by simp [rd, List.getElem?_eq_getElem hlt]
    rw [List.drop_eq_getElem_cons hlt]
    simp only [skill_Of.l0]
    rw [if_pos (by omega), if_pos (by omega), if_pos (by omega), hrd]
    generalize l[i] = s
    unfold ofL
    by_cases h0 : s < 0
    · rw [if_pos h0, if_pos (.inl h0)]
      simp only [skill_Of.j1]
      rw [if_pos trivial]
    · rw [if_neg h0]
      by_cases h1 : s ≥ 62
      · rw [if_pos (.inr h1), decide_eq_true h1]
        simp only [skill_Of.j1]
        rw [if_pos trivial]
      · rw [if_neg (by omega), decide_eq_false h1]
        simp only [skill_Of.j1]
        rw [if_neg (by decide), if_pos (by omega)]
        obtain ⟨n, rfl⟩ := Int.eq_ofNat_of_zero_le (show 0 ≤ s by omega)
        have hn : n < 62 := by omega
        rw [Int.toNat_natCast]
        have hset : set < 18446744073709551616 := by omega
        have hp : 2 ^ n < 2 ^ 62 := Nat.pow_lt_pow_right (by decide) hn
        by_cases hb : set.testBit n = false
        · rw [if_pos ((bit_test set n hset (by omega)).2 hb), if_neg (by simp [hb]), shl_one n (by omega), u64_or_nat _ _ hset (by omega), show wrap64 ((i : Int) + 1) = ((i + 1 : Nat) : Int) from by unfold wrap64; omega,
            ih (i + 1) _ (by omega) (Nat.or_lt_two_pow hs hp) k (by omega)]
          rfl
        · rw [if_neg (fun h => hb ((bit_test set n hset (by omega)).1 h)), if_pos (by simpa using hb)]

theorem of_tells (l : List Int) (hl : l.length * 8 ≤ 140737488351232) (k : Nat) (hk : 2 * l.length < k) : skill_Of.f k l = some (ofL 0 0 l) := by
  unfold skill_Of.f
  have := of_loop l hl l.length 0 0 (by omega) (by decide) k hk
  simpa using this

theorem awake (k : Nat) (hk : 5 < k) : haulierlaw10_Awake.f k = some true := by
  unfold haulierlaw10_Awake.f
  rw [of_tells [3, 0] (by decide) k (show 2 * 2 < k by omega), of_tells [3, 3] (by decide) k (show 2 * 2 < k by omega)]
  decide +kernel

end Go.Proofs.YtielkcpbojcbhaaDoor.Pure
