/- SkillSets, the plain law: 'Of' of any list, 'Valid', 'List', 'Count', 'Covers' of any words are as the document's answer has them. -/
import Derived.Test.YtielkcpbojcbhaaDoorLists
namespace Go.Proofs.YtielkcpbojcbhaaDoor.Pure
open Go.RowKit Go.Proofs.YtielkcpbojcbhaaDoor.PSk Go.Proofs.YtielkcpbojcbhaaDoorW.PrintWords Go.Proofs.YtielkcpbojcbhaaDoorW.PrintLast Go.Proofs.YtielkcpbojcbhaaDoorW.PrintMore Go.Proofs.YtielkcpbojcbhaaDoor.Bits

theorem word_range (a : Int) (h : (Lit.int .u64 a).wf = true) : 0 ≤ a ∧ a < 18446744073709551616 := by
  simp [Lit.wf, IntKind.min, IntKind.max, IntKind.signed, IntKind.bits] at h
  omega

theorem same_loop (l : List Int) (hl : l.length ≤ 64) : ∀ (d i : Nat), i + d = l.length → ∀ k, d < k → haulierref05_SameInts.l0 k l l (i : Int) = some true := by
  intro d
  induction d with
  | zero =>
    intro i hi k hk
    obtain ⟨k, rfl⟩ : ∃ m, k = m + 1 := ⟨k - 1, by omega⟩
    simp only [haulierref05_SameInts.l0]
    rw [if_neg (by omega)]
  | succ d ih =>
    intro i hi k hk
    obtain ⟨k, rfl⟩ : ∃ m, k = m + 1 := ⟨k - 1, by omega⟩
    simp only [haulierref05_SameInts.l0]
    rw [if_pos (by omega), if_pos (by omega), if_pos (by omega), if_pos trivial, show wrap64 ((i : Int) + 1) = ((i + 1 : Nat) : Int) from by unfold wrap64; omega]
    exact ih (i + 1) (by omega) k (by omega)
theorem same_tells (l : List Int) (hl : l.length ≤ 64) (k : Nat) (hk : 64 < k) : haulierref05_SameInts.f k l l = some true := by
  unfold haulierref05_SameInts.f
  rw [if_pos rfl]
  exact same_loop l hl l.length 0 (by omega) k (by omega)

theorem bl_one (n i x : Nat) (h : x % 2 = 1) : bl (n + 1) i x = (i : Int) :: bl n (i + 1) (x / 2) := by
  show (if x % 2 = 1 then _ else _) = _
  rw [if_pos h]
theorem bl_none (n i x : Nat) (h : ¬ x % 2 = 1) : bl (n + 1) i x = bl n (i + 1) (x / 2) := by
  show (if x % 2 = 1 then _ else _) = _
  rw [if_neg h]
theorem rd_at (l : List Int) (i : Nat) (h : i < l.length) : rd l (i : Int) = l[i] := by simp [rd, List.getElem?_eq_getElem h]

theorem numbers_loop (a : Nat) (ha : a < 18446744073709551616) : ∀ (d i : Nat) (acc : List Int), i + d = 64 → acc.length ≤ i → ∀ k, d < k →
    haulierref09_Numbers.l0 k (a : Int) acc (i : Int) = some (acc ++ bl d i (a / 2 ^ i)) := by
  intro d
  induction d with
  | zero =>
    intro i acc hi _ k hk
    obtain ⟨k, rfl⟩ : ∃ m, k = m + 1 := ⟨k - 1, by omega⟩
    simp only [haulierref09_Numbers.l0]
    rw [if_neg (by omega)]
    simp [bl]
  | succ d ih =>
    intro i acc hi hn k hk
    obtain ⟨k, rfl⟩ : ∃ m, k = m + 1 := ⟨k - 1, by omega⟩
    simp only [haulierref09_Numbers.l0]
    rw [if_pos (by omega), if_pos (by omega), bit_one a i ha (by omega), show wrap64 ((i : Int) + 1) = ((i + 1 : Nat) : Int) from by unfold wrap64; omega]
    have hh : a / 2 ^ i / 2 = a / 2 ^ (i + 1) := by rw [Nat.div_div_eq_div_mul, ← Nat.pow_succ]
    by_cases hb : a / 2 ^ i % 2 = 1
    · rw [if_pos (by omega), if_pos (by omega), ih (i + 1) _ (by omega) (by rw [List.length_append, List.length_singleton]; omega) k (by omega), List.append_assoc, bl_one d i _ hb, hh]
      rfl
    · rw [if_neg (by omega), ih (i + 1) _ (by omega) (by omega) k (by omega), bl_none d i _ hb, hh]
theorem numbers_tells (a : Nat) (ha : a < 18446744073709551616) (k : Nat) (hk : 64 < k) : haulierref09_Numbers.f k (a : Int) = some (bl 64 0 a) := by
  unfold haulierref09_Numbers.f
  have := numbers_loop a ha 64 0 [] (by omega) (Nat.le_refl _) k (by omega)
  simpa using this

section
variable (l : List Int) (hl : l.length ≤ 1000)
include hl
theorem inner_no (set : Nat) (i : Nat) (hi : i < l.length) (h0 : 0 ≤ l[i]) : ∀ (e j : Nat), j + e = i → (∀ m (hm : m < l.length), j ≤ m → m < i → l[m] ≠ l[i]) → ∀ k,
    haulierref09_Skills.l1 (k + e + 1) l (set : Int) (i : Int) (j : Int) = haulierref09_Skills.l0 k l (Go.bits .or .u64 (set : Int) (shl .u64 1 l[i])) (((i + 1 : Nat) : Int)) := by
  intro e
  induction e with
  | zero =>
    intro j hj _ k
    simp only [haulierref09_Skills.l1]
    rw [if_neg (by omega), if_pos (by omega), if_pos (by omega), rd_at l i hi, if_pos h0, show wrap64 ((i : Int) + 1) = ((i + 1 : Nat) : Int) from by unfold wrap64; omega, Nat.add_zero]
  | succ e ih =>
    intro j hj hne k
    obtain ⟨K, hK⟩ : ∃ K, K = k + e + 1 := ⟨_, rfl⟩
    rw [show k + (e + 1) + 1 = K + 1 from by omega]
    simp only [haulierref09_Skills.l1]
    rw [if_pos (by omega), if_pos (by omega), if_pos (by omega), if_pos (by omega), if_pos (by omega), rd_at l i hi, rd_at l j (by omega), if_neg (hne j (by omega) (Nat.le_refl _) (by omega)), show wrap64 ((j : Int) + 1) = ((j + 1 : Nat) : Int) from by unfold wrap64; omega, hK]
    exact ih (j + 1) (by omega) (fun m hm h1 h2 => hne m hm (by omega) h2) k
theorem inner_yes (set : Nat) (i : Nat) (hi : i < l.length) : ∀ (e j : Nat), j + e = i → (∃ m, ∃ hm : m < l.length, j ≤ m ∧ m < i ∧ l[m] = l[i]) → ∀ k,
    e < k → haulierref09_Skills.l1 k l (set : Int) (i : Int) (j : Int) = some (0, (i : Int), 28) := by
  intro e
  induction e with
  | zero =>
    rintro j hj ⟨m, _, h1, h2, _⟩ k hk
    omega
  | succ e ih =>
    rintro j hj ⟨m, hm, h1, h2, h3⟩ k hk
    obtain ⟨k, rfl⟩ : ∃ m, k = m + 1 := ⟨k - 1, by omega⟩
    simp only [haulierref09_Skills.l1]
    rw [if_pos (by omega), if_pos (by omega), if_pos (by omega), if_pos (by omega), if_pos (by omega), rd_at l i hi, rd_at l j (by omega)]
    by_cases he : l[j]'(by omega) = l[i]
    · rw [if_pos he]
    · rw [if_neg he, show wrap64 ((j : Int) + 1) = ((j + 1 : Nat) : Int) from by unfold wrap64; omega]
      have hne : m ≠ j := fun e => by subst e; exact he h3
      exact ih (j + 1) (by omega) ⟨m, hm, by omega, h2, h3⟩ k (by omega)

theorem skills_loop : ∀ (d i : Nat) (set : Nat), i + d = l.length → set < 2 ^ 62 → (∀ t : Nat, set.testBit t = true ↔ ∃ m, ∃ hm : m < l.length, m < i ∧ l[m] = (t : Int)) → ∀ k, d * (l.length + 4) < k →
    haulierref09_Skills.l0 k l (set : Int) (i : Int) = some (ofL set (i : Int) (l.drop i)) := by
  intro d
  induction d with
  | zero =>
    intro i set hi hs _ k hk
    obtain ⟨k, rfl⟩ : ∃ m, k = m + 1 := ⟨k - 1, by omega⟩
    rw [List.drop_of_length_le (by omega)]
    simp only [haulierref09_Skills.l0]
    rw [if_neg (by omega)]
    rfl
  | succ d ih =>
    intro i set hi hs hin k hk
    rw [Nat.succ_mul] at hk
    have hlt : i < l.length := by omega
    rw [List.drop_eq_getElem_cons hlt]
    obtain ⟨k, rfl⟩ : ∃ m, k = (m + i + 1) + 1 + 1 := ⟨k - i - 3, by omega⟩
    simp only [haulierref09_Skills.l0]
    rw [if_pos (by omega), if_pos (by omega), rd_at l i hlt]
    unfold ofL
    by_cases h0 : l[i] < 0
    · rw [if_pos h0, if_pos (.inl h0)]
      simp only [haulierref09_Skills.j1]
      rw [if_pos trivial]
    · rw [if_neg h0]
      by_cases h1 : l[i] ≥ 62
      · rw [if_pos (.inr h1), decide_eq_true (by omega)]
        simp only [haulierref09_Skills.j1]
        rw [if_pos trivial]
      · rw [if_neg (by omega), decide_eq_false (by omega)]
        simp only [haulierref09_Skills.j1]
        rw [if_neg (by decide)]
        have hset : set < 18446744073709551616 := by omega
        have hp : 2 ^ l[i].toNat < 2 ^ 62 := Nat.pow_lt_pow_right (by decide) (by omega)
        by_cases hb : set.testBit l[i].toNat = true
        · rw [if_pos hb]
          obtain ⟨m, hm, h2, h3⟩ := (hin _).1 hb
          exact inner_yes l hl set i hlt i 0 (by omega) ⟨m, hm, by omega, h2, by omega⟩ _ (by omega)
        · rw [if_neg hb]
          have hi1 := inner_no l hl set i hlt (by omega) i 0 (by omega) (fun m hm _ h2 h3 => hb ((hin _).2 ⟨m, hm, h2, by omega⟩)) k
          rw [show ((0 : Int)) = ((0 : Nat) : Int) from rfl, hi1]
          have hs1 : shl .u64 1 l[i] = ((2 ^ l[i].toNat : Nat) : Int) := by
            have := shl_one l[i].toNat (by omega)
            rwa [Int.toNat_of_nonneg (by omega)] at this
          rw [hs1, u64_or_nat _ _ hset (by omega)]
          have hr := ih (i + 1) (set ||| 2 ^ l[i].toNat) (by omega) (Nat.or_lt_two_pow hs hp) (fun t => by
            rw [testBit_or_pow, Bool.or_eq_true, hin, decide_eq_true_iff]
            constructor
            · rintro (⟨m, hm, h2, h3⟩ | h)
              · exact ⟨m, hm, by omega, h3⟩
              · exact ⟨i, hlt, by omega, by omega⟩
            · rintro ⟨m, hm, h2, h3⟩
              rcases Nat.lt_or_ge m i with h | h
              · exact .inl ⟨m, hm, h, h3⟩
              · obtain rfl : m = i := by omega
                exact .inr (by omega)) k (by omega)
          rw [hr]
          rfl
theorem skills_tells (k : Nat) (hk : l.length * (l.length + 4) < k) : haulierref09_Skills.f k l = some (ofL 0 0 l) := by
  unfold haulierref09_Skills.f
  have := skills_loop l hl l.length 0 0 (by omega) (by decide) (fun t => by
    rw [Nat.zero_testBit]
    constructor
    · intro h; cases h
    · rintro ⟨m, _, h, _⟩; omega) k hk
  simpa using this
end

def cv (a b i : Nat) : Bool := (List.range i).all fun j => !(b.testBit j) || a.testBit j
theorem cv_succ (a b i : Nat) : cv a b (i + 1) = (cv a b i && (!(b.testBit i) || a.testBit i)) := by
  unfold cv
  rw [List.range_succ, List.all_append]
  simp
theorem bit_is (a i : Nat) : a.testBit i = decide (a / 2 ^ i % 2 = 1) := Nat.testBit_eq_decide_div_mod_eq

theorem covers_end (a b : Nat) (ha : a < 18446744073709551616) (hb : b < 18446744073709551616) (s p e : Int) (L : List Int) (c : Bool) (hl : L.length ≤ 64) (hL : ∀ k, 64 < k → skill_List.f k (a : Int) = some L) (hp : ((pop a 64 : Nat) : Int) = (L.length : Int)) (hc : cov a b = c) (k : Nat) (hk : 70 < k) :
    haulierlaw10_SkillSets.l0 k (a : Int) (b : Int) s p e s p e L c 64 = some true := by
  obtain ⟨k, rfl⟩ : ∃ m, k = m + 1 := ⟨k - 1, by omega⟩
  have hv : decide ((a : Int) < 4611686018427387904) = decide (a < 4611686018427387904) := by
    rw [Bool.eq_iff_iff, decide_eq_true_iff, decide_eq_true_iff]
    omega
  have hs : haulierref05_SameInts.f k L L = some true := same_tells _ hl k (by omega)
  have hn := count_tells a ha
  have hw := covers_tells a b ha hb
  have hL' := hL k (by omega)
  have hva := valid_tells a
  rw [hc] at hw
  generalize decide (a < 4611686018427387904) = v at hv hva
  unfold haulierlaw10_SkillSets.l0
  generalize skill_Count.f (a : Int) = n at *
  generalize skill_Covers.f (a : Int) (b : Int) = q at *
  generalize skill_Valid.f (a : Int) = y at *
  generalize skill_List.f k (a : Int) = z at *
  subst hn hw hva hL'
  rw [if_neg (by decide), if_pos rfl, if_pos rfl, if_pos rfl, Option.bind_some, hv, if_pos (show (v == v) = true by cases v <;> rfl), Option.bind_some, hs, Option.bind_some, if_pos rfl, Option.bind_some, if_pos hp, Option.bind_some]
  cases c <;> rfl

theorem covers_loop (a b : Nat) (ha : a < 18446744073709551616) (hb : b < 18446744073709551616) (s p e : Int) (L : List Int) (hend : ∀ k, 70 < k → haulierlaw10_SkillSets.l0 k (a : Int) (b : Int) s p e s p e L (cv a b 64) 64 = some true) : ∀ (d i : Nat), i + d = 64 → ∀ k, d + 70 < k →
    haulierlaw10_SkillSets.l0 k (a : Int) (b : Int) s p e s p e L (cv a b i) (i : Int) = some true := by
  intro d
  induction d with
  | zero =>
    intro i hi k hk
    obtain rfl : i = 64 := by omega
    exact hend k (by omega)
  | succ d ih =>
    intro i hi k hk
    obtain ⟨k, rfl⟩ : ∃ m, k = m + 1 := ⟨k - 1, by omega⟩
    have hn := ih (i + 1) (by omega) k (by omega)
    rw [cv_succ] at hn
    simp only [haulierlaw10_SkillSets.l0]
    rw [if_pos (by omega), show wrap64 ((i : Int) + 1) = ((i + 1 : Nat) : Int) from by unfold wrap64; omega]
    cases hc : cv a b i with
    | false =>
      rw [hc, Bool.false_and] at hn
      rw [if_neg (by decide)]
      exact hn
    | true =>
      rw [hc, Bool.true_and] at hn
      rw [if_pos rfl, if_pos (by omega), bit_one b i hb (by omega), bit_one a i ha (by omega)]
      by_cases h0 : b / 2 ^ i % 2 = 0
      · rw [if_pos (by omega)]
        have : b.testBit i = false := by rw [bit_is, decide_eq_false_iff_not]; omega
        rw [this, Bool.not_false, Bool.true_or] at hn
        exact hn
      · rw [if_neg (by omega)]
        have h1 : b.testBit i = true := by rw [bit_is, decide_eq_true_iff]; omega
        rw [h1, Bool.not_true, Bool.false_or] at hn
        have h2 : (((a / 2 ^ i % 2 : Nat) : Int) == 1) = a.testBit i := by
          rw [bit_is, Bool.eq_iff_iff, beq_iff_eq, decide_eq_true_iff]
          omega
        rw [h2]
        exact hn

theorem SkillSets : haulierlaw10_SkillSets.Pure := by
  intro l a0 b0 _ hl8 _ h0 h1
  obtain ⟨p0, q0⟩ := word_range a0 h0
  obtain ⟨p1, q1⟩ := word_range b0 h1
  obtain ⟨a, rfl⟩ := Int.eq_ofNat_of_zero_le p0
  obtain ⟨b, rfl⟩ := Int.eq_ofNat_of_zero_le p1
  have ha : a < 18446744073709551616 := by omega
  have hb : b < 18446744073709551616 := by omega
  obtain ⟨K, hK⟩ : ∃ K : Nat, 2000000 < K := ⟨2000001, by decide⟩
  refine ⟨K, ?_⟩
  unfold haulierlaw10_SkillSets.f
  rw [awake _ (by omega)]
  simp only [Option.bind_some, if_true]
  by_cases h : (l.length : Int) > 1000
  · rw [if_pos h]
  · have hl : l.length ≤ 1000 := by omega
    have hm : l.length * (l.length + 4) ≤ 1000 * 1004 := Nat.mul_le_mul hl (by omega)
    rw [if_neg h]
    simp only [List.nil_append, List.length_nil]
    rw [if_pos (by omega), of_tells l hl8 _ (by omega)]
    simp only [Option.bind_some]
    rw [skills_tells l hl _ (by omega)]
    simp only [Option.bind_some]
    rw [numbers_tells a ha _ (by omega)]
    simp only [Option.bind_some]
    have he := covers_end a b ha hb (ofL 0 0 l).1 (ofL 0 0 l).2.1 (ofL 0 0 l).2.2 (bl 64 0 a) (cv a b 64) (bl_le a) (fun k hk => list_tells a ha k hk) (by rw [bl_length]) (cov_bits a b ha hb)
    generalize bl 64 0 a = L at *
    exact covers_loop a b ha hb _ _ _ L he 64 0 (by omega) K (by omega)

end Go.Proofs.YtielkcpbojcbhaaDoor.Pure
