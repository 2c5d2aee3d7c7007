/- Plain lemmas on lists of skills as sets of bits. No program is in sight. -/
import Derived.Test.YtielkcpbojcbhaaDoorBits
namespace Go.Proofs.YtielkcpbojcbhaaDoor.Bits

/-- What 'Of' answers from a set and a place on. -/
def ofL : Nat → Int → List Int → Int × Int × Int
  | set, _, [] => ((set : Int), 0, 0)
  | set, i, s :: t => if s < 0 ∨ s ≥ 62 then (0, i, 2) else if set.testBit s.toNat then (0, i, 28) else ofL (set ||| 2 ^ s.toNat) (i + 1) t

def Good (set : Nat) (l : List Int) : Prop := (∀ s ∈ l, 0 ≤ s ∧ s < 62 ∧ set.testBit s.toNat = false) ∧ l.Nodup

theorem testBit_or_pow (a s j : Nat) : (a ||| 2 ^ s).testBit j = (a.testBit j || decide (s = j)) := by
  rw [Nat.testBit_or, Nat.testBit_two_pow]

theorem good_cons (set : Nat) (s : Int) (t : List Int) : Good set (s :: t) ↔ (0 ≤ s ∧ s < 62 ∧ set.testBit s.toNat = false) ∧ Good (set ||| 2 ^ s.toNat) t := by
  unfold Good
  constructor
  · rintro ⟨h, hn⟩
    rw [List.nodup_cons] at hn
    have hs := h s (by simp)
    refine ⟨hs, fun x hx => ?_, hn.2⟩
    have hx' := h x (by simp [hx])
    refine ⟨hx'.1, hx'.2.1, ?_⟩
    rw [testBit_or_pow, hx'.2.2]
    have : s ≠ x := fun e => hn.1 (e ▸ hx)
    simp
    omega
  · rintro ⟨hs, h, hn⟩
    refine ⟨fun x hx => ?_, ?_⟩
    · rcases List.mem_cons.1 hx with rfl | hx
      · exact hs
      · have hx' := h x hx
        rw [testBit_or_pow] at hx'
        refine ⟨hx'.1, hx'.2.1, ?_⟩
        have := hx'.2.2
        simp at this
        exact this.1
    · rw [List.nodup_cons]
      refine ⟨fun hm => ?_, hn⟩
      have hx' := h s hm
      rw [testBit_or_pow] at hx'
      have := hx'.2.2
      simp at this

theorem ofL_good (l : List Int) : ∀ (set : Nat) (i : Int), set < 2 ^ 62 → Good set l →
    ∃ r : Nat, ofL set i l = ((r : Int), 0, 0) ∧ r < 2 ^ 62 ∧ (∀ j : Nat, r.testBit j = (set.testBit j || decide ((j : Int) ∈ l))) ∧ pop r 64 = pop set 64 + l.length := by
  induction l with
  | nil => intro set i hset _; exact ⟨set, rfl, hset, by simp, (Nat.add_zero _).symm⟩
  | cons s t ih =>
    intro set i hset hg
    rw [good_cons] at hg
    obtain ⟨⟨h0, h1, h2⟩, hg⟩ := hg
    have hlt : set ||| 2 ^ s.toNat < 2 ^ 62 := Nat.or_lt_two_pow hset (Nat.pow_lt_pow_right (by decide) (by omega))
    obtain ⟨r, hr, hb, hj, hp⟩ := ih _ (i + 1) hlt hg
    refine ⟨r, ?_, hb, ?_, ?_⟩
    · unfold ofL
      rw [if_neg (by omega), if_neg (by simp [h2])]
      exact hr
    · intro j
      rw [hj, testBit_or_pow, Bool.or_assoc]
      congr 1
      rw [Bool.eq_iff_iff]
      simp
      constructor
      · rintro (h | h)
        · exact .inl (by omega)
        · exact .inr h
      · rintro (h | h)
        · exact .inl (by omega)
        · exact .inr h
    · rw [hp, pop_add _ _ _ (by omega) h2, List.length_cons]
      omega

theorem ofL_bad (l : List Int) : ∀ (set : Nat) (i : Int), ¬ Good set l → ∃ k e : Int, ofL set i l = (0, k, e) ∧ e ≠ 0 := by
  induction l with
  | nil => intro set i h; exact absurd ⟨by simp, List.nodup_nil⟩ h
  | cons s t ih =>
    intro set i hg
    unfold ofL
    by_cases h : s < 0 ∨ s ≥ 62
    · rw [if_pos h]; exact ⟨i, 2, rfl, by decide⟩
    · rw [if_neg h]
      by_cases hb : set.testBit s.toNat = true
      · rw [if_pos hb]; exact ⟨i, 28, rfl, by decide⟩
      · rw [if_neg hb]
        refine ih _ _ fun hn => hg ((good_cons ..).2 ⟨⟨by omega, by omega, by simpa using hb⟩, hn⟩)

theorem good_perm {set : Nat} {l m : List Int} (h : l.Perm m) (hg : Good set l) : Good set m :=
  ⟨fun s hs => hg.1 s (h.mem_iff.2 hs), h.nodup_iff.1 hg.2⟩

/-- In whatever order skills stand. -/
theorem ofL_reverse (l : List Int) : (Good 0 l ∧ ∃ r : Nat, ofL 0 0 l = ((r : Int), 0, 0) ∧ ofL 0 0 l.reverse = ((r : Int), 0, 0) ∧ r < 2 ^ 62 ∧ pop r 64 = l.length) ∨
    (∃ i e k f : Int, ofL 0 0 l = (0, i, e) ∧ ofL 0 0 l.reverse = (0, k, f) ∧ e ≠ 0 ∧ f ≠ 0) := by
  by_cases hg : Good 0 l
  · obtain ⟨r, h1, h2, h3, h4⟩ := ofL_good l 0 0 (by decide) hg
    obtain ⟨q, k1, k2, k3, k4⟩ := ofL_good l.reverse 0 0 (by decide) (good_perm l.reverse_perm.symm hg)
    have e : q = r := Nat.eq_of_testBit_eq fun j => by rw [h3, k3]; simp
    subst e
    exact .inl ⟨hg, q, h1, k1, h2, by rw [h4, pop_zero]; omega⟩
  · obtain ⟨i, e, h1, h2⟩ := ofL_bad l 0 0 hg
    obtain ⟨k, f, k1, k2⟩ := ofL_bad l.reverse 0 0 fun h => hg (good_perm l.reverse_perm h)
    exact .inr ⟨i, e, k, f, h1, k1, h2, k2⟩

end Go.Proofs.YtielkcpbojcbhaaDoor.Bits
