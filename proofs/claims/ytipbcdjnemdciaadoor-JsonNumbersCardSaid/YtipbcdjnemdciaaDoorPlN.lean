/- The plain parser over the text of a number. -/
import Derived.Test.YtipbcdjnemdciaaDoorPl
import Derived.Lib.ItoaNum
set_option linter.unusedVariables false
set_option linter.unusedSimpArgs false
namespace Go.Proofs.YtipbcdjnemdciaaDoor.Np

def fit (a : Int) : Prop := -4611686018427387903 ≤ a ∧ a ≤ 4611686018427387903
instance (a : Int) : Decidable (fit a) := inferInstanceAs (Decidable (_ ∧ _))
theorem dec_step (u : Nat) (h : ¬ u < 10) : Lib.decDigits u = Lib.decDigits (u / 10) ++ [UInt8.ofNat (48 + u % 10)] := by
  rw [Lib.decDigits, dif_neg h]
theorem dec_last (u : Nat) (h : u < 10) : Lib.decDigits u = [UInt8.ofNat (48 + u)] := by
  rw [Lib.decDigits, dif_pos h]
theorem digit_dig (d : Nat) (h : d < 10) : dig (UInt8.ofNat (48 + d)) = true := by
  unfold dig
  rw [decide_eq_true_iff, UInt8.toNat_ofNat']
  omega
theorem dec_all (u : Nat) : (Lib.decDigits u).all dig = true := by
  induction u using Nat.strongRecOn with
  | _ u ih =>
    by_cases h : u < 10
    · rw [dec_last u h, List.all_cons, digit_dig u h]
      rfl
    · rw [dec_step u h, List.all_append, ih (u / 10) (by omega), List.all_cons, digit_dig (u % 10) (by omega)]
      rfl
theorem dec_ne (u : Nat) : Lib.decDigits u ≠ [] := by
  by_cases h : u < 10
  · rw [dec_last u h]; simp
  · rw [dec_step u h]; simp
theorem dec_head (u : Nat) (h0 : 0 < u) : (Lib.decDigits u).head? ≠ some 48 := by
  induction u using Nat.strongRecOn with
  | _ u ih =>
    by_cases h : u < 10
    · rw [dec_last u h]
      simp only [List.head?_cons, ne_eq, Option.some.injEq]
      intro e
      have := congrArg UInt8.toNat e
      rw [UInt8.toNat_ofNat'] at this
      have e48 : (48 : UInt8).toNat = 48 := rfl
      omega
    · rw [dec_step u h, List.head?_append]
      have hn := ih (u / 10) (by omega) (by omega)
      cases hd : (Lib.decDigits (u / 10)).head? with
      | none => exact absurd (List.head?_eq_none_iff.1 hd) (dec_ne _)
      | some c => rw [hd] at hn; simpa using hn
theorem dec_head_digit (u : Nat) : ∃ c r, Lib.decDigits u = c :: r ∧ dig c = true := by
  cases hl : Lib.decDigits u with
  | nil => exact absurd hl (dec_ne u)
  | cons c r =>
    have := dec_all u
    rw [hl, List.all_cons, Bool.and_eq_true] at this
    exact ⟨c, r, rfl, this.1⟩
/-- Reading the digits of u behind what acc stands for. -/
theorem read_dec (u : Nat) : ∀ (r : List UInt8), u < 18446744073709551616 → Lib.parseUint10 0 (Lib.decDigits u ++ r) = Lib.parseUint10 u r := by
  induction u using Nat.strongRecOn with
  | _ u ih =>
    intro r hu
    have one : ∀ (d a : Nat), d < 10 → a * 10 + d < 18446744073709551616 → Lib.parseUint10 a (UInt8.ofNat (48 + d) :: r) = Lib.parseUint10 (a * 10 + d) r := by
      intro d a hd ha
      have ht : (UInt8.ofNat (48 + d)).toNat = 48 + d := by rw [UInt8.toNat_ofNat']; omega
      conv => lhs; unfold Lib.parseUint10
      rw [ht, if_pos (by omega), if_neg (by omega), if_neg (by omega), show 48 + d - 48 = d from by omega]
    by_cases h : u < 10
    · rw [dec_last u h]
      have := one u 0 h (by omega)
      simpa using this
    · rw [dec_step u h, List.append_assoc]
      rw [ih (u / 10) (by omega) _ (by omega)]
      rw [List.singleton_append, one (u % 10) (u / 10) (by omega) (by omega)]
      congr 1
      omega

/-- What the text of a number is read as. -/
theorem parse_itoa (a : Int) (h0 : -9223372036854775808 ≤ a) (h1 : a ≤ 9223372036854775807) : parseG (Lib.itoa a) = if fit a then (a, 0) else (0, 10) := by
  have mag : ∀ u : Nat, u < 18446744073709551616 → Lib.parseMag (Lib.decDigits u) = .ok u := by
    intro u hu
    unfold Lib.parseMag
    rw [if_neg (dec_ne u)]
    have := read_dec u [] hu
    rw [List.append_nil] at this
    rw [this]
    rfl
  have tell : ∀ v : Int, told (.ok v) = if fit v then (v, 0) else (0, 10) := fun v => rfl
  unfold parseG
  by_cases hn : a < 0
  · have hi : Lib.itoa a = 45 :: Lib.decDigits a.natAbs := by unfold Lib.itoa; rw [if_pos hn]
    have hb : bare (Lib.itoa a) = Lib.decDigits a.natAbs := by rw [hi]; rfl
    have ha : Lib.atoiAll (Lib.itoa a) = .ok a := by
      rw [hi]
      unfold Lib.atoiAll
      simp only
      rw [if_pos (.inr (by rfl)), mag _ (by omega)]
      simp only
      rw [if_neg (fun e => e.1 rfl), if_neg (fun e => by omega), if_pos (show (45 : UInt8).toNat = 45 from rfl)]
      congr 1
      omega
    rw [hb, if_neg (dec_ne _), if_neg (fun e => dec_head a.natAbs (by omega) e.1), if_pos (dec_all _), ha, tell]
  · have hi : Lib.itoa a = Lib.decDigits a.toNat := by unfold Lib.itoa; rw [if_neg hn]
    obtain ⟨c, r, hcr, hc⟩ := dec_head_digit a.toNat
    have hc' : 48 ≤ c.toNat ∧ c.toNat ≤ 57 := of_decide_eq_true hc
    have hb : bare (Lib.itoa a) = Lib.decDigits a.toNat := by
      rw [hi, hcr]
      unfold bare
      rw [if_neg]
      simp only [List.head?_cons, Option.some.injEq]
      intro e
      rw [e] at hc'
      exact absurd hc'.1 (by decide)
    have ha : Lib.atoiAll (Lib.itoa a) = .ok a := by
      have hm := mag a.toNat (by omega)
      rw [hi]
      rw [hcr] at hm ⊢
      unfold Lib.atoiAll
      simp only
      rw [if_neg (by omega), hm]
      simp only
      rw [if_neg (fun e => by omega), if_neg (fun e => by omega), if_neg (by omega)]
      congr 1
      omega
    have hz : ¬ ((Lib.decDigits a.toNat).head? = some 48 ∧ Lib.itoa a ≠ [48]) := by
      rintro ⟨e1, e2⟩
      rcases Nat.eq_zero_or_pos a.toNat with h | h
      · rw [hi, h, dec_last 0 (by decide)] at e2
        exact e2 rfl
      · exact dec_head _ h e1
    rw [hb, if_neg (dec_ne _), if_neg hz, if_pos (dec_all _), ha, tell]

theorem itoa_size (a : Int) (h0 : -9223372036854775808 ≤ a) (h1 : a ≤ 9223372036854775807) : (Lib.itoa a).length ≤ 100 := by
  have hd : ∀ n u : Nat, u < 10 ^ (n + 1) → (Lib.decDigits u).length ≤ n + 1 := by
    intro n
    induction n with
    | zero => intro u hu; rw [dec_last u (by omega)]; simp
    | succ n ih =>
      intro u hu
      by_cases h : u < 10
      · rw [dec_last u h]; simp
      · rw [dec_step u h, List.length_append, List.length_singleton]
        have := ih (u / 10) (by rw [Nat.pow_succ] at hu; omega)
        omega
  unfold Lib.itoa
  split
  · rw [List.length_cons]
    have := hd 19 a.natAbs (by omega)
    omega
  · have := hd 19 a.toNat (by omega)
    omega

/-- What is no number whole: behind the sign stands what is no digit. -/
theorem parseG_odd (l : List UInt8) (h : (bare l).all dig = false) : (parseG l).2 = 11 := by
  unfold parseG
  rw [h]
  split
  · rfl
  · split
    · rfl
    · rfl
theorem bare_append (l r : List UInt8) (h : l ≠ []) : bare (l ++ r) = bare l ++ r := by
  cases l with
  | nil => exact absurd rfl h
  | cons c l =>
    by_cases hc : c = 45
    · subst hc; rfl
    · have e : ∀ x : List UInt8, bare (c :: x) = c :: x := fun x => by
        unfold bare
        rw [if_neg (show ¬ (c :: x).head? = some 45 from fun e => hc (Option.some.inj e))]
      rw [List.cons_append, e, e, List.cons_append]
theorem itoa_ne (a : Int) : Lib.itoa a ≠ [] := by
  unfold Lib.itoa
  split
  · simp
  · exact dec_ne _
theorem itoa_head (a : Int) : ∃ c r, Lib.itoa a = c :: r ∧ (c = 45 ∨ (48 ≤ c.toNat ∧ c.toNat ≤ 57)) := by
  unfold Lib.itoa
  split
  · exact ⟨_, _, rfl, .inl rfl⟩
  · obtain ⟨c, r, e, h⟩ := dec_head_digit a.toNat
    exact ⟨c, r, e, .inr (of_decide_eq_true h)⟩
end Go.Proofs.YtipbcdjnemdciaaDoor.Np
namespace Go.Proofs.YtipbcdjnemdciaaDoor.Js
open Go.RowKit Go.Lib Go.Proofs.YtipbcdjnemdciaaDoor.PSh Go.Proofs.YtipbcdjnemdciaaDoor.Np
theorem numByte_dig {c : UInt8} (h : dig c = true) : numByte c = true := by
  unfold dig at h
  rw [decide_eq_true_eq] at h
  unfold numByte
  rw [decide_eq_true h.1, decide_eq_true h.2]
  simp
theorem itoa_bytes (a : Int) : (itoa a).all numByte = true := by
  have hd : ∀ u, (decDigits u).all numByte = true := fun u => by
    rw [List.all_eq_true]
    intro c hc
    exact numByte_dig (List.all_eq_true.1 (dec_all u) c hc)
  unfold itoa
  split
  · rw [List.all_cons, hd]; rfl
  · exact hd _
theorem numLen_all : ∀ (l : List UInt8) (c : UInt8) (r : List UInt8), l.all numByte = true → numByte c = false → numLen (l ++ c :: r) = l.length
  | [], c, r, _, hc => by rw [List.nil_append, numLen, hc]; rfl
  | x :: l, c, r, h, hc => by
    rw [List.all_cons, Bool.and_eq_true] at h
    rw [List.cons_append, numLen, if_pos h.1, numLen_all l c r h.2 hc, List.length_cons]
theorem number_text (l : List UInt8) (c : UInt8) (r : List UInt8) (p : Nat) (h : l.all numByte = true) (hc : numByte c = false) :
    number (l ++ c :: r) p = if (parseG l).2 = 0 then .ok (c :: r) (p + l.length) (parseG l).1 else .no p 25 := by
  unfold number
  rw [numLen_all l c r h hc, List.take_left, List.drop_left]
/-- "[s]" -/
theorem parse_one (s : List UInt8) (hs : s.all numByte = true) (hh : ∃ c r, s = c :: r ∧ (c = 45 ∨ (48 ≤ c.toNat ∧ c.toNat ≤ 57))) (hl : s.length ≤ 200) :
    parse (91 :: (s ++ [93])) = if (parseG s).2 = 0 then .ok [] 0 [⟨3, false, (parseG s).1, ⟨#[]⟩, [], []⟩, ⟨5, false, 0, ⟨#[]⟩, [], [0]⟩] else .no 1 25 := by
  obtain ⟨c, r, rfl, hc⟩ := hh
  have hb : blank c = false := by
    have hn : ∀ k : UInt8, k.toNat ≠ 45 → (k.toNat < 48 ∨ 57 < k.toNat) → c ≠ k := by
      rintro k h1 h2 rfl
      rcases hc with rfl | h
      · exact h1 rfl
      · omega
    unfold blank
    rw [beq_false_of_ne (hn 32 (by decide) (by decide)), beq_false_of_ne (hn 9 (by decide) (by decide)), beq_false_of_ne (hn 10 (by decide) (by decide)), beq_false_of_ne (hn 13 (by decide) (by decide))]
    rfl
  have h93 : c ≠ 93 := by
    rintro rfl
    rcases hc with h | h
    · exact absurd h (by decide)
    · exact absurd h.2 (by decide)
  have hn := number_text (c :: r) 93 [] 1 hs (by decide)
  have hlen : (91 :: ((c :: r) ++ [93])).length = r.length + 3 := by simp
  unfold parse
  rw [if_neg (by rw [hlen]; rw [List.length_cons] at hl; omega), hlen]
  rw [show 2 * (r.length + 3) + 2 = (2 * r.length + 5 + 1 + 1) + 1 by omega, value_list _ _ _ _ _ (by omega), List.cons_append, listF_on hb h93, list_succ, value_number hc]
  rw [List.cons_append] at hn
  rw [hn]
  by_cases h0 : (parseG (c :: r)).2 = 0
  · rw [if_pos h0, if_pos h0, R.bind_ok, put_small (by decide), R.bind_ok, more_end rfl, R.bind_ok, if_pos rfl, put_small (by show (1 : Nat) < 8192; decide), R.bind_ok, if_pos (show ([] : List UInt8).drop (gapLen []) = [] from rfl)]
    rfl
  · rw [if_neg h0, if_neg h0, R.bind_no, R.bind_no, R.bind_no]
/-- "[7,s]" where s is no number. -/
theorem parse_odd (s : List UInt8) (hs : s.all numByte = true) (hh : ∃ c r, s = c :: r ∧ (c = 45 ∨ (48 ≤ c.toNat ∧ c.toNat ≤ 57))) (hl : s.length ≤ 200) (h0 : (parseG s).2 ≠ 0) :
    parse (91 :: 55 :: 44 :: (s ++ [93])) = .no 3 25 := by
  obtain ⟨c, r, rfl, hc⟩ := hh
  have hn := number_text (c :: r) 93 [] 3 hs (by decide)
  rw [if_neg h0, List.cons_append] at hn
  have hlen : (91 :: 55 :: 44 :: ((c :: r) ++ [93])).length = r.length + 5 := by simp
  have h7 : number (55 :: 44 :: (c :: (r ++ [93]))) 1 = .ok (44 :: (c :: (r ++ [93]))) 2 7 := by
    have := number_text [55] 44 (c :: (r ++ [93])) 1 (by decide) (by decide)
    have e7 : parseG [55] = (7, 0) := by kernel_rfl
    rw [e7, if_pos rfl] at this
    exact this
  unfold parse
  rw [if_neg (by rw [hlen]; rw [List.length_cons] at hl; omega), hlen]
  rw [show 2 * (r.length + 5) + 2 = (2 * r.length + 8 + 1 + 1 + 1) + 1 by omega, value_list _ _ _ _ _ (by omega), List.cons_append, listF_on rfl (by decide), list_succ, value_number (.inr (by decide)), h7, R.bind_ok, put_small (by decide), R.bind_ok, more_comma (by decide), R.bind_ok, if_neg (by decide), list_succ, value_number hc, hn, R.bind_no, R.bind_no, R.bind_no]
/-- The four odd forms. -/
theorem odd_no (a : Int) (o : List UInt8) (ho : o.all numByte = true) (c : UInt8) (hm : c ∈ o) (hc : dig c = false) (hl : (itoa a).length ≤ 100) (ho2 : o.length ≤ 10) :
    parse (91 :: 55 :: 44 :: ((itoa a ++ o) ++ [93])) = .no 3 25 := by
  obtain ⟨x, r, e, hx⟩ := itoa_head a
  refine parse_odd (itoa a ++ o) (by rw [List.all_append, itoa_bytes, ho]; rfl) ⟨x, r ++ o, by rw [e]; rfl, hx⟩ (by rw [List.length_append]; omega) ?_
  rw [parseG_odd]
  · decide
  · rw [bare_append _ _ (itoa_ne a), List.all_append]
    have : o.all dig = false := by
      rw [List.all_eq_false]
      exact ⟨c, hm, by rw [hc]; decide⟩
    rw [this, Bool.and_false]
theorem one_itoa (a : Int) (h0 : -9223372036854775808 ≤ a) (h1 : a ≤ 9223372036854775807) (hl : (itoa a).length ≤ 100) :
    parse (91 :: (itoa a ++ [93])) = if fit a then .ok [] 0 [⟨3, false, a, ⟨#[]⟩, [], []⟩, ⟨5, false, 0, ⟨#[]⟩, [], [0]⟩] else .no 1 25 := by
  rw [parse_one (itoa a) (itoa_bytes a) (itoa_head a) (by omega), parse_itoa a h0 h1]
  by_cases h : fit a
  · rw [if_pos h, if_pos h, if_pos rfl]
  · rw [if_neg h, if_neg h, if_neg (by decide)]

end Go.Proofs.YtipbcdjnemdciaaDoor.Js
