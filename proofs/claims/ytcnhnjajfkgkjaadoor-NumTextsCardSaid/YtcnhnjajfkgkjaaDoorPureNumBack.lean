/- NumBack, the plain law: a number's text is read as it; one that does not fit is refused as too great. -/
import Derived.Test.YtcnhnjajfkgkjaaDoorNum
namespace Go.Proofs.YtcnhnjajfkgkjaaDoor.Pure
open Go.RowKit Go.Proofs.YtcnhnjajfkgkjaaDoor.PNu Go.Proofs.YtcnhnjajfkgkjaaDoorW.PrintWords Go.Proofs.YtcnhnjajfkgkjaaDoorW.PrintLast Go.Proofs.YtcnhnjajfkgkjaaDoorW.PrintMore

theorem digit_dig (d : Nat) (h : d < 10) : dig (UInt8.ofNat (48 + d)) = true := by
  unfold dig
  rw [decide_eq_true_iff, UInt8.toNat_ofNat']
  omega
theorem dec_all (u : Nat) : (Lib.decDigits u).all dig = true := by
  induction u using Nat.strongRecOn with
  | _ u ih =>
    by_cases h : u < 10
    · rw [dec_last u h, List.all_cons, digit_dig u h]
      rfl
    · rw [dec_step u h, List.all_append, ih (u / 10) (by omega), List.all_cons, digit_dig (u % 10) (by omega)]
      rfl
theorem dec_ne (u : Nat) : Lib.decDigits u ≠ [] := by
  by_cases h : u < 10
  · rw [dec_last u h]; simp
  · rw [dec_step u h]; simp
theorem dec_head (u : Nat) (h0 : 0 < u) : (Lib.decDigits u).head? ≠ some 48 := by
  induction u using Nat.strongRecOn with
  | _ u ih =>
    by_cases h : u < 10
    · rw [dec_last u h]
      simp only [List.head?_cons, ne_eq, Option.some.injEq]
      intro e
      have := congrArg UInt8.toNat e
      rw [UInt8.toNat_ofNat'] at this
      have e48 : (48 : UInt8).toNat = 48 := rfl
      omega
    · rw [dec_step u h, List.head?_append]
      have hn := ih (u / 10) (by omega) (by omega)
      cases hd : (Lib.decDigits (u / 10)).head? with
      | none => exact absurd (List.head?_eq_none_iff.1 hd) (dec_ne _)
      | some c => rw [hd] at hn; simpa using hn
theorem dec_head_digit (u : Nat) : ∃ c r, Lib.decDigits u = c :: r ∧ dig c = true := by
  cases hl : Lib.decDigits u with
  | nil => exact absurd hl (dec_ne u)
  | cons c r =>
    have := dec_all u
    rw [hl, List.all_cons, Bool.and_eq_true] at this
    exact ⟨c, r, rfl, this.1⟩
/-- Reading the digits of u behind what acc stands for. -/
theorem read_dec (u : Nat) : ∀ (r : List UInt8), u < 18446744073709551616 → Lib.parseUint10 0 (Lib.decDigits u ++ r) = Lib.parseUint10 u r := by
  induction u using Nat.strongRecOn with
  | _ u ih =>
    intro r hu
    have one : ∀ (d a : Nat), d < 10 → a * 10 + d < 18446744073709551616 → Lib.parseUint10 a (UInt8.ofNat (48 + d) :: r) = Lib.parseUint10 (a * 10 + d) r := by
      intro d a hd ha
      have ht : (UInt8.ofNat (48 + d)).toNat = 48 + d := by rw [UInt8.toNat_ofNat']; omega
      conv => lhs; unfold Lib.parseUint10
      rw [ht, if_pos (by omega), if_neg (by omega), if_neg (by omega), show 48 + d - 48 = d from by omega]
    by_cases h : u < 10
    · rw [dec_last u h]
      have := one u 0 h (by omega)
      simpa using this
    · rw [dec_step u h, List.append_assoc]
      rw [ih (u / 10) (by omega) _ (by omega)]
      rw [List.singleton_append, one (u % 10) (u / 10) (by omega) (by omega)]
      congr 1
      omega

/-- What the text of a number is read as. -/
theorem parse_itoa (a : Int) (h0 : -9223372036854775808 ≤ a) (h1 : a ≤ 9223372036854775807) : parseG (Lib.itoa a) = if fit a then (a, 0) else (0, 10) := by
  have mag : ∀ u : Nat, u < 18446744073709551616 → Lib.parseMag (Lib.decDigits u) = .ok u := by
    intro u hu
    unfold Lib.parseMag
    rw [if_neg (dec_ne u)]
    have := read_dec u [] hu
    rw [List.append_nil] at this
    rw [this]
    rfl
  have tell : ∀ v : Int, told (.ok v) = if fit v then (v, 0) else (0, 10) := fun v => rfl
  unfold parseG
  by_cases hn : a < 0
  · have hi : Lib.itoa a = 45 :: Lib.decDigits a.natAbs := by unfold Lib.itoa; rw [if_pos hn]
    have hb : bare (Lib.itoa a) = Lib.decDigits a.natAbs := by rw [hi]; rfl
    have ha : Lib.atoiAll (Lib.itoa a) = .ok a := by
      rw [hi]
      unfold Lib.atoiAll
      simp only
      rw [if_pos (.inr (by rfl)), mag _ (by omega)]
      simp only
      rw [if_neg (fun e => e.1 rfl), if_neg (fun e => by omega), if_pos (show (45 : UInt8).toNat = 45 from rfl)]
      congr 1
      omega
    rw [hb, if_neg (dec_ne _), if_neg (fun e => dec_head a.natAbs (by omega) e.1), if_pos (dec_all _), ha, tell]
  · have hi : Lib.itoa a = Lib.decDigits a.toNat := by unfold Lib.itoa; rw [if_neg hn]
    obtain ⟨c, r, hcr, hc⟩ := dec_head_digit a.toNat
    have hc' : 48 ≤ c.toNat ∧ c.toNat ≤ 57 := of_decide_eq_true hc
    have hb : bare (Lib.itoa a) = Lib.decDigits a.toNat := by
      rw [hi, hcr]
      unfold bare
      rw [if_neg]
      simp only [List.head?_cons, Option.some.injEq]
      intro e
      rw [e] at hc'
      exact absurd hc'.1 (by decide)
    have ha : Lib.atoiAll (Lib.itoa a) = .ok a := by
      have hm := mag a.toNat (by omega)
      rw [hi]
      rw [hcr] at hm ⊢
      unfold Lib.atoiAll
      simp only
      rw [if_neg (by omega), hm]
      simp only
      rw [if_neg (fun e => by omega), if_neg (fun e => by omega), if_neg (by omega)]
      congr 1
      omega
    have hz : ¬ ((Lib.decDigits a.toNat).head? = some 48 ∧ Lib.itoa a ≠ [48]) := by
      rintro ⟨e1, e2⟩
      rcases Nat.eq_zero_or_pos a.toNat with h | h
      · rw [hi, h, dec_last 0 (by decide)] at e2
        exact e2 rfl
      · exact dec_head _ h e1
    rw [hb, if_neg (dec_ne _), if_neg hz, if_pos (dec_all _), ha, tell]

theorem itoa_size (a : Int) (h0 : -9223372036854775808 ≤ a) (h1 : a ≤ 9223372036854775807) : (Lib.itoa a).length ≤ 100 := by
  have hd : ∀ n u : Nat, u < 10 ^ (n + 1) → (Lib.decDigits u).length ≤ n + 1 := by
    intro n
    induction n with
    | zero => intro u hu; rw [dec_last u (by omega)]; simp
    | succ n ih =>
      intro u hu
      by_cases h : u < 10
      · rw [dec_last u h]; simp
      · rw [dec_step u h, List.length_append, List.length_singleton]
        have := ih (u / 10) (by rw [Nat.pow_succ] at hu; omega)
        omega
  unfold Lib.itoa
  split
  · rw [List.length_cons]
    have := hd 19 a.natAbs (by omega)
    omega
  · have := hd 19 a.toNat (by omega)
    omega

theorem NumBack : haulierlaw01_NumBack.Pure := by
  intro a ha
  obtain ⟨h0, h1⟩ := wf_i64 a ha
  unfold haulierlaw01_NumBack.f
  rw [awake]
  simp only [Option.bind_some, if_true]
  rw [text_tells a h0 h1]
  simp only [Option.bind_some]
  have hs : (ByteArray.mk (Lib.itoa a).toArray).size ≤ 140737488351232 := by
    have := itoa_size a h0 h1
    show (Lib.itoa a).toArray.size ≤ _
    rw [List.size_toArray]
    omega
  rw [parse_tells _ hs, show (ByteArray.mk (Lib.itoa a).toArray).data.toList = Lib.itoa a from rfl, parse_itoa a h0 h1, ref_fits]
  simp only [Option.bind_some]
  by_cases hf : fit a
  · rw [if_pos hf, decide_eq_true hf, if_pos rfl, if_pos rfl]
    rfl
  · rw [if_neg hf, decide_eq_false hf, if_neg (by decide), if_pos rfl]
    rfl

end Go.Proofs.YtcnhnjajfkgkjaaDoor.Pure
