/- NumTexts, the plain law: 'Text' of any number and 'Parse' of any text are as the document's answer has them. -/
import Derived.Test.YtcnhnjajfkgkjaaDoorPureNumBack
namespace Go.Proofs.YtcnhnjajfkgkjaaDoor.Pure
open Go.RowKit Go.Proofs.YtcnhnjajfkgkjaaDoor.PNu Go.Proofs.YtcnhnjajfkgkjaaDoorW.PrintWords Go.Proofs.YtcnhnjajfkgkjaaDoorW.PrintLast Go.Proofs.YtcnhnjajfkgkjaaDoorW.PrintMore

/-! The text. -/
theorem wrap_zero : wrap64 ((0 : Nat) : Int) = 0 := by unfold wrap64; omega
theorem digit_wrap (d : Nat) (h : d < 10) : wrap64 (48 + (d : Int)) % 256 = ((48 + d : Nat) : Int) := by unfold wrap64; omega
theorem wrap_nat (d : Nat) (h : d ≤ 9223372036854775807) : wrap64 (d : Int) = (d : Int) := by unfold wrap64; omega
theorem tdiv_ten (u : Nat) : Int.tdiv (u : Int) 10 = ((u / 10 : Nat) : Int) := by rw [Int.tdiv_eq_ediv_of_nonneg (by omega)]; omega
theorem tmod_ten (u : Nat) : Int.tmod (u : Int) 10 = ((u % 10 : Nat) : Int) := by rw [Int.tmod_eq_emod_of_nonneg (by omega)]; omega
theorem one_size (x : Int) (acc : ByteArray) (h : acc.size ≤ 100) : (strOfNums [x]).size + acc.size ≤ 9223372036854775807 := by rw [strOfNums_size, List.length_singleton]; omega
theorem text_loop (n : Nat) : ∀ (u : Nat) (acc : ByteArray), u < 10 ^ (n + 1) → u ≤ 9223372036854775807 → acc.size + n ≤ 100 → ∀ k, n < k →
    ∃ r, haulierref01_Text.l0 k (u : Int) acc = some r ∧ r.data.toList = Lib.decDigits u ++ acc.data.toList := by
  induction n with
  | zero =>
    intro u acc hu _ ha k hk
    obtain ⟨k, rfl⟩ : ∃ m, k = m + 1 := ⟨k - 1, by omega⟩
    have h10 : u < 10 := by omega
    simp only [haulierref01_Text.l0, Option.bind_some]
    rw [tdiv_ten, tmod_ten, Nat.div_eq_of_lt h10, Nat.mod_eq_of_lt h10, digit_wrap u h10, if_pos (one_size _ acc (by omega)), if_pos wrap_zero]
    refine ⟨_, rfl, ?_⟩
    rw [ByteArray.toList_data_append, strOfNums_data, dec_last u h10]
    rfl
  | succ n ih =>
    intro u acc hu hm ha k hk
    obtain ⟨k, rfl⟩ : ∃ m, k = m + 1 := ⟨k - 1, by omega⟩
    simp only [haulierref01_Text.l0, Option.bind_some]
    rw [tdiv_ten, tmod_ten, wrap_nat (u / 10) (by omega), digit_wrap (u % 10) (by omega), if_pos (one_size _ acc (by omega))]
    have hd : (strOfNums [((48 + u % 10 : Nat) : Int)] ++ acc).data.toList = UInt8.ofNat (48 + u % 10) :: acc.data.toList := by
      rw [ByteArray.toList_data_append, strOfNums_data]
      rfl
    by_cases h10 : u < 10
    · rw [if_pos (by omega)]
      refine ⟨_, rfl, ?_⟩
      rw [hd, dec_last u h10, Nat.mod_eq_of_lt h10]
      rfl
    · rw [if_neg (by omega)]
      obtain ⟨r, hr, he⟩ := ih (u / 10) (strOfNums [((48 + u % 10 : Nat) : Int)] ++ acc) (by rw [Nat.pow_succ] at hu; omega) (by omega) (by rw [ByteArray.size_append, strOfNums_size, List.length_singleton]; omega) k (by omega)
      refine ⟨r, hr, ?_⟩
      rw [he, hd, dec_step u h10, List.append_assoc]
      rfl

theorem ref_text (a : Int) (h0 : -9223372036854775808 ≤ a) (h1 : a ≤ 9223372036854775807) (k : Nat) (hk : 30 < k) : ∃ r, haulierref01_Text.f k a = some r ∧ r.data.toList = Lib.itoa a := by
  obtain ⟨k, rfl⟩ : ∃ m, k = m + 1 + 1 := ⟨k - 2, by omega⟩
  have pos : ∀ (x : Int) (k : Nat), 0 ≤ x → x ≤ 9223372036854775807 → 20 < k → ∃ r, haulierref01_Text.l0 k x (⟨#[]⟩ : ByteArray) = some r ∧ r.data.toList = Lib.decDigits x.toNat := by
    intro x k hx hx1 hk
    obtain ⟨u, rfl⟩ := Int.eq_ofNat_of_zero_le hx
    obtain ⟨r, hr, he⟩ := text_loop 18 u ⟨#[]⟩ (by omega) (by omega) (by decide) k (by omega)
    exact ⟨r, hr, by rw [he, Int.toNat_natCast]; exact List.append_nil _⟩
  unfold haulierref01_Text.f
  by_cases hm : a = -9223372036854775808
  · rw [if_pos hm]
    refine ⟨_, rfl, ?_⟩
    rw [hm, least_text]
  · rw [if_neg hm]
    by_cases hn : a < 0
    · rw [if_pos hn, show wrap64 (-a) = -a from by unfold wrap64; omega]
      obtain ⟨r, hr, he⟩ := pos (-a) k (by omega) (by omega) (by omega)
      have hf : haulierref01_Text.f (k + 1) (-a) = some r := by
        unfold haulierref01_Text.f
        rw [if_neg (by omega), if_neg (by omega)]
        exact hr
      rw [hf]
      simp only [Option.bind_some]
      have hs : r.size ≤ 100 := by
        have hl := congrArg List.length he
        have := itoa_size (-a) (by omega) (by omega)
        unfold Lib.itoa at this
        rw [if_neg (by omega)] at this
        rw [data_length] at hl
        omega
      rw [if_pos (by omega)]
      refine ⟨_, rfl, ?_⟩
      rw [ByteArray.toList_data_append, he]
      unfold Lib.itoa
      rw [if_pos hn, show (-a).toNat = a.natAbs from by omega]
      rfl
    · rw [if_neg hn]
      obtain ⟨r, hr, he⟩ := pos a (k + 1) (by omega) (by omega) (by omega)
      refine ⟨r, hr, ?_⟩
      rw [he]
      unfold Lib.itoa
      rw [if_neg hn]

/-! The value of digits. -/
def val (acc : Nat) (d : List UInt8) : Nat := d.foldl (fun a c => a * 10 + (c.toNat - 48)) acc
theorem val_cons (acc : Nat) (c : UInt8) (r : List UInt8) : val acc (c :: r) = val (acc * 10 + (c.toNat - 48)) r := by
  simp only [val, List.foldl_cons]
theorem dig_range {c : UInt8} (h : dig c = true) : 48 ≤ c.toNat ∧ c.toNat ≤ 57 := of_decide_eq_true h
theorem val_ge : ∀ (d : List UInt8) (acc : Nat), acc * 10 ^ d.length ≤ val acc d
  | [], acc => by simp [val]
  | c :: r, acc => by
    rw [val_cons, List.length_cons, Nat.pow_succ]
    have := val_ge r (acc * 10 + (c.toNat - 48))
    have h2 : acc * 10 * 10 ^ r.length ≤ (acc * 10 + (c.toNat - 48)) * 10 ^ r.length := Nat.mul_le_mul_right _ (by omega)
    rw [Nat.mul_comm (10 ^ r.length) 10, ← Nat.mul_assoc]
    omega
theorem val_lt : ∀ (d : List UInt8) (acc : Nat), d.all dig = true → val acc d < (acc + 1) * 10 ^ d.length
  | [], acc, _ => by simp [val]
  | c :: r, acc, h => by
    rw [List.all_cons, Bool.and_eq_true] at h
    have hc := dig_range h.1
    rw [val_cons, List.length_cons, Nat.pow_succ]
    have := val_lt r (acc * 10 + (c.toNat - 48)) h.2
    have h2 : (acc * 10 + (c.toNat - 48) + 1) * 10 ^ r.length ≤ (acc + 1) * 10 * 10 ^ r.length := Nat.mul_le_mul_right _ (by omega)
    rw [Nat.mul_comm (10 ^ r.length) 10, ← Nat.mul_assoc]
    omega
theorem parse_val : ∀ (d : List UInt8) (acc : Nat), d.all dig = true → Lib.parseUint10 acc d = .ok (val acc d) ∨ (Lib.parseUint10 acc d = .range ∧ 18446744073709551616 ≤ val acc d)
  | [], acc, _ => .inl rfl
  | c :: r, acc, h => by
    rw [List.all_cons, Bool.and_eq_true] at h
    have hc := dig_range h.1
    have hge := val_ge r (acc * 10 + (c.toNat - 48))
    have hpos : 1 ≤ 10 ^ r.length := Nat.pow_pos (by decide)
    have hge2 : acc * 10 + (c.toNat - 48) ≤ val (acc * 10 + (c.toNat - 48)) r := by
      have := Nat.mul_le_mul_left (acc * 10 + (c.toNat - 48)) hpos
      omega
    rw [val_cons]
    unfold Lib.parseUint10
    rw [if_pos hc]
    by_cases h1 : 1844674407370955162 ≤ acc
    · rw [if_pos h1]
      exact .inr ⟨rfl, by omega⟩
    · rw [if_neg h1]
      by_cases h2 : 18446744073709551616 ≤ acc * 10 + (c.toNat - 48)
      · rw [if_pos h2]
        exact .inr ⟨rfl, by omega⟩
      · rw [if_neg h2]
        exact parse_val r _ h.2

/-- What strconv makes of a sign and digits. -/
theorem told_digits (l : List UInt8) (hne : bare l ≠ []) (h : (bare l).all dig = true) :
    told (Lib.atoiAll l) = if 4611686018427387903 < val 0 (bare l) then (0, 10) else if l.head? = some 45 then (-(val 0 (bare l) : Int), 0) else ((val 0 (bare l) : Int), 0) := by
  have mag : Lib.parseMag (bare l) = Lib.parseUint10 0 (bare l) := by unfold Lib.parseMag; rw [if_neg hne]
  have hp := parse_val (bare l) 0 h
  rw [← mag] at hp
  cases l with
  | nil => exact absurd rfl hne
  | cons c r =>
    by_cases h45 : c = 45
    · subst h45
      have hb : bare (45 :: r) = r := rfl
      rw [hb] at hp ⊢
      unfold Lib.atoiAll
      simp only
      rw [if_pos (.inr (by rfl))]
      have hh : (45 :: r).head? = some (45 : UInt8) := rfl
      rw [hh]
      rcases hp with hp | ⟨hp, hv⟩
      · rw [hp]
        simp only [if_true]
        rw [if_neg (fun e => e.1 rfl)]
        by_cases h2 : 9223372036854775808 < val 0 r
        · rw [if_pos ⟨rfl, h2⟩, if_pos (by omega)]
          rfl
        · rw [if_neg (fun e => h2 e.2), if_pos (show (45 : UInt8).toNat = 45 from rfl)]
          by_cases h3 : 4611686018427387903 < val 0 r
          · rw [if_pos h3, told_not (by omega)]
          · rw [if_neg h3, told_fits (by omega) (by omega)]
      · rw [hp, if_pos (by omega)]
        rfl
    · have hb : bare (c :: r) = c :: r := by unfold bare; rw [if_neg (by simpa using h45)]
      rw [hb] at hp h ⊢
      have hc : 48 ≤ c.toNat ∧ c.toNat ≤ 57 := by
        rw [List.all_cons, Bool.and_eq_true] at h
        exact dig_range h.1
      unfold Lib.atoiAll
      simp only
      rw [if_neg (by omega), if_neg (show ¬ (c :: r).head? = some 45 by simpa using h45)]
      rcases hp with hp | ⟨hp, hv⟩
      · rw [hp]
        simp only
        by_cases h2 : 9223372036854775808 ≤ val 0 (c :: r)
        · rw [if_pos ⟨by omega, h2⟩, if_pos (by omega)]
          rfl
        · rw [if_neg (fun e => h2 e.2), if_neg (fun e => by omega), if_neg (by omega)]
          by_cases h3 : 4611686018427387903 < val 0 (c :: r)
          · rw [if_pos h3, told_not (by omega)]
          · rw [if_neg h3, told_fits (by omega) (by omega)]
      · rw [hp, if_pos (by omega)]
        rfl

/-! The document's Parse. -/
section
variable (s : ByteArray) (hm : s.size ≤ 140737488351232) (f0 : Nat)
theorem bt_is (i : Nat) (h : i < s.size) : bt s (i : Int) = ((s.data.toList[i]'(by rw [data_length]; exact h)).toNat : Int) := by
  unfold bt
  rw [Int.toNat_natCast, dif_pos h]
  rfl
include hm

theorem scan (h0 : f0 < s.size) : ∀ (e i : Nat), i + e = s.size → ∀ k,
    haulierref01_Parse.l0 (k + e + 1) s (f0 : Int) (i : Int) = if (s.data.toList.drop i).all dig then (if bt s (f0 : Int) = 48 then haulierref01_Parse.j3 k s (f0 : Int) (s.toList != [48]) else haulierref01_Parse.j3 k s (f0 : Int) false) else some (0, 11) := by
  intro e
  induction e with
  | zero =>
    intro i hi k
    rw [List.drop_of_length_le (by rw [data_length]; omega)]
    simp only [haulierref01_Parse.l0]
    rw [if_neg (by omega), if_pos (by omega), if_pos (by omega), if_pos (show List.all [] dig = true from rfl)]
  | succ e ih =>
    intro i hi k
    obtain ⟨K, hK⟩ : ∃ K, K = k + e + 1 := ⟨_, rfl⟩
    have hlt : i < s.data.toList.length := by rw [data_length]; omega
    rw [show k + (e + 1) + 1 = K + 1 from by omega, List.drop_eq_getElem_cons hlt, List.all_cons]
    simp only [haulierref01_Parse.l0]
    rw [if_pos (by omega), if_pos (by omega), bt_is s i (by omega)]
    have hi1 := ih (i + 1) (by omega) k
    generalize s.data.toList[i] = c at *
    by_cases h1 : c.toNat < 48
    · have hd : dig c = false := by unfold dig; rw [decide_eq_false]; omega
      rw [if_pos (by omega), hd, Bool.false_and, if_neg (by decide)]
    · by_cases h2 : 57 < c.toNat
      · have hd : dig c = false := by unfold dig; rw [decide_eq_false]; omega
        rw [if_neg (by omega), if_pos (by omega), hd, Bool.false_and, if_neg (by decide)]
      · have hd : dig c = true := by unfold dig; rw [decide_eq_true]; omega
        rw [if_neg (by omega), if_neg (by omega), hd, Bool.true_and, show wrap64 ((i : Int) + 1) = ((i + 1 : Nat) : Int) from by unfold wrap64; omega, hK]
        exact hi1

theorem worth : ∀ (e i n : Nat), i + e = s.size → (s.data.toList.drop i).all dig = true → (n + 1) * 10 ^ e ≤ 10 ^ 19 → ∀ k, e < k →
    haulierref01_Parse.l1 k s (f0 : Int) (n : Int) (i : Int) = some (if 4611686018427387903 < val n (s.data.toList.drop i) then (0, 10) else if f0 = 1 then (-(val n (s.data.toList.drop i) : Int), 0) else ((val n (s.data.toList.drop i) : Int), 0)) := by
  intro e
  induction e with
  | zero =>
    intro i n hi _ _ k hk
    obtain ⟨k, rfl⟩ : ∃ m, k = m + 1 := ⟨k - 1, by omega⟩
    rw [List.drop_of_length_le (by rw [data_length]; omega)]
    simp only [haulierref01_Parse.l1]
    rw [if_neg (by omega), show val n [] = n from rfl]
    by_cases h1 : 4611686018427387903 < n
    · rw [if_pos (by omega), if_pos h1]
    · have hw1 : wrap64 (n : Int) = (n : Int) := wrap_nat n (by omega)
      have hw2 : wrap64 (-(n : Int)) = -(n : Int) := by unfold wrap64; omega
      rw [if_neg (by omega), if_neg h1, hw1, hw2]
      by_cases h2 : f0 = 1
      · rw [if_pos (by omega), if_pos h2]
      · rw [if_neg (by omega), if_neg h2]
  | succ e ih =>
    intro i n hi hall hn k hk
    obtain ⟨k, rfl⟩ : ∃ m, k = m + 1 := ⟨k - 1, by omega⟩
    have hlt : i < s.data.toList.length := by rw [data_length]; omega
    rw [List.drop_eq_getElem_cons hlt, List.all_cons, Bool.and_eq_true] at hall
    rw [List.drop_eq_getElem_cons hlt, val_cons]
    simp only [haulierref01_Parse.l1]
    rw [if_pos (by omega), if_pos (by omega), bt_is s i (by omega)]
    have hi1 := fun n' => ih (i + 1) n' (by omega) hall.2
    have hc := dig_range hall.1
    generalize s.data.toList[i] = c at *
    have hpow : (n * 10 + (c.toNat - 48) + 1) * 10 ^ e ≤ 10 ^ 19 := by
      have h2 : (n * 10 + (c.toNat - 48) + 1) * 10 ^ e ≤ (n + 1) * 10 * 10 ^ e := Nat.mul_le_mul_right _ (by omega)
      rw [Nat.pow_succ, Nat.mul_comm (10 ^ e) 10, ← Nat.mul_assoc] at hn
      omega
    have hpos : 1 ≤ 10 ^ (e + 1) := Nat.pow_pos (by decide)
    have hsmall : n + 1 ≤ 10 ^ 19 / 10 := by
      rw [Nat.le_div_iff_mul_le (by decide)]
      have h3 : (n + 1) * 10 ≤ (n + 1) * 10 ^ (e + 1) := Nat.mul_le_mul_left _ (by rw [Nat.pow_succ]; have : 1 ≤ 10 ^ e := Nat.pow_pos (by decide); omega)
      omega
    have hw : IntKind.u64.wrap (IntKind.u64.wrap (10 * (n : Int)) + (((c.toNat : Int) - 48) % 256)) = ((n * 10 + (c.toNat - 48) : Nat) : Int) := by
      rw [IntKind.wrap_u64, IntKind.wrap_u64]
      omega
    rw [hw, show wrap64 ((i : Int) + 1) = ((i + 1 : Nat) : Int) from by unfold wrap64; omega]
    exact hi1 _ hpow k (by omega)

theorem ref_parse (k : Nat) (hk : 3 * s.size + 100 < k) : haulierref01_Parse.f k s = some (parseG s.data.toList) := by
  have hlen : s.data.toList.length = s.size := data_length s
  -- what follows the sign
  have main : ∀ (f0 k : Nat), bare s.data.toList = s.data.toList.drop f0 → (f0 = 1 ↔ s.data.toList.head? = some 45) → f0 ≤ 1 → f0 ≤ s.size → 2 * s.size + 50 < k → haulierref01_Parse.j1 k s (f0 : Int) = some (parseG s.data.toList) := by
    intro f0 k hb hneg hle1 hle hk
    obtain ⟨k, rfl⟩ : ∃ m, k = m + 1 := ⟨k - 1, by omega⟩
    simp only [haulierref01_Parse.j1]
    unfold parseG
    by_cases he : f0 = s.size
    · rw [if_pos (by omega), hb, if_pos (List.drop_of_length_le (by omega))]
    · have hlt : f0 < s.size := by omega
      have hne : bare s.data.toList ≠ [] := by
        rw [hb]
        intro e
        have := congrArg List.length e
        rw [List.length_drop] at this
        simp at this
        omega
      obtain ⟨k, rfl⟩ : ∃ m, k = m + 1 + (s.size - f0) + 1 := ⟨k - (s.size - f0) - 2, by omega⟩
      rw [if_neg (by omega), if_neg hne, scan s hm f0 hlt (s.size - f0) f0 (by omega) (k + 1), ← hb]
      have hhead : (bare s.data.toList).head? = some (s.data.toList[f0]'(by omega)) := by
        rw [hb, List.head?_drop, List.getElem?_eq_getElem (by omega)]
      rw [bt_is s f0 hlt, hhead]
      have hl48 : (s.toList != [48]) = !decide (s.data.toList = [48]) := by
        rw [Lib.toList_data]
        unfold bne
        congr 1
        rw [Bool.eq_iff_iff, beq_iff_eq, decide_eq_true_iff]
      have hend : (bare s.data.toList).all dig = true → ¬ (s.data.toList[f0]'(by omega) = 48 ∧ s.data.toList ≠ [48]) → haulierref01_Parse.j3 (k + 1) s (f0 : Int) false = some (told (Lib.atoiAll s.data.toList)) := by
        intro hall hz
        rw [told_digits _ hne hall]
        have hdl : (bare s.data.toList).length = s.size - f0 := by rw [hb, List.length_drop, hlen]
        simp only [haulierref01_Parse.j3]
        rw [if_neg (by decide)]
        by_cases hbig : 19 < s.size - f0
        · rw [if_pos (by unfold wrap64; omega)]
          -- a number of twenty digits, the first not zero
          have hge : 4611686018427387903 < val 0 (bare s.data.toList) := by
            cases hd : bare s.data.toList with
            | nil => exact absurd hd hne
            | cons c r =>
              rw [hd] at hhead hall hdl
              have hc0 : c = s.data.toList[f0]'(by omega) := by simpa using hhead
              rw [List.all_cons, Bool.and_eq_true] at hall
              have hcr := dig_range hall.1
              have hc48 : c.toNat ≠ 48 := by
                intro e48
                have e : c = 48 := UInt8.toNat_inj.1 e48
                refine hz ⟨by rw [← hc0, e], fun e2 => ?_⟩
                have := congrArg List.length e2
                rw [hlen] at this
                simp at this
                omega
              rw [val_cons]
              have hv := val_ge r (0 * 10 + (c.toNat - 48))
              have hp : 10 ^ 19 ≤ 10 ^ r.length := Nat.pow_le_pow_right (by decide) (by rw [List.length_cons] at hdl; omega)
              have h1 : 1 * 10 ^ r.length ≤ (0 * 10 + (c.toNat - 48)) * 10 ^ r.length := Nat.mul_le_mul_right _ (by omega)
              omega
          rw [if_pos hge]
        · rw [if_neg (by unfold wrap64; omega)]
          have hw := worth s hm f0 (s.size - f0) f0 0 (by omega) (by rw [← hb]; exact hall) (by rw [Nat.zero_add, Nat.one_mul]; exact Nat.pow_le_pow_right (by decide) (by omega)) k (by omega)
          rw [← hb] at hw
          refine hw.trans ?_
          congr 2
          by_cases h45 : f0 = 1
          · rw [if_pos h45, if_pos (hneg.1 h45)]
          · rw [if_neg h45, if_neg (fun e => h45 (hneg.2 e))]
      by_cases hall : (bare s.data.toList).all dig = true
      · rw [if_pos hall, if_pos hall]
        by_cases h48 : s.data.toList[f0]'(by omega) = 48
        · rw [if_pos (by rw [h48]; rfl), hl48]
          by_cases hz : s.data.toList = [48]
          · rw [decide_eq_true hz, if_neg (fun e => e.2 hz)]
            exact hend hall (fun e => e.2 hz)
          · rw [decide_eq_false hz, if_pos ⟨by rw [h48], hz⟩]
            simp only [haulierref01_Parse.j3]
            rw [if_pos (by decide)]
        · rw [if_neg (fun e => h48 (UInt8.toNat_inj.1 (by show _ = 48; omega))), if_neg (fun e => h48 (by simpa using e.1))]
          exact hend hall (fun e => h48 e.1)
      · rw [if_neg hall, if_neg hall]
        by_cases hz : some (s.data.toList[f0]'(by omega)) = some (48 : UInt8) ∧ s.data.toList ≠ [48]
        · rw [if_pos hz]
        · rw [if_neg hz]
  unfold haulierref01_Parse.f
  obtain ⟨k, rfl⟩ : ∃ m, k = m + 1 := ⟨k - 1, by omega⟩
  by_cases h0 : s.size = 0
  · rw [if_neg (by omega)]
    have hnil : s.data.toList = [] := List.eq_nil_of_length_eq_zero (by omega)
    simp only [haulierref01_Parse.j0]
    rw [if_neg (by decide)]
    exact main 0 k (by rw [hnil]; rfl) (by rw [hnil]; simp) (by omega) (by omega) (by omega)
  · rw [if_pos (by omega), if_pos (by omega)]
    have hb0 := bt_is s 0 (by omega)
    have hh : s.data.toList.head? = some (s.data.toList[0]'(by omega)) := by rw [List.head?_eq_getElem?, List.getElem?_eq_getElem (by omega)]
    simp only [haulierref01_Parse.j0]
    rw [show (0 : Int) = ((0 : Nat) : Int) from rfl, hb0]
    by_cases h45 : s.data.toList[0]'(by omega) = 45
    · rw [h45, if_pos (by rfl)]
      exact main 1 k (by unfold bare; rw [if_pos (by rw [hh, h45]), List.drop_one]) (by rw [hh, h45]; simp) (by omega) (by omega) (by omega)
    · rw [if_neg (by
        rw [beq_iff_eq]
        intro e
        exact h45 (UInt8.toNat_inj.1 (by show _ = 45; omega)))]
      exact main 0 k (by unfold bare; rw [if_neg (by rw [hh]; simpa using h45), List.drop_zero]) (by rw [hh]; simpa using h45) (by omega) (by omega) (by omega)
end

theorem NumTexts : haulierlaw01_NumTexts.Pure := by
  intro a s ha hs
  obtain ⟨h0, h1⟩ := wf_i64 a ha
  obtain ⟨K, hK⟩ : ∃ K, 3 * s.size + 200 < K := ⟨3 * s.size + 201, by omega⟩
  refine ⟨K, ?_⟩
  obtain ⟨r, hr, he⟩ := ref_text a h0 h1 K (by omega)
  unfold haulierlaw01_NumTexts.f
  rw [awake]
  simp only [Option.bind_some, if_true]
  rw [parse_tells s hs, ref_parse s hs K (by omega), text_tells a h0 h1, hr]
  simp only [Option.bind_some]
  rw [if_pos (by rw [Lib.toList_data, Lib.toList_data, he]), if_pos trivial, beq_self_eq_true]

end Go.Proofs.YtcnhnjajfkgkjaaDoor.Pure
