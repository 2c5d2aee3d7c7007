/- Plain lemmas on the bits of numbers: the count of bits by masks is the count of bits; the set that grows by one bit. No program is in sight. -/
import Derived.Laws.BitsAllLaws
namespace Go.Proofs.YtielkcpbojcbhaaDoor.Bits

/-- The sum of the n lowest digits to the base B. -/
def S (B : Nat) : Nat → Nat → Nat
  | _, 0 => 0
  | x, n + 1 => x % B + S B (x / B) n
/-- Every second digit to the base B, n of them, where they stood. -/
def alt (B : Nat) : Nat → Nat → Nat
  | _, 0 => 0
  | x, n + 1 => x % B + B * B * alt B (x / (B * B)) n
def step (B x n : Nat) : Nat := alt B (x / B) n + alt B x n
def mask (w : Nat) : Nat → Nat
  | 0 => 0
  | n + 1 => (2 ^ w - 1) + 2 ^ w * 2 ^ w * mask w n
/-- How many of the n lowest bits are set. -/
def pop (x n : Nat) : Nat := S 2 x n

theorem and_split (a b m M k : Nat) (ha : a < 2 ^ k) (hm : m < 2 ^ k) : (2 ^ k * b + a) &&& (2 ^ k * M + m) = 2 ^ k * (b &&& M) + (a &&& m) := by
  apply Nat.eq_of_testBit_eq
  intro j
  rw [Nat.testBit_and, Nat.testBit_two_pow_mul_add _ ha, Nat.testBit_two_pow_mul_add _ hm, Nat.testBit_two_pow_mul_add _ (Nat.and_lt_two_pow _ hm)]
  split <;> simp [Nat.testBit_and]

theorem and_mask (w : Nat) (n : Nat) : ∀ x, x &&& mask w n = alt (2 ^ w) x n := by
  induction n with
  | zero => intro x; simp [mask, alt]
  | succ n ih =>
    intro x
    have hp : 2 ^ w * 2 ^ w = 2 ^ (w + w) := (Nat.pow_add 2 w w).symm
    have hpos : 0 < 2 ^ w := Nat.two_pow_pos w
    have hle : 2 ^ w ≤ 2 ^ (w + w) := Nat.pow_le_pow_right (by decide) (by omega)
    have hx : x = 2 ^ (w + w) * (x / 2 ^ (w + w)) + x % 2 ^ (w + w) := (Nat.div_add_mod x _).symm
    have h1 : x % 2 ^ (w + w) < 2 ^ (w + w) := Nat.mod_lt _ (Nat.two_pow_pos _)
    show x &&& ((2 ^ w - 1) + 2 ^ w * 2 ^ w * mask w n) = x % 2 ^ w + 2 ^ w * 2 ^ w * alt (2 ^ w) (x / (2 ^ w * 2 ^ w)) n
    rw [hp, Nat.add_comm (2 ^ w - 1)]
    conv => lhs; rw [hx]
    rw [and_split _ _ _ _ _ h1 (by omega), ih, Nat.and_two_pow_sub_one_eq_mod, Nat.mod_mod_of_dvd _ (Nat.pow_dvd_pow 2 (by omega)), Nat.add_comm]

theorem S_cons (B d y n : Nat) (hd : d < B) : S B (d + B * y) (n + 1) = d + S B y n := by
  show (d + B * y) % B + S B ((d + B * y) / B) n = _
  have hB : 0 < B := by omega
  rw [Nat.add_mul_mod_self_left, Nat.mod_eq_of_lt hd, Nat.add_mul_div_left _ _ hB, Nat.div_eq_of_lt hd, Nat.zero_add]

theorem alt_succ (B x n : Nat) : alt B x (n + 1) = x % B + B * B * alt B (x / (B * B)) n := rfl
theorem step_succ (B x n : Nat) : step B x (n + 1) = ((x / B) % B + x % B) + B * B * step B (x / (B * B)) n := by
  unfold step
  rw [alt_succ, alt_succ, Nat.div_div_eq_div_mul, Nat.div_div_eq_div_mul, Nat.mul_comm B (B * B), Nat.mul_add]
  omega

/-- A step adds neighbours: the sum of all digits stays. -/
theorem S_step (B : Nat) (hB : 2 ≤ B) (n : Nat) : ∀ x, S (B * B) (step B x n) n = S B x (2 * n) := by
  induction n with
  | zero => intro x; rfl
  | succ n ih =>
    intro x
    have hl : (x / B) % B + x % B < B * B := by
      have h1 : (x / B) % B < B := Nat.mod_lt _ (by omega)
      have h2 : x % B < B := Nat.mod_lt _ (by omega)
      have h3 : 2 * B ≤ B * B := Nat.mul_le_mul_right B hB
      omega
    rw [step_succ, S_cons _ _ _ _ hl, ih]
    show _ = S B x (2 * n + 1 + 1)
    show _ = x % B + (x / B % B + S B (x / B / B) (2 * n))
    rw [Nat.div_div_eq_div_mul]
    omega

/-- The third step: added first, masked then: no digit of the second step's is greater than 6. -/
theorem S_third (n : Nat) : ∀ x, S 256 (alt 16 (step 4 x (2 * n) / 16 + step 4 x (2 * n)) n) n = S 16 (step 4 x (2 * n)) (2 * n) ∧ (step 4 x (2 * n)) % 16 ≤ 6 := by
  induction n with
  | zero => intro x; exact ⟨rfl, by simp [step, alt]⟩
  | succ n ih =>
    intro x
    have e : step 4 x (2 * (n + 1)) = ((x / 4) % 4 + x % 4) + 16 * (((x / 16 / 4) % 4 + x / 16 % 4) + 16 * step 4 (x / 16 / 16) (2 * n)) := by
      show step 4 x (2 * n + 1 + 1) = _
      rw [step_succ, step_succ]
    obtain ⟨h1, h2⟩ := ih (x / 16 / 16)
    rw [e]
    generalize hz : step 4 (x / 16 / 16) (2 * n) = z at *
    have d0 : (x / 4) % 4 + x % 4 ≤ 6 := by omega
    have d1 : (x / 16 / 4) % 4 + x / 16 % 4 ≤ 6 := by omega
    generalize (x / 4) % 4 + x % 4 = a at *
    generalize (x / 16 / 4) % 4 + x / 16 % 4 = b at *
    clear e hz ih
    constructor
    · have ea : (a + 16 * (b + 16 * z)) / 16 + (a + 16 * (b + 16 * z)) = (a + b) + 16 * (b + z + 16 * z) := by omega
      rw [ea]
      have em : ((a + b) + 16 * (b + z + 16 * z)) % 16 = a + b := by omega
      have ed : ((a + b) + 16 * (b + z + 16 * z)) / (16 * 16) = z / 16 + z := by omega
      rw [alt_succ, em, ed]
      show S 256 (a + b + 256 * alt 16 (z / 16 + z) n) (n + 1) = S 16 (a + 16 * (b + 16 * z)) (2 * n + 1 + 1)
      rw [S_cons 256 _ _ _ (by omega), S_cons 16 _ _ _ (by omega), S_cons 16 _ _ _ (by omega), h1]
      omega
    · omega

theorem last_steps (c0 c1 c2 c3 c4 c5 c6 c7 : Nat) (h0 : c0 ≤ 15) (h1 : c1 ≤ 15) (h2 : c2 ≤ 15) (h3 : c3 ≤ 15) (h4 : c4 ≤ 15) (h5 : c5 ≤ 15) (h6 : c6 ≤ 15) (h7 : c7 ≤ 15) (x y z : Nat)
    (hx : x = c0 + 256 * (c1 + 256 * (c2 + 256 * (c3 + 256 * (c4 + 256 * (c5 + 256 * (c6 + 256 * c7))))))) (hy : y = x + x / 256) (hz : z = y + y / 65536) :
    (z + z / 4294967296) % 128 = c0 + c1 + c2 + c3 + c4 + c5 + c6 + c7 ∧ y < 18446744073709551616 ∧ z < 18446744073709551616 ∧ z + z / 4294967296 < 9223372036854775808 := by
  have e1 : x / 256 = c1 + 256 * (c2 + 256 * (c3 + 256 * (c4 + 256 * (c5 + 256 * (c6 + 256 * c7))))) := by omega
  have e2 : y = (c0 + c1) + 256 * ((c1 + c2) + 256 * ((c2 + c3) + 256 * ((c3 + c4) + 256 * ((c4 + c5) + 256 * ((c5 + c6) + 256 * ((c6 + c7) + 256 * c7)))))) := by omega
  have e3 : y / 65536 = (c2 + c3) + 256 * ((c3 + c4) + 256 * ((c4 + c5) + 256 * ((c5 + c6) + 256 * ((c6 + c7) + 256 * c7)))) := by omega
  have e4 : z = (c0 + c1 + c2 + c3) + 256 * ((c1 + c2 + c3 + c4) + 256 * ((c2 + c3 + c4 + c5) + 256 * ((c3 + c4 + c5 + c6) + 256 * ((c4 + c5 + c6 + c7) + 256 * ((c5 + c6 + c7) + 256 * ((c6 + c7) + 256 * c7)))))) := by omega
  have e5 : z / 4294967296 = (c4 + c5 + c6 + c7) + 256 * ((c5 + c6 + c7) + 256 * ((c6 + c7) + 256 * c7)) := by omega
  clear hx hy hz e1 e3
  refine ⟨?_, ?_, ?_, ?_⟩ <;> omega

theorem alt_eight (y : Nat) : ∃ c0 c1 c2 c3 c4 c5 c6 c7 : Nat, c0 ≤ 15 ∧ c1 ≤ 15 ∧ c2 ≤ 15 ∧ c3 ≤ 15 ∧ c4 ≤ 15 ∧ c5 ≤ 15 ∧ c6 ≤ 15 ∧ c7 ≤ 15 ∧
    alt 16 y 8 = c0 + 256 * (c1 + 256 * (c2 + 256 * (c3 + 256 * (c4 + 256 * (c5 + 256 * (c6 + 256 * c7)))))) ∧ S 256 (alt 16 y 8) 8 = c0 + c1 + c2 + c3 + c4 + c5 + c6 + c7 := by
  have r : ∀ x : Nat, x % 16 ≤ 15 := fun x => by omega
  refine ⟨_, _, _, _, _, _, _, _, r y, r (y / 256), r (y / 256 / 256), r (y / 256 / 256 / 256), r (y / 256 / 256 / 256 / 256), r (y / 256 / 256 / 256 / 256 / 256), r (y / 256 / 256 / 256 / 256 / 256 / 256), r (y / 256 / 256 / 256 / 256 / 256 / 256 / 256), ?_, ?_⟩
  · simp only [alt, Nat.mul_zero, Nat.add_zero]
  · simp only [alt, Nat.mul_zero, Nat.add_zero]
    have l : ∀ x : Nat, x % 16 < 256 := fun x => by omega
    show S 256 (_ + 256 * (_ + 256 * (_ + 256 * (_ + 256 * (_ + 256 * (_ + 256 * (_ + 256 * _))))))) 8 = _
    rw [S_cons 256 _ _ _ (l _), S_cons 256 _ _ _ (l _), S_cons 256 _ _ _ (l _), S_cons 256 _ _ _ (l _), S_cons 256 _ _ _ (l _), S_cons 256 _ _ _ (l _), S_cons 256 _ _ _ (l _)]
    show _ + (_ + (_ + (_ + (_ + (_ + (_ + (_ % 256 + 0))))))) = _
    rw [Nat.mod_eq_of_lt (l _)]
    omega

theorem mask1 : (6148914691236517205 : Nat) = mask 1 32 := by decide +kernel
theorem mask2 : (3689348814741910323 : Nat) = mask 2 16 := by decide +kernel
theorem mask4 : (1085102592571150095 : Nat) = mask 4 8 := by decide +kernel

theorem and1 (x : Nat) : x &&& 6148914691236517205 = alt 2 x 32 := by rw [mask1]; exact and_mask 1 32 x
theorem and2 (x : Nat) : x &&& 3689348814741910323 = alt 4 x 16 := by rw [mask2]; exact and_mask 2 16 x
theorem and4 (x : Nat) : x &&& 1085102592571150095 = alt 16 x 8 := by rw [mask4]; exact and_mask 4 8 x
theorem step1_eq (x : Nat) : (x / 2 &&& 6148914691236517205) + (x &&& 6148914691236517205) = step 2 x 32 := by rw [and1, and1, step]
theorem step2_eq (x : Nat) : (x / 4 &&& 3689348814741910323) + (x &&& 3689348814741910323) = step 4 x 16 := by rw [and2, and2, step]
theorem step1_le (x : Nat) : step 2 x 32 ≤ 12297829382473034410 := by
  have b1 : x / 2 &&& 6148914691236517205 ≤ 6148914691236517205 := Nat.and_le_right
  have b2 : x &&& 6148914691236517205 ≤ 6148914691236517205 := Nat.and_le_right
  rw [← step1_eq]
  omega
theorem step2_le (x : Nat) : step 4 x 16 ≤ 7378697629483820646 := by
  have b1 : x / 4 &&& 3689348814741910323 ≤ 3689348814741910323 := Nat.and_le_right
  have b2 : x &&& 3689348814741910323 ≤ 3689348814741910323 := Nat.and_le_right
  rw [← step2_eq]
  omega

theorem wrap_nat (n : Nat) (h : n < 18446744073709551616) : IntKind.u64.wrap (n : Int) = (n : Int) := by rw [IntKind.wrap_u64]; omega

theorem third_wrap (y : Nat) (h : y ≤ 7378697629483820646) : IntKind.u64.wrap ((y : Int) / 16 + y) = ((y / 16 + y : Nat) : Int) := by
  rw [IntKind.wrap_u64]; omega
theorem third_lt (y : Nat) (h : y ≤ 7378697629483820646) : y / 16 + y < 18446744073709551616 := by omega
theorem more_cast (y d : Nat) : (y : Int) + (y : Int) / (d : Int) = ((y + y / d : Nat) : Int) := by rw [Int.natCast_add, Int.natCast_ediv]
theorem half_cast (y d : Nat) : (y : Int) / (d : Int) = ((y / d : Nat) : Int) := (Int.natCast_ediv y d).symm
theorem div_lt (y d n : Nat) (h : y < n) : y / d < n := Nat.lt_of_le_of_lt (Nat.div_le_self _ _) h
section
attribute [local irreducible] alt step S mask
/-- The whole sum, as Go writes it. -/
theorem count_nat (x : Nat) (hx : x < 18446744073709551616) (x1 x2 x3 x4 x5 : Int)
    (e1 : IntKind.u64.wrap (bits .and .u64 ((x : Int) / 2) 6148914691236517205 + bits .and .u64 (x : Int) 6148914691236517205) = x1)
    (e2 : IntKind.u64.wrap (bits .and .u64 (x1 / 4) 3689348814741910323 + bits .and .u64 x1 3689348814741910323) = x2)
    (e3 : bits .and .u64 (IntKind.u64.wrap (x2 / 16 + x2)) 1085102592571150095 = x3)
    (e4 : IntKind.u64.wrap (x3 + x3 / 256) = x4) (e5 : IntKind.u64.wrap (x4 + x4 / 65536) = x5) :
    ∃ z : Nat, IntKind.u64.wrap (x5 + x5 / 4294967296) = (z : Int) ∧ z < 9223372036854775808 ∧ z % 128 = pop x 64 := by
  have l1 : step 2 x 32 < 18446744073709551616 := Nat.lt_of_le_of_lt (step1_le x) (by decide)
  have a1 : x1 = ((step 2 x 32 : Nat) : Int) := by
    rw [← e1, show ((x : Int) / 2) = ((x / 2 : Nat) : Int) from half_cast x 2, show (6148914691236517205 : Int) = ((6148914691236517205 : Nat) : Int) from rfl, u64_and_nat _ _ (div_lt x 2 _ hx) (by decide), u64_and_nat _ _ hx (by decide), ← Int.natCast_add, step1_eq, wrap_nat _ l1]
  have p1 : S 4 (step 2 x 32) 32 = pop x 64 := S_step 2 (by decide) 32 x
  generalize step 2 x 32 = y1 at *
  subst a1
  have l2 := step2_le y1
  have a2 : x2 = ((step 4 y1 16 : Nat) : Int) := by
    rw [← e2, show ((y1 : Int) / 4) = ((y1 / 4 : Nat) : Int) from half_cast y1 4, show (3689348814741910323 : Int) = ((3689348814741910323 : Nat) : Int) from rfl, u64_and_nat _ _ (div_lt y1 4 _ l1) (by decide), u64_and_nat _ _ l1 (by decide), ← Int.natCast_add, step2_eq, wrap_nat _ (Nat.lt_of_le_of_lt l2 (by decide))]
  have p2 : S 16 (step 4 y1 16) 16 = pop x 64 := (S_step 4 (by decide) 16 y1).trans p1
  have p3 : S 256 (alt 16 (step 4 y1 16 / 16 + step 4 y1 16) 8) 8 = S 16 (step 4 y1 16) 16 := (S_third 8 y1).1
  generalize step 4 y1 16 = y2 at *
  subst a2
  rw [p2] at p3
  have a3 : x3 = ((alt 16 (y2 / 16 + y2) 8 : Nat) : Int) := by
    rw [← e3, third_wrap y2 l2, show (1085102592571150095 : Int) = ((1085102592571150095 : Nat) : Int) from rfl, u64_and_nat _ _ (third_lt y2 l2) (by decide), and4]
  obtain ⟨c0, c1, c2, c3, c4, c5, c6, c7, h0, h1, h2, h3, h4, h5, h6, h7, ha, hs⟩ := alt_eight (y2 / 16 + y2)
  rw [hs] at p3
  generalize alt 16 (y2 / 16 + y2) 8 = y3 at *
  obtain ⟨k1, k2, k3, k4⟩ := last_steps c0 c1 c2 c3 c4 c5 c6 c7 h0 h1 h2 h3 h4 h5 h6 h7 y3 (y3 + y3 / 256) (y3 + y3 / 256 + (y3 + y3 / 256) / 65536) ha rfl rfl
  subst a3
  have a4 : x4 = ((y3 + y3 / 256 : Nat) : Int) := by rw [← e4, show ((y3 : Int) + (y3 : Int) / 256) = ((y3 + y3 / 256 : Nat) : Int) from more_cast y3 256, wrap_nat _ k2]
  clear ha hs
  generalize y3 + y3 / 256 = y4 at *
  subst a4
  have a5 : x5 = ((y4 + y4 / 65536 : Nat) : Int) := by rw [← e5, show ((y4 : Int) + (y4 : Int) / 65536) = ((y4 + y4 / 65536 : Nat) : Int) from more_cast y4 65536, wrap_nat _ k3]
  generalize y4 + y4 / 65536 = y5 at *
  subst a5
  refine ⟨y5 + y5 / 4294967296, ?_, k4, k1.trans p3⟩
  rw [show ((y5 : Int) + (y5 : Int) / 4294967296) = ((y5 + y5 / 4294967296 : Nat) : Int) from more_cast y5 4294967296, wrap_nat _ (Nat.lt_trans k4 (by decide))]
end

/-! The count and the operations on sets. -/
theorem pop_zero (n : Nat) : pop 0 n = 0 := by
  unfold pop
  induction n with
  | zero => rfl
  | succ n ih => simp [S, ih]
theorem or_half (a b : Nat) : (a ||| b) / 2 = a / 2 ||| b / 2 := by
  have h := @Nat.shiftRight_or_distrib 1 a b
  simpa [Nat.shiftRight_eq_div_pow] using h
theorem and_half (a b : Nat) : (a &&& b) / 2 = a / 2 &&& b / 2 := by
  have h := @Nat.shiftRight_and_distrib 1 a b
  simpa [Nat.shiftRight_eq_div_pow] using h
theorem two_low (a b : Nat) : (a ||| b) % 2 + (a &&& b) % 2 = a % 2 + b % 2 := by
  have h1 : (a ||| b) % 2 = a % 2 ||| b % 2 := Nat.or_mod_two_pow (n := 1)
  have h2 : (a &&& b) % 2 = a % 2 &&& b % 2 := Nat.and_mod_two_pow (n := 1)
  rw [h1, h2]
  rcases Nat.mod_two_eq_zero_or_one a with ha | ha <;> rcases Nat.mod_two_eq_zero_or_one b with hb | hb <;> rw [ha, hb] <;> rfl
theorem pop_or_and (n : Nat) : ∀ a b, pop (a ||| b) n + pop (a &&& b) n = pop a n + pop b n := by
  unfold pop
  induction n with
  | zero => intro a b; rfl
  | succ n ih =>
    intro a b
    have h := ih (a / 2) (b / 2)
    have h2 := two_low a b
    simp only [S, or_half, and_half]
    omega
theorem pop_two_pow (n : Nat) : ∀ s, s < n → pop (2 ^ s) n = 1 := by
  induction n with
  | zero => intro s h; omega
  | succ n ih =>
    intro s h
    cases s with
    | zero =>
      show 2 ^ 0 % 2 + S 2 (2 ^ 0 / 2) n = 1
      have := pop_zero n
      unfold pop at this
      simp [this]
    | succ s =>
      show 2 ^ (s + 1) % 2 + S 2 (2 ^ (s + 1) / 2) n = 1
      have e1 : 2 ^ (s + 1) % 2 = 0 := by rw [Nat.pow_succ]; omega
      have e2 : 2 ^ (s + 1) / 2 = 2 ^ s := by rw [Nat.pow_succ]; omega
      rw [e1, e2, Nat.zero_add]
      exact ih s (by omega)
theorem and_two_pow_clear (a s : Nat) (h : a.testBit s = false) : a &&& 2 ^ s = 0 := by
  apply Nat.eq_of_testBit_eq
  intro j
  rw [Nat.testBit_and, Nat.testBit_two_pow, Nat.zero_testBit]
  by_cases e : s = j
  · subst e; simp [h]
  · simp [e]
theorem pop_add (a s n : Nat) (hs : s < n) (h : a.testBit s = false) : pop (a ||| 2 ^ s) n = pop a n + 1 := by
  have := pop_or_and n a (2 ^ s)
  rw [and_two_pow_clear a s h, pop_zero, pop_two_pow n s hs] at this
  omega
attribute [irreducible] pop S alt step mask

end Go.Proofs.YtielkcpbojcbhaaDoor.Bits
