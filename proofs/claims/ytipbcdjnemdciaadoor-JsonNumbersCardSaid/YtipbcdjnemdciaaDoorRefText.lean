/- The document's 'Text', out of its printed text: the decimal digits of a number. -/
import Derived.Test.YtipbcdjnemdciaaDoorPTxx1
import Derived.Lib.ItoaNum
namespace Go.Proofs.YtipbcdjnemdciaaDoor.Rt
open Go.RowKit Go.Proofs.YtipbcdjnemdciaaDoor.PTx Go.Proofs.YtipbcdjnemdciaaDoorW.PrintWords Go.Proofs.YtipbcdjnemdciaaDoorW.PrintLast Go.Proofs.YtipbcdjnemdciaaDoorW.PrintMore

theorem dec_step (u : Nat) (h : ¬ u < 10) : Lib.decDigits u = Lib.decDigits (u / 10) ++ [UInt8.ofNat (48 + u % 10)] := by
  rw [Lib.decDigits, dif_neg h]
theorem dec_last (u : Nat) (h : u < 10) : Lib.decDigits u = [UInt8.ofNat (48 + u)] := by
  rw [Lib.decDigits, dif_pos h]
theorem least_text : Lib.itoa (-9223372036854775808) = [45, 57, 50, 50, 51, 51, 55, 50, 48, 51, 54, 56, 53, 52, 55, 55, 53, 56, 48, 56] := by
  unfold Lib.itoa
  rw [if_pos (by decide), show (-9223372036854775808 : Int).natAbs = 9223372036854775808 from rfl]
  rw [dec_step 9223372036854775808 (by decide), dec_step (9223372036854775808 / 10) (by decide)]
  simp only [Nat.reduceDiv, Nat.reduceMod]
  iterate 16 (rw [dec_step _ (by decide)]; simp only [Nat.reduceDiv, Nat.reduceMod])
  rw [dec_last _ (by decide)]
  decide
theorem itoa_size (a : Int) (h0 : -9223372036854775808 ≤ a) (h1 : a ≤ 9223372036854775807) : (Lib.itoa a).length ≤ 100 := by
  have hd : ∀ n u : Nat, u < 10 ^ (n + 1) → (Lib.decDigits u).length ≤ n + 1 := by
    intro n
    induction n with
    | zero => intro u hu; rw [dec_last u (by omega)]; simp
    | succ n ih =>
      intro u hu
      by_cases h : u < 10
      · rw [dec_last u h]; simp
      · rw [dec_step u h, List.length_append, List.length_singleton]
        have := ih (u / 10) (by rw [Nat.pow_succ] at hu; omega)
        omega
  unfold Lib.itoa
  split
  · rw [List.length_cons]
    have := hd 19 a.natAbs (by omega)
    omega
  · have := hd 19 a.toNat (by omega)
    omega

theorem wrap_zero : wrap64 ((0 : Nat) : Int) = 0 := by unfold wrap64; omega
theorem digit_wrap (d : Nat) (h : d < 10) : wrap64 (48 + (d : Int)) % 256 = ((48 + d : Nat) : Int) := by unfold wrap64; omega
theorem wrap_nat (d : Nat) (h : d ≤ 9223372036854775807) : wrap64 (d : Int) = (d : Int) := by unfold wrap64; omega
theorem tdiv_ten (u : Nat) : Int.tdiv (u : Int) 10 = ((u / 10 : Nat) : Int) := by rw [Int.tdiv_eq_ediv_of_nonneg (by omega)]; omega
theorem tmod_ten (u : Nat) : Int.tmod (u : Int) 10 = ((u % 10 : Nat) : Int) := by rw [Int.tmod_eq_emod_of_nonneg (by omega)]; omega
theorem one_size (x : Int) (acc : ByteArray) (h : acc.size ≤ 100) : (strOfNums [x]).size + acc.size ≤ 9223372036854775807 := by rw [strOfNums_size, List.length_singleton]; omega
theorem text_loop (n : Nat) : ∀ (u : Nat) (acc : ByteArray), u < 10 ^ (n + 1) → u ≤ 9223372036854775807 → acc.size + n ≤ 100 → ∀ k, n < k →
    ∃ r, haulierref01_Text.l0 k (u : Int) acc = some r ∧ r.data.toList = Lib.decDigits u ++ acc.data.toList := by
  induction n with
  | zero =>
    intro u acc hu _ ha k hk
    obtain ⟨k, rfl⟩ : ∃ m, k = m + 1 := ⟨k - 1, by omega⟩
    have h10 : u < 10 := by omega
    simp only [haulierref01_Text.l0, Option.bind_some]
    rw [tdiv_ten, tmod_ten, Nat.div_eq_of_lt h10, Nat.mod_eq_of_lt h10, digit_wrap u h10, if_pos (one_size _ acc (by omega)), if_pos wrap_zero]
    refine ⟨_, rfl, ?_⟩
    rw [ByteArray.toList_data_append, strOfNums_data, dec_last u h10]
    rfl
  | succ n ih =>
    intro u acc hu hm ha k hk
    obtain ⟨k, rfl⟩ : ∃ m, k = m + 1 := ⟨k - 1, by omega⟩
    simp only [haulierref01_Text.l0, Option.bind_some]
    rw [tdiv_ten, tmod_ten, wrap_nat (u / 10) (by omega), digit_wrap (u % 10) (by omega), if_pos (one_size _ acc (by omega))]
    have hd : (strOfNums [((48 + u % 10 : Nat) : Int)] ++ acc).data.toList = UInt8.ofNat (48 + u % 10) :: acc.data.toList := by
      rw [ByteArray.toList_data_append, strOfNums_data]
      rfl
    by_cases h10 : u < 10
    · rw [if_pos (by omega)]
      refine ⟨_, rfl, ?_⟩
      rw [hd, dec_last u h10, Nat.mod_eq_of_lt h10]
      rfl
    · rw [if_neg (by omega)]
      obtain ⟨r, hr, he⟩ := ih (u / 10) (strOfNums [((48 + u % 10 : Nat) : Int)] ++ acc) (by rw [Nat.pow_succ] at hu; omega) (by omega) (by rw [ByteArray.size_append, strOfNums_size, List.length_singleton]; omega) k (by omega)
      refine ⟨r, hr, ?_⟩
      rw [he, hd, dec_step u h10, List.append_assoc]
      rfl

theorem ref_text (a : Int) (h0 : -9223372036854775808 ≤ a) (h1 : a ≤ 9223372036854775807) (k : Nat) (hk : 30 < k) : ∃ r, haulierref01_Text.f k a = some r ∧ r.data.toList = Lib.itoa a := by
  obtain ⟨k, rfl⟩ : ∃ m, k = m + 1 + 1 := ⟨k - 2, by omega⟩
  have pos : ∀ (x : Int) (k : Nat), 0 ≤ x → x ≤ 9223372036854775807 → 20 < k → ∃ r, haulierref01_Text.l0 k x (⟨#[]⟩ : ByteArray) = some r ∧ r.data.toList = Lib.decDigits x.toNat := by
    intro x k hx hx1 hk
    obtain ⟨u, rfl⟩ := Int.eq_ofNat_of_zero_le hx
    obtain ⟨r, hr, he⟩ := text_loop 18 u ⟨#[]⟩ (by omega) (by omega) (by decide) k (by omega)
    exact ⟨r, hr, by rw [he, Int.toNat_natCast]; exact List.append_nil _⟩
  unfold haulierref01_Text.f
  by_cases hm : a = -9223372036854775808
  · rw [if_pos hm]
    refine ⟨_, rfl, ?_⟩
    rw [hm, least_text]
  · rw [if_neg hm]
    by_cases hn : a < 0
    · rw [if_pos hn, show wrap64 (-a) = -a from by unfold wrap64; omega]
      obtain ⟨r, hr, he⟩ := pos (-a) k (by omega) (by omega) (by omega)
      have hf : haulierref01_Text.f (k + 1) (-a) = some r := by
        unfold haulierref01_Text.f
        rw [if_neg (by omega), if_neg (by omega)]
        exact hr
      rw [hf]
      simp only [Option.bind_some]
      have hs : r.size ≤ 100 := by
        have hl := congrArg List.length he
        have := itoa_size (-a) (by omega) (by omega)
        unfold Lib.itoa at this
        rw [if_neg (by omega)] at this
        rw [data_length] at hl
        omega
      rw [if_pos (by omega)]
      refine ⟨_, rfl, ?_⟩
      rw [ByteArray.toList_data_append, he]
      unfold Lib.itoa
      rw [if_pos hn, show (-a).toNat = a.natAbs from by omega]
      rfl
    · rw [if_neg hn]
      obtain ⟨r, hr, he⟩ := pos a (k + 1) (by omega) (by omega) (by omega)
      refine ⟨r, hr, ?_⟩
      rw [he]
      unfold Lib.itoa
      rw [if_neg hn]

theorem reftext_walk (a : Int) (h0 : -9223372036854775808 ≤ a) (h1 : a ≤ 9223372036854775807) (w : World) (hG : Glob w) :
    Calls Tryd.prog 12 #[.int .i64 a] w fun e w' => e = .returned (.string ⟨(Lib.itoa a).toArray⟩) ∧ Below w.heap.size w w' := by
  obtain ⟨r, hr, he⟩ := ref_text a h0 h1 31 (by omega)
  have e : r = ⟨(Lib.itoa a).toArray⟩ := by rw [← he]
  rw [← e]
  exact haulierref01_Text.calls 31 a r w ⟨hG⟩ hr

end Go.Proofs.YtipbcdjnemdciaaDoor.Rt
