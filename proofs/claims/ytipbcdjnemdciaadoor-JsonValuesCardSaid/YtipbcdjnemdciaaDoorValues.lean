/- JsonValues, walked. -/
import Derived.Test.YtipbcdjnemdciaaDoorNests
import Derived.Test.YtipbcdjnemdciaaDoorPlV
import Derived.Test.YtipbcdjnemdciaaDoorRw
set_option linter.unusedVariables false
set_option linter.unusedSimpArgs false
namespace Go.Proofs.YtipbcdjnemdciaaDoor.Js
open Go.RowKit Go.Lib Go.Proofs.YtipbcdjnemdciaaDoor.PSh Go.Proofs.YtipbcdjnemdciaaDoor.Np Go.Proofs.YtipbcdjnemdciaaDoorW.PrintWords Go.Proofs.YtipbcdjnemdciaaDoorW.PrintLast Go.Proofs.YtipbcdjnemdciaaDoorW.PrintMore

set_option maxHeartbeats 4000000 in
set_option maxRecDepth 100000 in
theorem jsonValues_walk (n : Int) (w : World) (hG : Aside0 (Glob w)) (hGN : Aside0 (GlobN w)) (hn : -9223372036854775808 ≤ n ∧ n ≤ 9223372036854775807) :
    Calls Tryd.prog 6 #[.int .i64 n] w fun e w' => e = .returned (.bool true) ∧ Below w.heap.size w w' := by
  obtain ⟨m, hm, h1, h40⟩ := small_nat n 10 8187 (by decide) (by decide) (by decide) (by decide)
  go_enter Tryd.func6, Tryd.ntmps6
  go_wp2_with (go_at_call 9; refine (awake_walk w hG hGN).mono ?_; rintro e w2 ⟨rfl, hb2⟩; have hG2 := hG.out.below hb2; have hGN2 := hGN.out.below hb2; have hS := Rw.lit w2 w2 w2 (Below.refl _ _) (OthersKept.refl _ _ _) [91] #[.int .u8 91] rfl (by decide))
  rw [hm]
  clear hm
  have h40' : m ≤ 8196 := by omega
  have h1' : 8187 ≤ m := by omega
  clear h40 h1
  go_loopw [3, 4] (fun b i wr => ∃ j : Nat, j ≤ m ∧ i = .int .i64 j ∧ Rw w2 w2 b (sv j) wr) (fun _ i _ => m - (RowKit.intOf i).toNat)
  case atStart => exact ⟨0, Nat.zero_le _, rfl, hS⟩
  case round =>
    clear hS
    obtain ⟨j, hj, rfl, hS⟩ := hrel
    by_cases hlt : j < m
    · have hll : ((j : Int) < (m : Int)) = True := eq_true (by omega)
      have hlen := sv_len j
      by_cases h0 : j = 0
      · subst h0
        go_wp2_with ((with_reducible refine gate_dst (N := 27) rfl ?_); refine app_lit rfl rfl [55] #[.int .u8 55] 1 rfl rfl ?hrun (.tmp 26) (.tmp 27) rfl rfl rfl hS ?hlen ?_; (case hrun => (first | (go_simp; done) | (go_simp; rfl))); (case hlen => omega); intro v3 w3 hA2; clear hS; have hS := hA2; clear hA2)
        go_roundw
        case rel => exact ⟨1, hlt, rfl, hS⟩
        case measure => simp [RowKit.intOf]; omega
      · have hpos : ((j : Int) > 0) = True := eq_true (by omega)
        have hpos2 : (0 < j) = True := eq_true (by omega)
        have hpos3 : decide (0 < j) = true := decide_eq_true (by omega)
        go_wp2_with (first
          | ((with_reducible refine gate_dst (N := 24) rfl ?_); refine app_lit rfl rfl [44] #[.int .u8 44] 1 rfl rfl ?hrun (.tmp 23) (.tmp 24) rfl rfl rfl hS ?hlen ?_; (case hrun => (first | (go_simp; done) | (go_simp; rfl))); (case hlen => omega); intro v2 w3 hA2; clear hS; have hS2 := hA2; clear hA2)
          | ((with_reducible refine gate_dst (N := 27) rfl ?_); refine app_lit rfl rfl [55] #[.int .u8 55] 1 rfl rfl ?hrun (.tmp 26) (.tmp 27) rfl rfl rfl hS2 ?hlen ?_; (case hrun => (first | (go_simp; done) | (go_simp; rfl))); (case hlen => rw [List.length_append, List.length_singleton]; omega); intro v3 w4 hA2; clear hS2; have hS := hA2; clear hA2))
        go_roundw
        case rel =>
          refine ⟨j + 1, hlt, rfl, ?_⟩
          rw [sv, if_pos (by omega)]
          rw [List.append_assoc] at hS
          exact hS
        case measure => simp [RowKit.intOf]; omega
    · have hll : ((j : Int) < (m : Int)) = False := eq_false (by omega)
      obtain rfl : j = m := by omega
      have hlen := sv_len j
      have hX := sv_all j (by omega)
      have hXl := sevens_len j (by omega)
      have hok := parse_sevens_ok j
      have hno := parse_sevens_no j
      rcases Nat.lt_trichotomy j 8192 with hc | hc | hc
      · obtain ⟨t, et, el⟩ := hok (by omega) hc
        have hc1 : ((j : Int) < 8192) = True := eq_true (by omega)
        have ht : ((t.length : Int) == (j : Int) + 1) = true := by rw [el]; simp
        go_wp2_with (first
          | ((with_reducible refine gate_dst (N := 31) rfl ?_); refine app_lit rfl rfl [93] #[.int .u8 93] 1 rfl rfl ?hrun (.tmp 30) (.tmp 31) rfl rfl rfl hS ?hlen ?_; (case hrun => (first | (go_simp; done) | (go_simp; rfl))); (case hlen => omega); intro v3 w3 hA2; clear hS; rw [hX] at hA2; obtain ⟨A3, c3, rfl, hr3⟩ := hA2.reads' (by omega); have hb3 := hA2.2.1; have hpw := parse_walk w3 A3 c3 (str (sevens j)) (hG2.below hb3) (hGN2.below hb3) (by rw [str_size]; omega) hr3; rw [show (str (sevens j)).data.toList = sevens j from rfl, et] at hpw)
          | (go_at_call 10; refine hpw.mono ?_; rintro e w4 ⟨hb4, tv, rfl, hR⟩; obtain ⟨A, c, rfl, hlc, hC⟩ := Kd.R_reads hR; rw [el]; have hB := hb2.trans ((hb3.trans (hb4.mono hb3.size)).mono hb2.size)))
        go_ret
        exact ⟨rfl, hB⟩
      · have et : parse (sevens j) = .no 0 27 := by rw [hc]; exact parse_sevens_eq
        have hc1 : ((j : Int) < 8192) = False := eq_false (by omega)
        have hc2 : ((j : Int) == 8192) = true := beq_iff_eq.2 (by omega)
        have hc3 : ((j : Int) = 8192) = True := eq_true (by omega)
        clear hc hok hno
        go_wp2_with (first
          | ((with_reducible refine gate_dst (N := 31) rfl ?_); refine app_lit rfl rfl [93] #[.int .u8 93] 1 rfl rfl ?hrun (.tmp 30) (.tmp 31) rfl rfl rfl hS ?hlen ?_; (case hrun => (first | (go_simp; done) | (go_simp; rfl))); (case hlen => omega); intro v3 w3 hA2; clear hS; rw [hX] at hA2; obtain ⟨A3, c3, rfl, hr3⟩ := hA2.reads' (by omega); have hb3 := hA2.2.1; have hpw := parse_walk w3 A3 c3 (str (sevens j)) (hG2.below hb3) (hGN2.below hb3) (by rw [str_size]; omega) hr3; rw [show (str (sevens j)).data.toList = sevens j from rfl, et] at hpw)
          | (go_at_call 10; refine hpw.mono ?_; rintro e w4 ⟨hb4, rfl⟩; have hB := hb2.trans ((hb3.trans (hb4.mono hb3.size)).mono hb2.size)))
        go_ret
        exact ⟨rfl, hB⟩
      · have hc1 : ((j : Int) < 8192) = False := eq_false (by omega)
        have hc2 : ((j : Int) == 8192) = false := beq_false_of_ne (by omega)
        have hc3 : ((j : Int) = 8192) = False := eq_false (by omega)
        have et := hno hc (by omega)
        go_wp2_with (first
          | ((with_reducible refine gate_dst (N := 31) rfl ?_); refine app_lit rfl rfl [93] #[.int .u8 93] 1 rfl rfl ?hrun (.tmp 30) (.tmp 31) rfl rfl rfl hS ?hlen ?_; (case hrun => (first | (go_simp; done) | (go_simp; rfl))); (case hlen => omega); intro v3 w3 hA2; clear hS; rw [hX] at hA2; obtain ⟨A3, c3, rfl, hr3⟩ := hA2.reads' (by omega); have hb3 := hA2.2.1; have hpw := parse_walk w3 A3 c3 (str (sevens j)) (hG2.below hb3) (hGN2.below hb3) (by rw [str_size]; omega) hr3; rw [show (str (sevens j)).data.toList = sevens j from rfl, et] at hpw)
          | (go_at_call 10; refine hpw.mono ?_; rintro e w4 ⟨hb4, rfl⟩; have hB := hb2.trans ((hb3.trans (hb4.mono hb3.size)).mono hb2.size)))
        go_ret
        exact ⟨rfl, hB⟩

end Go.Proofs.YtipbcdjnemdciaaDoor.Js
