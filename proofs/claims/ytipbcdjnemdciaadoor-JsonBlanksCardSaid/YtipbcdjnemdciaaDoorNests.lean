/- JsonNests, walked. -/
import Derived.Test.YtipbcdjnemdciaaDoorAwk
import Derived.Test.YtipbcdjnemdciaaDoorPl
set_option linter.unusedVariables false
set_option linter.unusedSimpArgs false
namespace Go.Proofs.YtipbcdjnemdciaaDoor.Js
open Go.RowKit Go.Lib Go.Proofs.YtipbcdjnemdciaaDoor.PSh Go.Proofs.YtipbcdjnemdciaaDoor.Np Go.Proofs.YtipbcdjnemdciaaDoorW.PrintWords Go.Proofs.YtipbcdjnemdciaaDoorW.PrintLast Go.Proofs.YtipbcdjnemdciaaDoorW.PrintMore

theorem wf_i64 (a : Int) (h : (Lit.int .i64 a).wf = true) : -9223372036854775808 ≤ a ∧ a ≤ 9223372036854775807 := by
  have := h
  simp only [Lit.wf, Bool.and_eq_true, decide_eq_true_eq] at this
  exact this
theorem wrapU_nonneg (n : Int) : 0 ≤ IntKind.u64.wrap n := Int.emod_nonneg _ (by decide)
theorem small_nat (n k c : Int) (hk : 0 < k) (hk1 : k ≤ 1000) (hc : 0 ≤ c) (hc1 : c ≤ 10000) : ∃ m : Nat, wrap64 (c + wrap64 ((IntKind.u64.wrap n).tmod k)) = (m : Int) ∧ c ≤ m ∧ m < c + k := by
  have h0 := wrapU_nonneg n
  generalize IntKind.u64.wrap n = a at *
  rw [Int.tmod_eq_emod_of_nonneg h0]
  have h1 := Int.emod_nonneg a (show k ≠ 0 by omega)
  have h2 := Int.emod_lt_of_pos a hk
  generalize a % k = b at *
  refine ⟨(c + b).toNat, ?_, by omega, by omega⟩
  unfold wrap64
  omega
theorem str_app (a b : List UInt8) : str a ++ str b = str (a ++ b) := by
  apply ByteArray.ext
  rw [← Array.toList_inj]
  simp [str]
theorem str_size (a : List UInt8) : (str a).size = a.length := by
  show a.toArray.size = _
  simp

set_option maxHeartbeats 4000000 in
set_option maxRecDepth 100000 in
theorem jsonNests_walk (n : Int) (ob : Bool) (w : World) (hG : Aside0 (Glob w)) (hGN : Aside0 (GlobN w)) (hn : -9223372036854775808 ≤ n ∧ n ≤ 9223372036854775807) :
    Calls Tryd.prog 5 #[.int .i64 n, .bool ob] w fun e w' => e = .returned (.bool true) ∧ Below w.heap.size w w' := by
  obtain ⟨m, hm, h1, h40⟩ := small_nat n 40 1 (by decide) (by decide) (by decide) (by decide)
  go_enter Tryd.func5, Tryd.ntmps5
  go_wp2_with (go_at_call 9; refine (awake_walk w hG hGN).mono ?_; rintro e w2 ⟨rfl, hb2⟩; have hG2 := hG.out.below hb2; have hGN2 := hGN.out.below hb2)
  rw [hm]
  clear hm
  have h40' : m ≤ 40 := by omega
  have h1' : 1 ≤ m := by omega
  clear h40 h1
  go_loopw [5, 6, 7] (fun s e i wr => ∃ j : Nat, j ≤ m ∧ s = .string (str (sI ob m j)) ∧ e = .string (str (eI ob m j)) ∧ i = .int .i64 j ∧ wr = w2) (fun _ _ i _ => m - (RowKit.intOf i).toNat)
  case atStart => exact ⟨0, Nat.zero_le _, rfl, rfl, rfl, rfl⟩
  case round =>
    obtain ⟨j, hj, rfl, rfl, rfl, rfl⟩ := hrel
    have hw1 : wrap64 ((m : Int) - 1) = (m : Int) - 1 := by unfold wrap64; omega
    have hsl := sI_len ob m j
    have hel := eI_len ob m j
    by_cases hlt : j < m
    · have hll : ((j : Int) < (m : Int)) = True := eq_true (by omega)
      have hs1 : (9223372036854775807 < (str (sI ob m j)).size + 1) = False := eq_false (by rw [str_size]; omega)
      have hs5 : (9223372036854775807 < (str (sI ob m j)).size + 5) = False := eq_false (by rw [str_size]; omega)
      have hs2 : (9223372036854775807 < 1 + (str (eI ob m j)).size) = False := eq_false (by rw [str_size]; omega)
      clear hsl hel
      by_cases hob : ob = true ∧ j + 1 < m
      · obtain ⟨rfl, hj1⟩ := hob
        have hlm : ((j : Int) < (m : Int) - 1) = True := eq_true (by omega)
        go_wp2
        go_roundw
        case rel =>
          have ep : piece true (m - j) = [123, 34, 107, 34, 58] := by unfold piece; rw [if_pos ⟨rfl, by omega⟩]
          have ef : fin true (m - j) = 125 := by unfold fin; rw [if_pos ⟨rfl, by omega⟩]
          refine ⟨j + 1, hlt, congrArg Value.string ?_, congrArg Value.string ?_, rfl, trivial⟩
          · rw [sI, ep]; exact str_app _ _
          · rw [eI, ef]; exact str_app [_] _
        case measure => simp [RowKit.intOf]; omega
      · have hlm : ob = false ∨ ((j : Int) < (m : Int) - 1) = False := by
          cases ob
          · exact .inl rfl
          · refine .inr (eq_false fun h => hob ⟨rfl, by omega⟩)
        have ep : piece ob (m - j) = [91] := by unfold piece; rw [if_neg (fun h => hob ⟨h.1, by omega⟩)]
        have ef : fin ob (m - j) = 93 := by unfold fin; rw [if_neg (fun h => hob ⟨h.1, by omega⟩)]
        clear hob
        have er : ∃ j' : Nat, j' ≤ m ∧ Value.string (str (sI ob m j) ++ ⟨#[91]⟩) = .string (str (sI ob m j')) ∧ Value.string (⟨#[93]⟩ ++ str (eI ob m j)) = .string (str (eI ob m j')) ∧ Value.int .i64 ((j : Int) + 1) = .int .i64 j' := by
          refine ⟨j + 1, hlt, congrArg Value.string ?_, congrArg Value.string ?_, rfl⟩
          · rw [sI, ep]; exact str_app _ _
          · rw [eI, ef]; exact str_app [_] _
        clear ep ef
        rcases hlm with rfl | hlm
        · go_wp2
          go_roundw
          case rel =>
            obtain ⟨j', q1, q2, q3, q4⟩ := er
            exact ⟨j', q1, q2, q3, q4, trivial⟩
          case measure => simp [RowKit.intOf]; omega
        · cases ob
          · go_wp2
            go_roundw
            case rel =>
              obtain ⟨j', q1, q2, q3, q4⟩ := er
              exact ⟨j', q1, q2, q3, q4, trivial⟩
            case measure => simp [RowKit.intOf]; omega
          · go_wp2
            go_roundw
            case rel =>
              obtain ⟨j', q1, q2, q3, q4⟩ := er
              exact ⟨j', q1, q2, q3, q4, trivial⟩
            case measure => simp [RowKit.intOf]; omega
    · have hll : ((j : Int) < (m : Int)) = False := eq_false (by omega)
      obtain rfl : j = m := by omega
      rw [sI_all, eI_all]
      rw [sI_all] at hsl
      rw [eI_all] at hel
      have hj := str_app (pre ob j) (suf ob j)
      have hjs : (9223372036854775807 < (str (pre ob j)).size + (str (suf ob j)).size) = False := eq_false (by rw [str_size, str_size]; omega)
      have hXs : (str (pre ob j ++ suf ob j)).size ≤ 400 := by rw [str_size, List.length_append]; omega
      have hok := parse_nest ob j h1'
      have hno := parse_nest_no ob j
      have hpw := fun (cp : Nat) => parse_walk (bytesWorld wr 5 (str (pre ob j ++ suf ob j))) (some ⟨wr.heap.size, 0, none⟩) cp (str (pre ob j ++ suf ob j)) (hG2.below (bytes_below (Below.refl _ _) (Nat.le_refl _) _ _)) (hGN2.below (bytes_below (Below.refl _ _) (Nat.le_refl _) _ _)) (by omega) (bytes_reads _ _ _ (by omega))
      have hbb := bytes_below (Below.refl wr.heap.size wr) (Nat.le_refl _) 5 (str (pre ob j ++ suf ob j))
      rw [show (str (pre ob j ++ suf ob j)).data.toList = pre ob j ++ suf ob j from rfl] at hpw
      have kb := print_bytes (P := Tryd.prog) 9 22 5 Tryd.underlying9 Tryd.underlying22 Tryd.underlying5 (str (pre ob j ++ suf ob j)) wr
      generalize pre ob j ++ suf ob j = X at *
      clear hsl hel
      by_cases h16 : j ≤ 16
      · obtain ⟨t, et, el⟩ := hok h16
        rw [et] at hpw
        have hle : ((j : Int) ≤ 16) = True := eq_true (by omega)
        go_wp2_with (go_at_call 10; refine (hpw _).mono ?_; rintro e w3 ⟨hb3, tv, rfl, hR⟩; obtain ⟨A, c, rfl, hlc, hC⟩ := Kd.R_reads hR; rw [el]; have hB := hb2.trans ((hbb.trans (hb3.mono hbb.size)).mono hb2.size))
        go_ret
        exact ⟨rfl, hB⟩
      · have hle : ((j : Int) ≤ 16) = False := eq_false (by omega)
        rw [hno (by omega) h40'] at hpw
        cases ob
        · rw [show 16 * bw false = 16 from rfl] at hpw
          go_wp2_with (go_at_call 10; refine (hpw _).mono ?_; rintro e w3 ⟨hb3, rfl⟩; have hB := hb2.trans ((hbb.trans (hb3.mono hbb.size)).mono hb2.size))
          go_ret
          exact ⟨rfl, hB⟩
        · rw [show 16 * bw true = 80 from rfl] at hpw
          go_wp2_with (go_at_call 10; refine (hpw _).mono ?_; rintro e w3 ⟨hb3, rfl⟩; have hB := hb2.trans ((hbb.trans (hb3.mono hbb.size)).mono hb2.size))
          go_ret
          exact ⟨rfl, hB⟩

end Go.Proofs.YtipbcdjnemdciaaDoor.Js
