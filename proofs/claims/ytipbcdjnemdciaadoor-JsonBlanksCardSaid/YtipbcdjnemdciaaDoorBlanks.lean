/- JsonBlanks, walked. -/
import Derived.Test.YtipbcdjnemdciaaDoorPlT
import Derived.Test.YtipbcdjnemdciaaDoorBytesOf
import Derived.Test.YtipbcdjnemdciaaDoorNests
import Derived.Test.YtipbcdjnemdciaaDoorSameJ
set_option linter.unusedVariables false
set_option linter.unusedSimpArgs false
namespace Go.Proofs.YtipbcdjnemdciaaDoor.Js
open Go.RowKit Go.Lib Go.Proofs.YtipbcdjnemdciaaDoor.PSh Go.Proofs.YtipbcdjnemdciaaDoor.Np Go.Proofs.YtipbcdjnemdciaaDoorW.PrintWords Go.Proofs.YtipbcdjnemdciaaDoorW.PrintLast Go.Proofs.YtipbcdjnemdciaaDoorW.PrintMore

/-- The blanks ahead. -/
def bl1 (i : Nat) : UInt8 := if i % 4 = 0 then 32 else if i % 4 = 1 then 9 else if i % 4 = 2 then 10 else 13
def bls : Nat → List UInt8
  | 0 => []
  | i + 1 => bls i ++ [bl1 i]
theorem bls_len : ∀ i, (bls i).length = i
  | 0 => rfl
  | i + 1 => by rw [bls, List.length_append, bls_len i]; rfl
theorem bls_blank : ∀ i, (bls i).all blank = true
  | 0 => rfl
  | i + 1 => by
    rw [bls, List.all_append, bls_blank i]
    unfold bl1
    split
    · rfl
    · split
      · rfl
      · split <;> rfl
theorem small_natb (n k : Int) (hk : 0 < k) (hk1 : k ≤ 10000000) : ∃ m : Nat, wrap64 ((IntKind.u64.wrap n).tmod k) = (m : Int) ∧ m < k := by
  have h0 := wrapU_nonneg n
  generalize IntKind.u64.wrap n = a at *
  rw [Int.tmod_eq_emod_of_nonneg h0]
  have h1 := Int.emod_nonneg a (show k ≠ 0 by omega)
  have h2 := Int.emod_lt_of_pos a hk
  generalize a % k = b at *
  refine ⟨b.toNat, ?_, by omega⟩
  unfold wrap64
  omega

set_option maxHeartbeats 4000000 in
set_option maxRecDepth 100000 in
theorem same_empty (A B : Option Addr) (ca cb : Nat) (w : World) : Calls Tryd.prog 11 #[.slice A 0 ca, .slice B 0 cb] w fun e w' => e = .returned (.bool true) ∧ Below w.heap.size w w' := by
  go_enter Tryd.func11, Tryd.ntmps11
  go_wp2
  go_loopw [5] (fun i wr => i = .int .i64 0 ∧ wr = w) (fun i _ => 0)
  case atStart => exact ⟨rfl, rfl⟩
  case round =>
    obtain ⟨rfl, rfl⟩ := hrel
    go_wp2
    go_ret
    exact ⟨rfl, Below.refl _ _⟩

set_option maxHeartbeats 4000000 in
set_option maxRecDepth 100000 in
theorem blanks_long (A : Option Addr) (c : Nat) (xs : List UInt8) (n : Int) (w : World) (hG : Aside0 (Glob w)) (hGN : Aside0 (GlobN w)) (hs : 60000 < xs.length) :
    Calls Tryd.prog 3 #[.slice A xs.length c, .int .i64 n] w fun e w' => e = .returned (.bool true) ∧ Below w.heap.size w w' := by
  have c2 : ((60000 : Int) < (xs.length : Int)) = True := eq_true (by omega)
  have c3 : ((xs.length : Int) > 60000) = True := eq_true (by omega)
  go_enter Tryd.func3, Tryd.ntmps3
  go_wp2_with (go_at_call 9; refine (awake_walk w hG hGN).mono ?_; rintro e w2 ⟨rfl, hb2⟩)
  go_ret
  exact ⟨rfl, hb2⟩

set_option maxHeartbeats 4000000 in
set_option maxRecDepth 100000 in
theorem blanks_some (ad : Addr) (c : Nat) (xs : List UInt8) (n : Int) (w : World) (hG : Aside0 (Glob w)) (hGN : Aside0 (GlobN w)) (hA : Gvn w (some ad) xs c) (hs : xs.length ≤ 60000) :
    Calls Tryd.prog 3 #[.slice (some ad) xs.length c, .int .i64 n] w fun e w' => e = .returned (.bool true) ∧ Below w.heap.size w w' := by
  obtain ⟨m, hm, hm50⟩ := small_natb n 50 (by decide) (by decide)
  have c2 : ((60000 : Int) < (xs.length : Int)) = False := eq_false (by omega)
  have c3 : ((xs.length : Int) > 60000) = False := eq_false (by omega)
  go_enter Tryd.func3, Tryd.ntmps3
  go_wp2_with (go_at_call 9; refine (awake_walk w hG hGN).mono ?_; rintro e w2 ⟨rfl, hb2⟩; have hG2 := hG.out.below hb2; have hGN2 := hGN.out.below hb2)
  rw [hm]
  clear hm
  have hm' : m < 50 := by omega
  go_loopw [5, 6] (fun v i wr => ∃ j : Nat, j ≤ m ∧ i = .int .i64 j ∧ Rw w2 w2 v (bls j) wr) (fun _ i _ => m - (RowKit.intOf i).toNat)
  case atStart => exact ⟨0, Nat.zero_le _, rfl, Rw.nil w2⟩
  case round =>
    obtain ⟨j, hj, rfl, hS⟩ := hrel
    by_cases hlt : j < m
    · have hll : ((j : Int) < (m : Int)) = True := eq_true (by omega)
      have hlen := bls_len j
      have ht : (j : Int).tmod 4 = ((j % 4 : Nat) : Int) := by rw [Int.tmod_eq_emod_of_nonneg (by omega)]; omega
      have hr4 : j % 4 = 0 ∨ j % 4 = 1 ∨ j % 4 = 2 ∨ j % 4 = 3 := by omega
      have hb1 : bl1 j = if j % 4 = 0 then 32 else if j % 4 = 1 then 9 else if j % 4 = 2 then 10 else 13 := rfl
      rcases hr4 with h4 | h4 | h4 | h4
      · rw [h4] at ht hb1
        replace ht : (j : Int).tmod 4 = 0 := ht
        replace hb1 : bl1 j = 32 := hb1
        go_wp2_with ((with_reducible refine gate_dst (N := 31) rfl ?_); refine app_lit rfl rfl [32] #[.int .u8 32] 1 rfl rfl ?hrun (.tmp 27) (.tmp 31) rfl rfl rfl hS ?hlen ?_; (case hrun => (first | (go_simp; done) | (go_simp; rfl))); (case hlen => omega); intro v3 w3 hA2; clear hS; have hS := hA2; clear hA2)
        go_roundw
        case rel => exact ⟨j + 1, hlt, rfl, by rw [bls, hb1]; exact hS⟩
        case measure => simp [RowKit.intOf]; omega
      · rw [h4] at ht hb1
        replace ht : (j : Int).tmod 4 = 1 := ht
        replace hb1 : bl1 j = 9 := hb1
        go_wp2_with ((with_reducible refine gate_dst (N := 31) rfl ?_); refine app_lit rfl rfl [9] #[.int .u8 9] 1 rfl rfl ?hrun (.tmp 27) (.tmp 31) rfl rfl rfl hS ?hlen ?_; (case hrun => (first | (go_simp; done) | (go_simp; rfl))); (case hlen => omega); intro v3 w3 hA2; clear hS; have hS := hA2; clear hA2)
        go_roundw
        case rel => exact ⟨j + 1, hlt, rfl, by rw [bls, hb1]; exact hS⟩
        case measure => simp [RowKit.intOf]; omega
      · rw [h4] at ht hb1
        replace ht : (j : Int).tmod 4 = 2 := ht
        replace hb1 : bl1 j = 10 := hb1
        go_wp2_with ((with_reducible refine gate_dst (N := 31) rfl ?_); refine app_lit rfl rfl [10] #[.int .u8 10] 1 rfl rfl ?hrun (.tmp 27) (.tmp 31) rfl rfl rfl hS ?hlen ?_; (case hrun => (first | (go_simp; done) | (go_simp; rfl))); (case hlen => omega); intro v3 w3 hA2; clear hS; have hS := hA2; clear hA2)
        go_roundw
        case rel => exact ⟨j + 1, hlt, rfl, by rw [bls, hb1]; exact hS⟩
        case measure => simp [RowKit.intOf]; omega
      · rw [h4] at ht hb1
        replace ht : (j : Int).tmod 4 = 3 := ht
        replace hb1 : bl1 j = 13 := hb1
        go_wp2_with ((with_reducible refine gate_dst (N := 31) rfl ?_); refine app_lit rfl rfl [13] #[.int .u8 13] 1 rfl rfl ?hrun (.tmp 27) (.tmp 31) rfl rfl rfl hS ?hlen ?_; (case hrun => (first | (go_simp; done) | (go_simp; rfl))); (case hlen => omega); intro v3 w3 hA2; clear hS; have hS := hA2; clear hA2)
        go_roundw
        case rel => exact ⟨j + 1, hlt, rfl, by rw [bls, hb1]; exact hS⟩
        case measure => simp [RowKit.intOf]; omega
    · have hll : ((j : Int) < (m : Int)) = False := eq_false (by omega)
      obtain rfl : j = m := by omega
      have hlen := bls_len j
      have hbl := parse_blanks (bls j) xs (bls_blank j) (by omega)
      rw [hlen] at hbl
      have hwl : (bls j ++ xs).length = j + xs.length := by rw [List.length_append, hlen]
      rcases parse_shape xs with ⟨t, hp⟩ | ⟨p, e0, hp, he, hq⟩
      · rw [hp] at hbl
        replace hbl : parse (bls j ++ xs) = .ok [] 0 t := hbl
        rcases t with _ | ⟨t0, tr⟩
        · go_wp2_with (first
            | (at_builtin; refine app_law rfl (.tmp 33) (.tmp 34) rfl hS xs ad xs.length c rfl rfl rfl ((hA.below hb2).below hS.2.1).cells (by omega) ?_; intro v3 w3 hR3 hg3 hat3; clear hg3 hat3; have hb3 := hR3.2.1; have hA3 := (hA.below hb2).below hb3; have hS4 := Rw.lit w3 w3 w3 (Below.refl _ _) (OthersKept.refl _ _ _) [] #[] rfl (by decide))
            | (at_builtin; refine app_law rfl (.tmp 37) (.tmp 38) rfl hS4 xs ad xs.length c rfl rfl rfl (hA3.below (below_alloc (Below.refl _ _) _)).cells (by rw [List.length_nil]; omega) ?_; intro v4 w4 hR4 hg4 hat4; clear hg4 hat4; rw [List.nil_append] at hR4; have hb4 := hR4.2.1; obtain ⟨A4, c4, rfl, hr4⟩ := hR4.reads' (by omega); have hB4 := hb3.trans (hb4.mono hb3.size); have hpw := parse_walk w4 A4 c4 (str xs) (hG2.below hB4) (hGN2.below hB4) (by rw [str_size]; omega) hr4; rw [show (str xs).data.toList = xs from rfl, hp] at hpw)
            | (go_at_call 10; (with_reducible refine hpw.mono ?_); rintro e w5 ⟨hb5, tv, rfl, hR5⟩; obtain ⟨A5, c5, rfl, -, -⟩ := Kd.R_reads hR5; clear hR5; rw [show ([] : List S39).length = 0 from rfl])
            | (go_at_call 10; obtain ⟨A6, c6, rfl, hr6⟩ := (hR3.keep (hb4.trans (hb5.mono hb4.size))).reads' (by omega); have hB5 := hB4.trans (hb5.mono hB4.size); have hpw2 := parse_walk w5 A6 c6 (str (bls j ++ xs)) (hG2.below hB5) (hGN2.below hB5) (by rw [str_size]; omega) hr6; rw [show (str (bls j ++ xs)).data.toList = bls j ++ xs from rfl, hbl] at hpw2; refine hpw2.mono ?_; rintro e w6 ⟨hb6, tv2, rfl, hR6⟩; obtain ⟨A7, c7, rfl, -, -⟩ := Kd.R_reads hR6; clear hR6; rw [show ([] : List S39).length = 0 from rfl]; have hB6 := hB5.trans (hb6.mono hB5.size))
            | (go_at_call 11; refine (same_empty _ _ _ _ _).mono ?_; rintro e w7 ⟨rfl, hb7⟩; have hB := hb2.trans ((hB6.trans (hb7.mono hB6.size)).mono hb2.size)))
          go_ret
          exact ⟨rfl, hB⟩
        · go_wp2_with (first
            | (at_builtin; refine app_law rfl (.tmp 33) (.tmp 34) rfl hS xs ad xs.length c rfl rfl rfl ((hA.below hb2).below hS.2.1).cells (by omega) ?_; intro v3 w3 hR3 hg3 hat3; clear hg3 hat3; have hb3 := hR3.2.1; have hA3 := (hA.below hb2).below hb3; have hS4 := Rw.lit w3 w3 w3 (Below.refl _ _) (OthersKept.refl _ _ _) [] #[] rfl (by decide))
            | (at_builtin; refine app_law rfl (.tmp 37) (.tmp 38) rfl hS4 xs ad xs.length c rfl rfl rfl (hA3.below (below_alloc (Below.refl _ _) _)).cells (by rw [List.length_nil]; omega) ?_; intro v4 w4 hR4 hg4 hat4; clear hg4 hat4; rw [List.nil_append] at hR4; have hb4 := hR4.2.1; obtain ⟨A4, c4, rfl, hr4⟩ := hR4.reads' (by omega); have hB4 := hb3.trans (hb4.mono hb3.size); have hpw := parse_walk w4 A4 c4 (str xs) (hG2.below hB4) (hGN2.below hB4) (by rw [str_size]; omega) hr4; rw [show (str xs).data.toList = xs from rfl, hp] at hpw)
            | (go_at_call 10; (with_reducible refine hpw.mono ?_); rintro e w5 ⟨hb5, tv, rfl, hR5⟩; obtain ⟨g1, c1, rfl, -, -, -⟩ := Kd.R_form hR5 (Nat.zero_lt_succ _); have hC5 := (Kd.R_reads' hR5).2.2; clear hR5)
            | (go_at_call 10; obtain ⟨A6, c6, rfl, hr6⟩ := (hR3.keep (hb4.trans (hb5.mono hb4.size))).reads' (by omega); have hB5 := hB4.trans (hb5.mono hB4.size); have hpw2 := parse_walk w5 A6 c6 (str (bls j ++ xs)) (hG2.below hB5) (hGN2.below hB5) (by rw [str_size]; omega) hr6; rw [show (str (bls j ++ xs)).data.toList = bls j ++ xs from rfl, hbl] at hpw2; refine hpw2.mono ?_; rintro e w6 ⟨hb6, tv2, rfl, hR6⟩; obtain ⟨g2, c2, rfl, -, -, -⟩ := Kd.R_form hR6 (Nat.zero_lt_succ _); have hC6 := (Kd.R_reads' hR6).2.2; clear hR6; have hC5' := Kd.C_below hC5 hb6; have hB6 := hB5.trans (hb6.mono hB5.size))
            | (go_at_call 11; refine (same_walk (t0 :: tr) g1 g2 _ _ _ hC5' hC6).mono ?_; rintro e w7 ⟨rfl, hb7⟩; have hB := hb2.trans ((hB6.trans (hb7.mono hB6.size)).mono hb2.size)))
          go_ret
          exact ⟨rfl, hB⟩
      · rw [hp] at hbl
        replace hbl : parse (bls j ++ xs) = .no (p + j) e0 := hbl
        have he1 : (e0 == 0) = false := beq_false_of_ne he
        have he2 : (e0 != 0) = true := bne_iff_ne.2 he
        have he3 : (e0 = 0) = False := eq_false he
        go_wp2_with (first
          | (at_builtin; refine app_law rfl (.tmp 33) (.tmp 34) rfl hS xs ad xs.length c rfl rfl rfl ((hA.below hb2).below hS.2.1).cells (by omega) ?_; intro v3 w3 hR3 hg3 hat3; clear hg3 hat3; have hb3 := hR3.2.1; have hA3 := (hA.below hb2).below hb3; have hS4 := Rw.lit w3 w3 w3 (Below.refl _ _) (OthersKept.refl _ _ _) [] #[] rfl (by decide))
          | (at_builtin; refine app_law rfl (.tmp 37) (.tmp 38) rfl hS4 xs ad xs.length c rfl rfl rfl (hA3.below (below_alloc (Below.refl _ _) _)).cells (by rw [List.length_nil]; omega) ?_; intro v4 w4 hR4 hg4 hat4; clear hg4 hat4; rw [List.nil_append] at hR4; have hb4 := hR4.2.1; obtain ⟨A4, c4, rfl, hr4⟩ := hR4.reads' (by omega); have hB4 := hb3.trans (hb4.mono hb3.size); have hpw := parse_walk w4 A4 c4 (str xs) (hG2.below hB4) (hGN2.below hB4) (by rw [str_size]; omega) hr4; rw [show (str xs).data.toList = xs from rfl, hp] at hpw)
          | (go_at_call 10; (with_reducible refine hpw.mono ?_); rintro e w5 ⟨hb5, rfl⟩)
          | (go_at_call 10; obtain ⟨A6, c6, rfl, hr6⟩ := (hR3.keep (hb4.trans (hb5.mono hb4.size))).reads' (by omega); have hB5 := hB4.trans (hb5.mono hB4.size); have hpw2 := parse_walk w5 A6 c6 (str (bls j ++ xs)) (hG2.below hB5) (hGN2.below hB5) (by rw [str_size]; omega) hr6; rw [show (str (bls j ++ xs)).data.toList = bls j ++ xs from rfl, hbl] at hpw2; refine hpw2.mono ?_; rintro e w6 ⟨hb6, rfl⟩; have hB6 := hB5.trans (hb6.mono hB5.size))
          | (go_at_call 11; refine (same_empty _ _ _ _ _).mono ?_; rintro e w7 ⟨rfl, hb7⟩; have hB := hb2.trans ((hB6.trans (hb7.mono hB6.size)).mono hb2.size)))
        go_ret
        exact ⟨rfl, hB⟩

section
variable {w0 a0 w : World} {v : Value} {out : List UInt8} {ops : Array Oper} {rest : List Oper} {o : Oper} {a : Act} {Q : Exit → Act → World → Prop}
/-- append(out, nil...). -/
theorem app_none (hgd : o.guard = none) (s x : Operand) (ho : o.op = .call { callee := .builtin .append, args := #[s, x], argTypes := #[22, 22] })
    (hR : Rw w0 a0 v out w) (hs : a.eval s = v) (hx : a.eval x = .slice none 0 0) (h : wpList Tryd.prog ops Q rest (a.put o.dst v) w) : wpList Tryd.prog ops Q (o :: rest) a w := by
  obtain ⟨i0, hi, hz0, hz1, hz2⟩ := info_parts infoByte
  have hr := run_append_owned_none (P := Tryd.prog) w w0.heap.size 22 o.type 5 i0 1 Tryd.underlying22 hi v out.length (byteCells out) hR.1
  refine Kd.event_run hgd (v := v) (w1 := w) ?_ h
  unfold execOp
  simp only [ho, resolve, invoke, builtin, Sem.run_bind, Sem.run_pure, Result.andThen_ok, List.map_toArray, List.map_cons, List.map_nil, hs, hx, hr]
end

set_option maxHeartbeats 4000000 in
set_option maxRecDepth 100000 in
theorem blanks_none (n : Int) (w : World) (hG : Aside0 (Glob w)) (hGN : Aside0 (GlobN w)) :
    Calls Tryd.prog 3 #[.slice none 0 0, .int .i64 n] w fun e w' => e = .returned (.bool true) ∧ Below w.heap.size w w' := by
  obtain ⟨m, hm, hm50⟩ := small_natb n 50 (by decide) (by decide)
  go_enter Tryd.func3, Tryd.ntmps3
  go_wp2_with (go_at_call 9; refine (awake_walk w hG hGN).mono ?_; rintro e w2 ⟨rfl, hb2⟩; have hG2 := hG.out.below hb2; have hGN2 := hGN.out.below hb2)
  rw [hm]
  clear hm
  have hm' : m < 50 := by omega
  go_loopw [5, 6] (fun v i wr => ∃ j : Nat, j ≤ m ∧ i = .int .i64 j ∧ Rw w2 w2 v (bls j) wr) (fun _ i _ => m - (RowKit.intOf i).toNat)
  case atStart => exact ⟨0, Nat.zero_le _, rfl, Rw.nil w2⟩
  case round =>
    obtain ⟨j, hj, rfl, hS⟩ := hrel
    by_cases hlt : j < m
    · have hll : ((j : Int) < (m : Int)) = True := eq_true (by omega)
      have hlen := bls_len j
      have ht : (j : Int).tmod 4 = ((j % 4 : Nat) : Int) := by rw [Int.tmod_eq_emod_of_nonneg (by omega)]; omega
      have hr4 : j % 4 = 0 ∨ j % 4 = 1 ∨ j % 4 = 2 ∨ j % 4 = 3 := by omega
      have hb1 : bl1 j = if j % 4 = 0 then 32 else if j % 4 = 1 then 9 else if j % 4 = 2 then 10 else 13 := rfl
      rcases hr4 with h4 | h4 | h4 | h4
      · rw [h4] at ht hb1
        replace ht : (j : Int).tmod 4 = 0 := ht
        replace hb1 : bl1 j = 32 := hb1
        go_wp2_with ((with_reducible refine gate_dst (N := 31) rfl ?_); refine app_lit rfl rfl [32] #[.int .u8 32] 1 rfl rfl ?hrun (.tmp 27) (.tmp 31) rfl rfl rfl hS ?hlen ?_; (case hrun => (first | (go_simp; done) | (go_simp; rfl))); (case hlen => omega); intro v3 w3 hA2; clear hS; have hS := hA2; clear hA2)
        go_roundw
        case rel => exact ⟨j + 1, hlt, rfl, by rw [bls, hb1]; exact hS⟩
        case measure => simp [RowKit.intOf]; omega
      · rw [h4] at ht hb1
        replace ht : (j : Int).tmod 4 = 1 := ht
        replace hb1 : bl1 j = 9 := hb1
        go_wp2_with ((with_reducible refine gate_dst (N := 31) rfl ?_); refine app_lit rfl rfl [9] #[.int .u8 9] 1 rfl rfl ?hrun (.tmp 27) (.tmp 31) rfl rfl rfl hS ?hlen ?_; (case hrun => (first | (go_simp; done) | (go_simp; rfl))); (case hlen => omega); intro v3 w3 hA2; clear hS; have hS := hA2; clear hA2)
        go_roundw
        case rel => exact ⟨j + 1, hlt, rfl, by rw [bls, hb1]; exact hS⟩
        case measure => simp [RowKit.intOf]; omega
      · rw [h4] at ht hb1
        replace ht : (j : Int).tmod 4 = 2 := ht
        replace hb1 : bl1 j = 10 := hb1
        go_wp2_with ((with_reducible refine gate_dst (N := 31) rfl ?_); refine app_lit rfl rfl [10] #[.int .u8 10] 1 rfl rfl ?hrun (.tmp 27) (.tmp 31) rfl rfl rfl hS ?hlen ?_; (case hrun => (first | (go_simp; done) | (go_simp; rfl))); (case hlen => omega); intro v3 w3 hA2; clear hS; have hS := hA2; clear hA2)
        go_roundw
        case rel => exact ⟨j + 1, hlt, rfl, by rw [bls, hb1]; exact hS⟩
        case measure => simp [RowKit.intOf]; omega
      · rw [h4] at ht hb1
        replace ht : (j : Int).tmod 4 = 3 := ht
        replace hb1 : bl1 j = 13 := hb1
        go_wp2_with ((with_reducible refine gate_dst (N := 31) rfl ?_); refine app_lit rfl rfl [13] #[.int .u8 13] 1 rfl rfl ?hrun (.tmp 27) (.tmp 31) rfl rfl rfl hS ?hlen ?_; (case hrun => (first | (go_simp; done) | (go_simp; rfl))); (case hlen => omega); intro v3 w3 hA2; clear hS; have hS := hA2; clear hA2)
        go_roundw
        case rel => exact ⟨j + 1, hlt, rfl, by rw [bls, hb1]; exact hS⟩
        case measure => simp [RowKit.intOf]; omega
    · have hll : ((j : Int) < (m : Int)) = False := eq_false (by omega)
      obtain rfl : j = m := by omega
      have hlen := bls_len j
      have hp : parse [] = .no 0 21 := by kernel_rfl
      have hbl := parse_blanks (bls j) [] (bls_blank j) (by rw [hlen]; show j + 0 ≤ 65536; omega)
      rw [hlen, hp, List.append_nil] at hbl
      replace hbl : parse (bls j) = .no (0 + j) 21 := hbl
      rw [Nat.zero_add] at hbl
      have hr0 : ∀ W : World, ReadsInt W .u8 none 0 (bytesOf (str [])) := fun W => ⟨rfl, by decide, fun h => absurd h (Nat.lt_irrefl 0)⟩
      go_wp2_with (first
        | (at_builtin; refine app_none rfl (.tmp 33) (.tmp 34) rfl hS rfl rfl ?_; have hb3 := hS.2.1; have hS4 := Rw.lit wr wr wr (Below.refl _ _) (OthersKept.refl _ _ _) [] #[] rfl (by decide))
        | (at_builtin; refine app_none rfl (.tmp 37) (.tmp 38) rfl hS4 rfl rfl ?_; have hb4 := hS4.2.1; obtain ⟨A4, c4, e4, hr4⟩ := hS4.reads' (by decide); have hB4 := hb3.trans (hb4.mono hb3.size); have hpw := parse_walk _ (some ⟨wr.heap.size, 0, none⟩) 0 (str []) (hG2.below hB4) (hGN2.below hB4) (by decide) (show ReadsInt _ .u8 _ 0 (bytesOf (str [])) from ⟨rfl, by decide, fun h => absurd h (Nat.lt_irrefl 0)⟩); rw [show (str []).data.toList = [] from rfl, hp, show (str []).size = 0 from rfl] at hpw; clear e4)
        | (go_at_call 10; (with_reducible refine hpw.mono ?_); rintro e w5 ⟨hb5, rfl⟩; have hS5 := hS.keep (hb4.trans (hb5.mono hb4.size)))
        | (go_at_call 10; obtain ⟨A6, c6, rfl, hr6⟩ := hS5.reads' (by omega); have hB5 := hB4.trans (hb5.mono hB4.size); have hpw2 := parse_walk w5 A6 c6 (str (bls j)) (hG2.below hB5) (hGN2.below hB5) (by rw [str_size]; omega) hr6; rw [show (str (bls j)).data.toList = bls j from rfl, hbl] at hpw2; refine hpw2.mono ?_; rintro e w6 ⟨hb6, rfl⟩; have hB6 := hB5.trans (hb6.mono hB5.size))
        | (go_at_call 11; refine (same_empty _ _ _ _ _).mono ?_; rintro e w7 ⟨rfl, hb7⟩; have hB := hb2.trans ((hB6.trans (hb7.mono hB6.size)).mono hb2.size)))
      go_ret
      exact ⟨rfl, hB⟩

theorem jsonBlanks_walk (A : Option Addr) (c : Nat) (xs : List UInt8) (n : Int) (w : World) (hG : Aside0 (Glob w)) (hGN : Aside0 (GlobN w)) (hA : Gvn w A xs c) (hn : -9223372036854775808 ≤ n ∧ n ≤ 9223372036854775807) :
    Calls Tryd.prog 3 #[.slice A xs.length c, .int .i64 n] w fun e w' => e = .returned (.bool true) ∧ Below w.heap.size w w' := by
  by_cases hs : 60000 < xs.length
  · exact blanks_long A c xs n w hG hGN hs
  · cases A with
    | none =>
      have h1 := hA.2.2.2 rfl
      subst h1
      have h2 : xs = [] := List.eq_nil_of_length_eq_zero (by have := hA.1; omega)
      subst h2
      exact blanks_none n w hG hGN
    | some ad => exact blanks_some ad c xs n w hG hGN hA (by omega)

end Go.Proofs.YtipbcdjnemdciaaDoor.Js
