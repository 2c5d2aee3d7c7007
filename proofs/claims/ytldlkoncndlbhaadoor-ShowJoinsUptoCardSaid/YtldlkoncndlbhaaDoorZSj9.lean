/- YtldlkoncndlbhaaDoorZSj9: texts of the seat (PShx5), one behind the other, without what this claim's theorem does not rest on. -/
import Derived.Test.YtldlkoncndlbhaaDoorZSj8

-- Laid by wip/mk/mk.py of this session (the kit's printer with this session's contracts for library functions).
namespace Go.Proofs.YtldlkoncndlbhaaDoor.PSh
open Go.RowKit Go.Proofs.YtldlkoncndlbhaaDoorW.PrintWords Go.Proofs.YtldlkoncndlbhaaDoorW.PrintLast Go.Proofs.YtldlkoncndlbhaaDoorW.PrintMore
attribute [local go_sem] max2_int min2_int max_two min_two max_three min_three max_four min_four   -- for this text's walks alone
set_option linter.unusedVariables false
set_option linter.unusedSimpArgs false
/-! ### haulierref03_Check: function 13 -/
mutual
def haulierref03_Check.l0 : Nat → List (S39) → List Int → List Int → Int → Option (Int)
  | 0, _, _, _, _ => none
  | k + 1, x0, x3, x4, x5 => if x5 < (x0.length : Int) then (if 0 ≤ x5 then ((haulierref03_plain.f k ((rd_T39 x0 x5).f0) ((rd_T39 x0 x5).f1) ((rd_T39 x0 x5).f2) ((rd_T39 x0 x5).f3) ((rd_T39 x0 x5).f4) ((rd_T39 x0 x5).f5)).bind fun t142 => (if t142 = true then (haulierref03_Check.l1 k x0 x3 x4 x5 0 0) else (some 29))) else (none)) else (haulierref03_Check.l2 k x0 x3 x4 0)
def haulierref03_Check.l1 : Nat → List (S39) → List Int → List Int → Int → Int → Int → Option (Int)
  | 0, _, _, _, _, _, _ => none
  | k + 1, x0, x3, x4, x5, x6, x7 => if 0 ≤ x5 then (if x5 < (x0.length : Int) then (if x7 < (((rd_T39 x0 x5).f5).length : Int) then (if 0 ≤ x7 then (if (rd ((rd_T39 x0 x5).f5) x7) < 0 then (haulierref03_Check.j2 k x0 x3 x4 x5 x6 x7 (rd ((rd_T39 x0 x5).f5) x7) true) else (haulierref03_Check.j2 k x0 x3 x4 x5 x6 x7 (rd ((rd_T39 x0 x5).f5) x7) (decide ((rd ((rd_T39 x0 x5).f5) x7) ≥ x5)))) else (none)) else (if ((rd_T39 x0 x5).f0) ≥ 5 then (if x5 < (x4.length : Int) then (haulierref03_Check.l0 k x0 x3 (x4.set (x5 : Int).toNat (wrap64 (x6 + 1))) (wrap64 (x5 + 1))) else (none)) else (if x5 < (x4.length : Int) then (haulierref03_Check.l0 k x0 x3 (x4.set (x5 : Int).toNat x6) (wrap64 (x5 + 1))) else (none)))) else (none)) else (none)
def haulierref03_Check.j2 : Nat → List (S39) → List Int → List Int → Int → Int → Int → Int → Bool → Option (Int)
  | 0, _, _, _, _, _, _, _, _ => none
  | k + 1, x0, x3, x4, x5, x6, x7, x8, x58 => if x58 = true then (some 29) else (if 0 ≤ x8 then (if x8 < (x3.length : Int) then ((some (x3.set (x8 : Int).toNat (wrap64 ((rd x3 x8) + 1)) : List Int)).bind fun y150 => (if x8 < (x4.length : Int) then (if (rd x4 x8) > x6 then (haulierref03_Check.l1 k x0 y150 x4 x5 (rd x4 x8) (wrap64 (x7 + 1))) else (haulierref03_Check.l1 k x0 y150 x4 x5 x6 (wrap64 (x7 + 1)))) else (none))) else (none)) else (none))
def haulierref03_Check.l2 : Nat → List (S39) → List Int → List Int → Int → Option (Int)
  | 0, _, _, _, _ => none
  | k + 1, x0, x3, x4, x9 => if x9 < (wrap64 ((x0.length : Int) - 1)) then (if 0 ≤ x9 then (if x9 < (x3.length : Int) then (if (rd x3 x9) = 1 then (haulierref03_Check.l2 k x0 x3 x4 (wrap64 (x9 + 1))) else (some 29)) else (none)) else (none)) else (if 0 ≤ (wrap64 ((x0.length : Int) - 1)) then (if (wrap64 ((x0.length : Int) - 1)) < (x4.length : Int) then (if (rd x4 (wrap64 ((x0.length : Int) - 1))) > 16 then (some 26) else (some 0)) else (none)) else (none))
end
def haulierref03_Check.f (k : Nat) (l0 : List (S39)) : Option (Int) := if (l0.length : Int) = 0 then (some 29) else (if (l0.length : Int) > 8192 then (some 27) else (if 0 ≤ (l0.length : Int) then (if ((l0.length : Int) : Int).toNat ≤ 35184372088832 then (haulierref03_Check.l0 k l0 (List.replicate ((l0.length : Int) : Int).toNat 0) (List.replicate ((l0.length : Int) : Int).toNat 0) 0) else (none)) else (none)))
set_option maxHeartbeats 8000000 in
set_option maxRecDepth 100000 in
theorem haulierref03_Check.calls (k : Nat) (A0 : Option Addr) (c0 : Nat) (l0 : List (S39)) (r : Int) (w : World) (hG : Aside0 (Glob w)) (hr0 : Kd.C k39 w A0 l0.length l0) (hc0 : l0.length ≤ c0) (h : haulierref03_Check.f k l0 = some r) :
    Calls Tryd.prog 13 #[.slice A0 l0.length c0] w fun e w' => e = .returned (.int .i64 r) ∧ Below w.heap.size w w' := by
  have hu39 := Tryd.underlying39
  have HR0 := Aside0.mk hr0
  have HC0 := Aside0.mk hc0
  clear hr0 hc0
  have HB := Aside0.mk (Below.refl w.heap.size w)
  have H : (if (l0.length : Int) = 0 then (some 29) else (if (l0.length : Int) > 8192 then (some 27) else (if 0 ≤ (l0.length : Int) then (if ((l0.length : Int) : Int).toNat ≤ 35184372088832 then (haulierref03_Check.l0 k l0 (List.replicate ((l0.length : Int) : Int).toNat 0) (List.replicate ((l0.length : Int) : Int).toNat 0) 0) else (none)) else (none)))) = some r := h
  clear h
  by_cases c2 : (l0.length : Int) = 0
  · rw [if_pos c2] at H
    have c2b0 : ((l0.length : Int) == 0) = true := beq_iff_eq.mpr c2
    have c2b1 : ((l0.length : Int) != 0) = false := bne_eq_false_iff_eq.mpr c2
    clear c2
    obtain rfl := Option.some.inj H
    go_enter Tryd.func13, Tryd.ntmps13
    go_wp2
    go_ret
    exact ⟨by first | rfl | (simp [errW_none, errW_some] <;> rfl) | (simp [*, errW_none, errW_some] <;> rfl), by repeat (first | (with_reducible first | exact HB.out | apply below_alloc | apply pw_below_drewN | apply below_drew1) | exact HB.out)⟩
  · rw [if_neg c2] at H
    have c2b0 : ((l0.length : Int) == 0) = false := beq_eq_false_iff_ne.mpr c2
    have c2b1 : ((l0.length : Int) != 0) = true := bne_iff_ne.mpr c2
    have c2b2 : ¬ (l0 = []) := fun h_ => c2 (by rw [h_]; rfl)
    by_cases c3 : (l0.length : Int) > 8192
    · rw [if_pos c3] at H
      have c3b0 : decide (8192 < (l0.length : Int)) = true := decide_eq_true c3
      have c3b1 : decide (8192 < l0.length) = true := decide_eq_true (by omega)
      clear c3
      obtain rfl := Option.some.inj H
      go_enter Tryd.func13, Tryd.ntmps13
      go_wp2
      go_ret
      exact ⟨by first | rfl | (simp [errW_none, errW_some] <;> rfl) | (simp [*, errW_none, errW_some] <;> rfl), by repeat (first | (with_reducible first | exact HB.out | apply below_alloc | apply pw_below_drewN | apply below_drew1) | exact HB.out)⟩
    · rw [if_neg c3] at H
      have c3b0 : decide (8192 < (l0.length : Int)) = false := decide_eq_false c3
      have c3b1 : decide (8192 < l0.length) = false := decide_eq_false (by omega)
      clear c3
      by_cases c4 : 0 ≤ (l0.length : Int)
      · rw [if_pos c4] at H
        have c4b0 := eq_true c4
        have c4b1 : decide (0 ≤ (l0.length : Int)) = true := decide_eq_true c4
        clear c4
        by_cases c5 : ((l0.length : Int) : Int).toNat ≤ 35184372088832
        · rw [if_pos c5] at H
          have c5b0 := eq_true c5
          have c5b1 : decide (((l0.length : Int) : Int).toNat ≤ 35184372088832) = true := decide_eq_true c5
          clear c5
          obtain ⟨y135, hy135⟩ : ∃ y_ : List Int, y_ = (List.replicate ((l0.length : Int) : Int).toNat 0) := ⟨_, rfl⟩
          replace H : (haulierref03_Check.l0 k l0 y135 (List.replicate ((l0.length : Int) : Int).toNat 0) 0) = some r := by first | (rw [hy135]; with_reducible exact H) | (have H2_ := (Option.bind_some _ _).symm.trans H; rw [hy135]; with_reducible exact H2_) | (have H2_ := (Option.bind_some _ _).symm.trans H; with_reducible exact H2_) | with_reducible exact H | (rw [hy135]; exact H) | exact H
          have Ny135 := Aside0.mk hy135
          clear hy135
          obtain ⟨y138, hy138⟩ : ∃ y_ : List Int, y_ = (List.replicate ((l0.length : Int) : Int).toNat 0) := ⟨_, rfl⟩
          replace H : (haulierref03_Check.l0 k l0 y135 y138 0) = some r := by first | (rw [hy138]; with_reducible exact H) | (have H2_ := (Option.bind_some _ _).symm.trans H; rw [hy138]; with_reducible exact H2_) | (have H2_ := (Option.bind_some _ _).symm.trans H; with_reducible exact H2_) | with_reducible exact H | (rw [hy138]; exact H) | exact H
          have Ny138 := Aside0.mk hy138
          clear hy138
          have H' := Aside0.mk H
          clear H
          go_enter Tryd.func13, Tryd.ntmps13
          go_wp2_with (first | ((with_reducible refine gate_dst (N := 18) rfl ?_); refine Kd.R_make (Kd.int .i64) _ 3 rfl (N := 18) rfl 37 _ _ rfl (l0.length : Int) rfl rfl Tryd.underlying37 (.int .i64 0) 8 info3 rfl (by decide) (by omega) 0 (ok := fun _ => True) (okp := fun _ => True) rfl (fun _ hk => hk) trivial (of_decide_eq_true (by first | (with_reducible assumption) | assumption)) (Nat.le_trans (Nat.mul_le_mul_right _ (of_decide_eq_true (by first | (with_reducible assumption) | assumption) : (l0.length : Int).toNat ≤ 35184372088832)) (by omega)) (Below.refl _ _) (Nat.le_refl _) ?_; intro v136 w6 ho7 hb hg_ hnew_; clear hg_ hnew_; (first | rw [← Ny135.out] at ho7 | (simp only [Int.reduceToNat] at ho7; rw [← Ny135.out] at ho7)); have n0_ := Aside0.mk (Kd.R_lower ho7 (below_size (by repeat (first | (with_reducible first | exact HB.out | apply below_alloc | apply pw_below_drewN | apply below_drew1) | exact HB.out)))); have n1_ := Aside0.mk (below_step (by repeat (first | (with_reducible first | exact HB.out | apply below_alloc | apply pw_below_drewN | apply below_drew1) | exact HB.out)) hb); clear HB; have HO137 := n0_; have HB := n1_; clear n0_ n1_; clear hb ho7) | ((with_reducible refine gate_dst (N := 21) rfl ?_); refine Kd.R_make (Kd.int .i64) _ 3 rfl (N := 21) rfl 37 _ _ rfl (l0.length : Int) rfl rfl Tryd.underlying37 (.int .i64 0) 8 info3 rfl (by decide) (by omega) 0 (ok := fun _ => True) (okp := fun _ => True) rfl (fun _ hk => hk) trivial (of_decide_eq_true (by first | (with_reducible assumption) | assumption)) (Nat.le_trans (Nat.mul_le_mul_right _ (of_decide_eq_true (by first | (with_reducible assumption) | assumption) : (l0.length : Int).toNat ≤ 35184372088832)) (by omega)) (Below.refl _ _) (Nat.le_refl _) ?_; intro v139 w8 ho9 hb hg_ hnew_; clear hg_ hnew_; (first | rw [← Ny138.out] at ho9 | (simp only [Int.reduceToNat] at ho9; rw [← Ny138.out] at ho9)); have n0_ := Aside0.mk (Kd.R_elder' (by (with_reducible repeat (first | apply Kd.R_alloc | apply Kd.R_drewN | apply Kd.R_drew)); exact HO137.out) (Kd.R_base ho9) hb); have n1_ := Aside0.mk (Kd.R_lower (Kd.R_new' ho9 (Kd.R_lt (by (with_reducible repeat (first | apply Kd.R_alloc | apply Kd.R_drewN | apply Kd.R_drew)); exact HO137.out))) (below_size (by repeat (first | (with_reducible first | exact HB.out | apply below_alloc | apply pw_below_drewN | apply below_drew1) | exact HB.out)))); have n2_ := Aside0.mk (below_step (by repeat (first | (with_reducible first | exact HB.out | apply below_alloc | apply pw_below_drewN | apply below_drew1) | exact HB.out)) hb); clear HO137; clear HB; have HO137 := n0_; have HO140 := n1_; have HB := n2_; clear n0_ n1_ n2_; clear hb ho9))
          go_loopg [5] k (fun kq v5 w' => ∃ (x3_1 : List Int) (x4_1 : List Int) (x5_1 : Int), v5 = .int .i64 x5_1 ∧ Aside0 (haulierref03_Check.l0 kq l0 x3_1 x4_1 x5_1 = some r) ∧ Aside0 (kq ≤ k) ∧ Aside0 (Kd.R (Kd.int .i64) 3 w' w.heap.size (fun k_ => some k_ ≠ (v139 : Value).ownBlock) v136 x3_1) ∧ Aside0 (Kd.R (Kd.int .i64) 3 w' w.heap.size (fun k_ => some k_ ≠ (v136 : Value).ownBlock) v139 x4_1) ∧ Aside0 (Below w.heap.size w w'))
          case atStart => exact ⟨(y135), (y138), (0), (by first | rfl | (simp; done) | (simp [*]; done)), H', ⟨Nat.le_refl _⟩, ⟨by (with_reducible repeat (first | apply Kd.R_alloc | apply Kd.R_drewN | apply Kd.R_drew)); exact Kd.R_mono HO137.out (fun _ hk => hk.2)⟩, ⟨by (with_reducible repeat (first | apply Kd.R_alloc | apply Kd.R_drewN | apply Kd.R_drew)); exact Kd.R_mono HO140.out (fun _ hk => hk.2)⟩, ⟨by repeat (first | (with_reducible first | exact HB.out | apply below_alloc | apply pw_below_drewN | apply below_drew1) | exact HB.out)⟩⟩
          case round =>
            clear H'
            try clear c1
            try clear c2
            try clear c2b0
            try clear c2b1
            try clear c2b2
            try clear p2
            try clear c3
            try clear c3b0
            try clear c3b1
            try clear c4
            try clear c4b0
            try clear c4b1
            try clear c5
            try clear c5b0
            try clear c5b1
            obtain ⟨x3_1, x4_1, x5_1, rfl, HA, HK1, HO_3, HO_4, HB⟩ := hrel
            cases gk with
            | zero => exact absurd HA.out (by simp [haulierref03_Check.l0])
            | succ k1 =>
              have H := HA.out
              clear HA
              simp only [haulierref03_Check.l0] at H
              by_cases c10 : x5_1 < (l0.length : Int)
              · rw [if_pos c10] at H
                have c10b0 : decide (x5_1 < (l0.length : Int)) = true := decide_eq_true c10
                clear c10
                by_cases c11 : 0 ≤ x5_1
                · rw [if_pos c11] at H
                  have c11b0 : decide (0 ≤ x5_1) = true := decide_eq_true c11
                  clear c11
                  replace H := Option.bind_eq_some_iff.mp H
                  obtain ⟨t142, A120, H⟩ := H
                  replace H : (if t142 = true then (haulierref03_Check.l1 k1 l0 x3_1 x4_1 x5_1 0 0) else (some 29)) = some r := H
                  have A12 := Aside0.mk A120
                  clear A120
                  by_cases c13 : t142 = true
                  · subst c13
                    have H1 : (haulierref03_Check.l1 k1 l0 x3_1 x4_1 x5_1 0 0) = some r := by rw [if_pos rfl] at H; exact H
                    clear H
                    have H := H1
                    clear H1
                    have H' := Aside0.mk H
                    clear H
                    have p141 : 0 ≤ (x5_1 : Int) := of_decide_eq_true (by first | (with_reducible assumption) | assumption)
                    have q141 : x5_1 < (l0.length : Int) := of_decide_eq_true (by first | (with_reducible assumption) | assumption)
                    obtain ⟨ad141, A141_4, c141_4, A141_5, c141_5, e141, hx141_0, hx141_1, hx141_2, hx141_3, hx141_4, hx141_5, hl141_4, hi141_4, hl141_5, hi141_5⟩ := at_T39 HR0.out x5_1 p141 q141
                    cases e141
                    replace hx141_0 := (HB.out.cell (World.block_lt_of_cell? w _ hx141_0)).trans hx141_0
                    replace hx141_1 := (HB.out.cell (World.block_lt_of_cell? w _ hx141_1)).trans hx141_1
                    replace hx141_2 := (HB.out.cell (World.block_lt_of_cell? w _ hx141_2)).trans hx141_2
                    replace hx141_3 := (HB.out.cell (World.block_lt_of_cell? w _ hx141_3)).trans hx141_3
                    replace hx141_4 := (HB.out.cell (World.block_lt_of_cell? w _ hx141_4)).trans hx141_4
                    replace hx141_5 := (HB.out.cell (World.block_lt_of_cell? w _ hx141_5)).trans hx141_5
                    have HR141_4 := Aside0.mk hi141_4
                    have HC141_4 := Aside0.mk hl141_4
                    clear hi141_4 hl141_4
                    have HR141_5 := Aside0.mk hi141_5
                    have HC141_5 := Aside0.mk hl141_5
                    clear hi141_5 hl141_5
                    replace p141 := eq_true p141
                    replace q141 := eq_true q141
                    go_wp2_with (first | ((with_reducible refine gate_callee (f := 24) rfl ?_); refine goesL_ (some 32) rfl rfl Tryd.func24 (by kernel_rfl) rfl #[.agg #[.int .i64 ((rd_T39 l0 x5_1).f0), .bool ((rd_T39 l0 x5_1).f1), .int .i64 ((rd_T39 l0 x5_1).f2), .string ((rd_T39 l0 x5_1).f3), .slice A141_4 ((rd_T39 l0 x5_1).f4).length c141_4, .slice A141_5 ((rd_T39 l0 x5_1).f5).length c141_5]] rfl (by (try simp only [List.map_toArray, List.map_cons, List.map_nil]); first | done | rfl | (simp only [List.length_drop, List.length_take]; rfl)) ?_; (with_reducible refine (haulierref03_plain.calls k1 ((rd_T39 l0 x5_1).f0) ((rd_T39 l0 x5_1).f1) ((rd_T39 l0 x5_1).f2) ((rd_T39 l0 x5_1).f3) _ _ ((rd_T39 l0 x5_1).f4) _ _ ((rd_T39 l0 x5_1).f5) true _ ⟨by repeat (first | exact hG.out | exact hG.out.below (by repeat (first | (with_reducible first | exact HB.out | apply below_alloc | apply pw_below_drewN | apply below_drew1) | exact HB.out | exact Below.refl _ _)) | apply Glob.drewN | apply Glob.drew)⟩ ?side1 ?side2 ?side3 ?side4 A12.out).mono ?_); (case side1 => repeat (first | exact (Kd.C_below HR141_4.out HB.out) | (with_reducible refine Kd.C_alloc ?_ _) | (with_reducible refine Kd.C_drewN ?_ _) | (with_reducible refine Kd.C_drew ?_))); (case side2 => exact HC141_4.out); (case side3 => repeat (first | exact (Kd.C_below HR141_5.out HB.out) | (with_reducible refine Kd.C_alloc ?_ _) | (with_reducible refine Kd.C_drewN ?_ _) | (with_reducible refine Kd.C_drew ?_))); (case side4 => exact HC141_5.out); rintro e w14 ⟨rfl, hb⟩; refine ⟨_, rfl, ?_⟩; have n0_ := Aside0.mk (Kd.R_below (by (with_reducible repeat (first | apply Kd.R_alloc | apply Kd.R_drewN | apply Kd.R_drew)); exact HO_3.out) hb); have n1_ := Aside0.mk (Kd.R_below (by (with_reducible repeat (first | apply Kd.R_alloc | apply Kd.R_drewN | apply Kd.R_drew)); exact HO_4.out) hb); have n2_ := Aside0.mk (below_step (by repeat (first | (with_reducible first | exact HB.out | apply below_alloc | apply pw_below_drewN | apply below_drew1) | exact HB.out)) hb); clear HO_3; clear HO_4; clear HB; have HO_3 := n0_; have HO_4 := n1_; have HB := n2_; clear n0_ n1_ n2_; (try clear hb); (try clear hb2); (try clear hk); (try clear hi)))
                    go_loopg [6, 7] k1 (fun kq v6 v7 w' => ∃ (x3_2 : List Int) (x6_2 : Int) (x7_2 : Int), v6 = .int .i64 x6_2 ∧ v7 = .int .i64 x7_2 ∧ Aside0 (haulierref03_Check.l1 kq l0 x3_2 x4_1 x5_1 x6_2 x7_2 = some r) ∧ Aside0 (kq ≤ k1) ∧ Aside0 (Kd.R (Kd.int .i64) 3 w' w.heap.size (fun k_ => some k_ ≠ (v139 : Value).ownBlock) v136 x3_2) ∧ Aside0 (Kd.R (Kd.int .i64) 3 w' w.heap.size (fun k_ => some k_ ≠ (v136 : Value).ownBlock) v139 x4_1) ∧ Aside0 (Below w.heap.size w w'))
                    case atStart => exact ⟨(x3_1), (0), (0), (by first | rfl | (simp; done) | (simp [*]; done)), (by first | rfl | (simp; done) | (simp [*]; done)), H', ⟨Nat.le_refl _⟩, ⟨by (with_reducible repeat (first | apply Kd.R_alloc | apply Kd.R_drewN | apply Kd.R_drew)); exact HO_3.out⟩, ⟨by (with_reducible repeat (first | apply Kd.R_alloc | apply Kd.R_drewN | apply Kd.R_drew)); exact HO_4.out⟩, ⟨by repeat (first | (with_reducible first | exact HB.out | apply below_alloc | apply pw_below_drewN | apply below_drew1) | exact HB.out)⟩⟩
                    case round =>
                      clear H'
                      try clear c1
                      try clear p1
                      try clear q1
                      try clear hx1
                      try clear c2
                      try clear c2b0
                      try clear c2b1
                      try clear c2b2
                      try clear p2
                      try clear c3
                      try clear c3b0
                      try clear c3b1
                      try clear c4
                      try clear c4b0
                      try clear c4b1
                      try clear c5
                      try clear c5b0
                      try clear c5b1
                      try clear c10
                      try clear c10b0
                      try clear c11
                      try clear c11b0
                      try clear c13
                      try clear c14
                      try clear p14
                      try clear q14
                      try clear hx14
                      try clear hx141_0
                      try clear hx141_1
                      try clear hx141_2
                      try clear hx141_3
                      try clear hx141_4
                      try clear hx141_5
                      try clear p141
                      try clear p2
                      try clear q141
                      obtain ⟨x3_2, x6_2, x7_2, rfl, rfl, HA, HK2, HO_3, HO_4, HB⟩ := hrel
                      cases gk with
                      | zero => exact absurd HA.out (by simp [haulierref03_Check.l1])
                      | succ k2 =>
                        have H := HA.out
                        clear HA
                        simp only [haulierref03_Check.l1] at H
                        by_cases c15 : 0 ≤ x5_1
                        · rw [if_pos c15] at H
                          have c15b0 : decide (0 ≤ x5_1) = true := decide_eq_true c15
                          clear c15
                          by_cases c16 : x5_1 < (l0.length : Int)
                          · rw [if_pos c16] at H
                            have c16b0 : decide (x5_1 < (l0.length : Int)) = true := decide_eq_true c16
                            clear c16
                            by_cases c17 : x7_2 < (((rd_T39 l0 x5_1).f5).length : Int)
                            · rw [if_pos c17] at H
                              have c17b0 : decide (x7_2 < (((rd_T39 l0 x5_1).f5).length : Int)) = true := decide_eq_true c17
                              clear c17
                              by_cases c18 : 0 ≤ x7_2
                              · rw [if_pos c18] at H
                                have c18b0 : decide (0 ≤ x7_2) = true := decide_eq_true c18
                                clear c18
                                have HC19 := Aside0.mk H
                                clear H
                                have p143 : 0 ≤ (x5_1 : Int) := of_decide_eq_true (by first | (with_reducible assumption) | assumption)
                                have q143 : x5_1 < (l0.length : Int) := of_decide_eq_true (by first | (with_reducible assumption) | assumption)
                                obtain ⟨ad143, A143_4, c143_4, A143_5, c143_5, e143, hx143_0, hx143_1, hx143_2, hx143_3, hx143_4, hx143_5, hl143_4, hi143_4, hl143_5, hi143_5⟩ := at_T39 HR0.out x5_1 p143 q143
                                obtain rfl : ad141 = ad143 := (by injection e143)
                                replace hx143_0 := (HB.out.cell (World.block_lt_of_cell? w _ hx143_0)).trans hx143_0
                                replace hx143_1 := (HB.out.cell (World.block_lt_of_cell? w _ hx143_1)).trans hx143_1
                                replace hx143_2 := (HB.out.cell (World.block_lt_of_cell? w _ hx143_2)).trans hx143_2
                                replace hx143_3 := (HB.out.cell (World.block_lt_of_cell? w _ hx143_3)).trans hx143_3
                                replace hx143_4 := (HB.out.cell (World.block_lt_of_cell? w _ hx143_4)).trans hx143_4
                                replace hx143_5 := (HB.out.cell (World.block_lt_of_cell? w _ hx143_5)).trans hx143_5
                                have HR143_4 := Aside0.mk hi143_4
                                have HC143_4 := Aside0.mk hl143_4
                                clear hi143_4 hl143_4
                                have HR143_5 := Aside0.mk hi143_5
                                have HC143_5 := Aside0.mk hl143_5
                                clear hi143_5 hl143_5
                                replace p143 := eq_true p143
                                replace q143 := eq_true q143
                                have p147 : 0 ≤ (x5_1 : Int) := of_decide_eq_true (by first | (with_reducible assumption) | assumption)
                                have q147 : x5_1 < (l0.length : Int) := of_decide_eq_true (by first | (with_reducible assumption) | assumption)
                                obtain ⟨ad147, A147_4, c147_4, A147_5, c147_5, e147, hx147_0, hx147_1, hx147_2, hx147_3, hx147_4, hx147_5, hl147_4, hi147_4, hl147_5, hi147_5⟩ := at_T39 HR0.out x5_1 p147 q147
                                obtain rfl : ad141 = ad147 := (by injection e147)
                                replace hx147_0 := (HB.out.cell (World.block_lt_of_cell? w _ hx147_0)).trans hx147_0
                                replace hx147_1 := (HB.out.cell (World.block_lt_of_cell? w _ hx147_1)).trans hx147_1
                                replace hx147_2 := (HB.out.cell (World.block_lt_of_cell? w _ hx147_2)).trans hx147_2
                                replace hx147_3 := (HB.out.cell (World.block_lt_of_cell? w _ hx147_3)).trans hx147_3
                                replace hx147_4 := (HB.out.cell (World.block_lt_of_cell? w _ hx147_4)).trans hx147_4
                                replace hx147_5 := (HB.out.cell (World.block_lt_of_cell? w _ hx147_5)).trans hx147_5
                                have HR147_4 := Aside0.mk hi147_4
                                have HC147_4 := Aside0.mk hl147_4
                                clear hi147_4 hl147_4
                                have HR147_5 := Aside0.mk hi147_5
                                have HC147_5 := Aside0.mk hl147_5
                                clear hi147_5 hl147_5
                                replace p147 := eq_true p147
                                replace q147 := eq_true q147
                                have ea_ := Option.some.inj (hx143_4.symm.trans hx147_4)
                                injection ea_ with ea_ en_ ec_
                                subst ea_
                                subst ec_
                                clear en_
                                have ea_ := Option.some.inj (hx143_5.symm.trans hx147_5)
                                injection ea_ with ea_ en_ ec_
                                subst ea_
                                subst ec_
                                clear en_
                                have p148 : 0 ≤ (x7_2 : Int) := of_decide_eq_true (by first | (with_reducible assumption) | assumption)
                                have q148 : x7_2 < (((rd_T39 l0 x5_1).f5).length : Int) := of_decide_eq_true (by first | (with_reducible assumption) | assumption)
                                obtain ⟨ad148, e148, hx148_0⟩ := Kd.at_int HR147_5.out x7_2 p148 q148
                                cases e148
                                replace hx148_0 := (HB.out.cell (World.block_lt_of_cell? w _ hx148_0)).trans hx148_0
                                replace p148 := eq_true p148
                                replace q148 := eq_true q148
                                go_upto_region 17 with (fail)
                                go_cut [58] (fun v58 wc => ∃ (kq : Nat) (x58_18 : Bool), v58 = .bool x58_18 ∧ Aside0 (haulierref03_Check.j2 kq l0 x3_2 x4_1 x5_1 x6_2 x7_2 (rd ((rd_T39 l0 x5_1).f5) x7_2) x58_18 = some r) ∧ Aside0 (kq ≤ k2) ∧ Aside0 (Kd.R (Kd.int .i64) 3 wc w.heap.size (fun k_ => some k_ ≠ (v139 : Value).ownBlock) v136 x3_2) ∧ Aside0 (Kd.R (Kd.int .i64) 3 wc w.heap.size (fun k_ => some k_ ≠ (v136 : Value).ownBlock) v139 x4_1) ∧ Aside0 (Below w.heap.size w wc))
                                case first =>
                                  have H := HC19.out
                                  clear HC19
                                  by_cases c20 : (rd ((rd_T39 l0 x5_1).f5) x7_2) < 0
                                  · rw [if_pos c20] at H
                                    have c20b0 : decide ((rd ((rd_T39 l0 x5_1).f5) x7_2) < 0) = true := decide_eq_true c20
                                    clear c20
                                    (first | rw [c20b0] | (simp only [i64_w, i32_w]; rw [c20b0]) | skip)
                                    have H' := Aside0.mk H
                                    clear H
                                    go_wp2
                                    go_meet
                                    case rel => exact ⟨_, (true), (by first | rfl | (simp; done) | (simp [*]; done)), H', ⟨by have := HK1.out; have := HK2.out; first | omega | exact Nat.le_refl _⟩, ⟨by (with_reducible repeat (first | apply Kd.R_alloc | apply Kd.R_drewN | apply Kd.R_drew)); exact HO_3.out⟩, ⟨by (with_reducible repeat (first | apply Kd.R_alloc | apply Kd.R_drewN | apply Kd.R_drew)); exact HO_4.out⟩, ⟨by repeat (first | (with_reducible first | exact HB.out | apply below_alloc | apply pw_below_drewN | apply below_drew1) | exact HB.out)⟩⟩
                                  · rw [if_neg c20] at H
                                    have c20b0 : decide ((rd ((rd_T39 l0 x5_1).f5) x7_2) < 0) = false := decide_eq_false c20
                                    clear c20
                                    (first | rw [c20b0] | (simp only [i64_w, i32_w]; rw [c20b0]) | skip)
                                    have H' := Aside0.mk H
                                    clear H
                                    go_wp2
                                    go_meet
                                    case rel => exact ⟨_, (decide ((rd ((rd_T39 l0 x5_1).f5) x7_2) ≥ x5_1)), (by first | rfl | (simp; done) | (simp [*]; done)), H', ⟨by have := HK1.out; have := HK2.out; first | omega | exact Nat.le_refl _⟩, ⟨by (with_reducible repeat (first | apply Kd.R_alloc | apply Kd.R_drewN | apply Kd.R_drew)); exact HO_3.out⟩, ⟨by (with_reducible repeat (first | apply Kd.R_alloc | apply Kd.R_drewN | apply Kd.R_drew)); exact HO_4.out⟩, ⟨by repeat (first | (with_reducible first | exact HB.out | apply below_alloc | apply pw_below_drewN | apply below_drew1) | exact HB.out)⟩⟩
                                case rest =>
                                  clear HC19
                                  try clear c1
                                  try clear p1
                                  try clear q1
                                  try clear hx1
                                  try clear c2
                                  try clear c2b0
                                  try clear c2b1
                                  try clear c2b2
                                  try clear p2
                                  try clear c3
                                  try clear c3b0
                                  try clear c3b1
                                  try clear c4
                                  try clear c4b0
                                  try clear c4b1
                                  try clear c5
                                  try clear c5b0
                                  try clear c5b1
                                  try clear c10
                                  try clear c10b0
                                  try clear c11
                                  try clear c11b0
                                  try clear c13
                                  try clear c14
                                  try clear p14
                                  try clear q14
                                  try clear hx14
                                  try clear c15
                                  try clear c15b0
                                  try clear c16
                                  try clear c16b0
                                  try clear c17
                                  try clear c17b0
                                  try clear c18
                                  try clear c18b0
                                  try clear c20
                                  try clear c20b0
                                  try clear hx141_0
                                  try clear hx141_1
                                  try clear hx141_2
                                  try clear hx141_3
                                  try clear hx141_4
                                  try clear hx141_5
                                  try clear hx143_0
                                  try clear hx143_1
                                  try clear hx143_2
                                  try clear hx143_3
                                  try clear hx143_4
                                  try clear hx143_5
                                  try clear hx147_0
                                  try clear hx147_1
                                  try clear hx147_2
                                  try clear hx147_3
                                  try clear hx147_4
                                  try clear hx147_5
                                  try clear hx148_0
                                  try clear p1
                                  try clear p14
                                  try clear p141
                                  try clear p143
                                  try clear p147
                                  try clear p148
                                  try clear p2
                                  try clear q1
                                  try clear q14
                                  try clear q141
                                  try clear q143
                                  try clear q147
                                  try clear q148
                                  obtain ⟨kq, x58_18, rfl, HA, HJ18, HO_3, HO_4, HB⟩ := hcut
                                  cases kq with
                                  | zero => exact absurd HA.out (by simp [haulierref03_Check.j2])
                                  | succ kj18 =>
                                    have H := HA.out
                                    clear HA
                                    simp only [haulierref03_Check.j2] at H
                                    by_cases c21 : x58_18 = true
                                    · subst c21
                                      have H1 : (some 29) = some r := by rw [if_pos rfl] at H; exact H
                                      clear H
                                      have H := H1
                                      clear H1
                                      obtain rfl := Option.some.inj H
                                      go_wp2
                                      go_ret
                                      exact ⟨by first | rfl | (simp [errW_none, errW_some] <;> rfl) | (simp [*, errW_none, errW_some] <;> rfl), by repeat (first | (with_reducible first | exact HB.out | apply below_alloc | apply pw_below_drewN | apply below_drew1) | exact HB.out)⟩
                                    · replace c21 := Bool.eq_false_iff.mpr c21
                                      subst c21
                                      have H1 : (if 0 ≤ (rd ((rd_T39 l0 x5_1).f5) x7_2) then (if (rd ((rd_T39 l0 x5_1).f5) x7_2) < (x3_2.length : Int) then ((some (x3_2.set ((rd ((rd_T39 l0 x5_1).f5) x7_2) : Int).toNat (wrap64 ((rd x3_2 (rd ((rd_T39 l0 x5_1).f5) x7_2)) + 1)) : List Int)).bind fun y150 => (if (rd ((rd_T39 l0 x5_1).f5) x7_2) < (x4_1.length : Int) then (if (rd x4_1 (rd ((rd_T39 l0 x5_1).f5) x7_2)) > x6_2 then (haulierref03_Check.l1 kj18 l0 y150 x4_1 x5_1 (rd x4_1 (rd ((rd_T39 l0 x5_1).f5) x7_2)) (wrap64 (x7_2 + 1))) else (haulierref03_Check.l1 kj18 l0 y150 x4_1 x5_1 x6_2 (wrap64 (x7_2 + 1)))) else (none))) else (none)) else (none)) = some r := by rw [if_neg (show ¬ (false = true) by decide)] at H; exact H
                                      clear H
                                      have H := H1
                                      clear H1
                                      by_cases c22 : 0 ≤ (rd ((rd_T39 l0 x5_1).f5) x7_2)
                                      · rw [if_pos c22] at H
                                        have c22b0 : decide (0 ≤ (rd ((rd_T39 l0 x5_1).f5) x7_2)) = true := decide_eq_true c22
                                        clear c22
                                        by_cases c23 : (rd ((rd_T39 l0 x5_1).f5) x7_2) < (x3_2.length : Int)
                                        · rw [if_pos c23] at H
                                          have c23b0 : decide ((rd ((rd_T39 l0 x5_1).f5) x7_2) < (x3_2.length : Int)) = true := decide_eq_true c23
                                          clear c23
                                          obtain ⟨y150, hy150⟩ : ∃ y_ : List Int, y_ = (x3_2.set ((rd ((rd_T39 l0 x5_1).f5) x7_2) : Int).toNat (wrap64 ((rd x3_2 (rd ((rd_T39 l0 x5_1).f5) x7_2)) + 1))) := ⟨_, rfl⟩
                                          replace H : (if (rd ((rd_T39 l0 x5_1).f5) x7_2) < (x4_1.length : Int) then (if (rd x4_1 (rd ((rd_T39 l0 x5_1).f5) x7_2)) > x6_2 then (haulierref03_Check.l1 kj18 l0 y150 x4_1 x5_1 (rd x4_1 (rd ((rd_T39 l0 x5_1).f5) x7_2)) (wrap64 (x7_2 + 1))) else (haulierref03_Check.l1 kj18 l0 y150 x4_1 x5_1 x6_2 (wrap64 (x7_2 + 1)))) else (none)) = some r := by first | (rw [hy150]; with_reducible exact H) | (have H2_ := (Option.bind_some _ _).symm.trans H; rw [hy150]; with_reducible exact H2_) | (have H2_ := (Option.bind_some _ _).symm.trans H; with_reducible exact H2_) | with_reducible exact H | (rw [hy150]; exact H) | exact H
                                          have Ny150 := Aside0.mk hy150
                                          clear hy150
                                          by_cases c25 : (rd ((rd_T39 l0 x5_1).f5) x7_2) < (x4_1.length : Int)
                                          · rw [if_pos c25] at H
                                            have c25b0 : decide ((rd ((rd_T39 l0 x5_1).f5) x7_2) < (x4_1.length : Int)) = true := decide_eq_true c25
                                            clear c25
                                            by_cases c26 : (rd x4_1 (rd ((rd_T39 l0 x5_1).f5) x7_2)) > x6_2
                                            · rw [if_pos c26] at H
                                              have c26b0 : decide (x6_2 < (rd x4_1 (rd ((rd_T39 l0 x5_1).f5) x7_2))) = true := decide_eq_true c26
                                              clear c26
                                              have H' := Aside0.mk H
                                              clear H
                                              obtain ⟨Ao27, co27, eo27⟩ := Kd.R_slice HO_3.out
                                              subst eo27
                                              have p149 : 0 ≤ ((rd ((rd_T39 l0 x5_1).f5) x7_2) : Int) := of_decide_eq_true (by first | (with_reducible assumption) | assumption)
                                              have q149 : (rd ((rd_T39 l0 x5_1).f5) x7_2) < (x3_2.length : Int) := of_decide_eq_true (by first | (with_reducible assumption) | assumption)
                                              obtain ⟨ad149, e149, hx149_0⟩ := Kd.at_int (Kd.R_reads' HO_3.out).2.2 (rd ((rd_T39 l0 x5_1).f5) x7_2) p149 q149
                                              cases e149
                                              replace p149 := eq_true p149
                                              replace q149 := eq_true q149
                                              have p24 : 0 ≤ ((rd ((rd_T39 l0 x5_1).f5) x7_2) : Int) := of_decide_eq_true (by first | (with_reducible assumption) | assumption)
                                              have q24 : ((rd ((rd_T39 l0 x5_1).f5) x7_2) : Int) < ((x3_2.length : Int) : Int) := of_decide_eq_true (by first | (with_reducible assumption) | assumption)
                                              obtain ⟨go24, co24, eo24, gb24, gl24, cl24, HG24⟩ := Kd.R_form HO_3.out (by omega)
                                              (first | cases eo24 | (injection eo24 with ea_ en_ ec_; (first | subst ea_ | (injection ea_ with ea_; subst ea_)); subst ec_; clear en_))
                                              have GB24 := Aside0.mk gb24
                                              have GG24 := Aside0.mk HG24
                                              clear gb24 gl24 HG24
                                              (first | simp only [add_plain] at hx149_0 | skip)
                                              obtain ⟨hx24_0, hf24_0⟩ := Kd.R_celln 0 HO_3.out ((rd ((rd_T39 l0 x5_1).f5) x7_2) : Int) p24 q24
                                              replace p24 := eq_true p24
                                              replace q24 := eq_true q24
                                              have HP28 := Kd.R_putg HO_3.out ((rd ((rd_T39 l0 x5_1).f5) x7_2) : Int) (wrap64 ((rd x3_2 (rd ((rd_T39 l0 x5_1).f5) x7_2)) + 1))
                                              go_wp2_with (first | ((with_reducible refine gate_store (t := 3) (p := 66) rfl ?_); refine store_event (t := 3) (p := 66) (v := ?vo_w29) (w1 := (wc.setCell ⟨go24, ((rd ((rd_T39 l0 x5_1).f5) x7_2) : Int).toNat, none⟩ (.int .i64 (wrap64 ((rd x3_2 (rd ((rd_T39 l0 x5_1).f5) x7_2)) + 1))))) ?hg ?ho ?hn ?hr ?_; (case ho => rfl); (case hg => rfl); (case hn => rfl); (case hr => first | (go_simp; done) | (go_simp; rfl)); intro w29 hw; have hg : wc.grownBy w29 (some go24) := (by rw [hw]; exact HP28.2); have hp_ : Kd.R (Kd.int .i64) 3 w29 w.heap.size (fun k_ => some k_ ≠ (v139 : Value).ownBlock) (.slice (some ⟨go24, 0, none⟩) x3_2.length co27) y150 := (by rw [hw, Ny150.out]; exact HP28.1); clear HP28; have n0_ := Aside0.mk (hp_); have n1_ := Aside0.mk (Kd.R_after (v := (.slice (some ⟨go24, 0, none⟩) x3_2.length co27)) (v1 := (.slice (some ⟨go24, 0, none⟩) x3_2.length co27)) (ok := (fun _ => True)) (by (with_reducible repeat (first | apply Kd.R_alloc | apply Kd.R_drewN | apply Kd.R_drew)); exact Kd.R_mono HO_4.out (fun _ hk => ⟨trivial, hk⟩)) hg (.inl rfl)); have n2_ := Aside0.mk ((by rw [hw]; exact below_set (HB.out) GB24.out : Below w.heap.size w w29)); clear HO_3; clear HO_4; clear HB; have HO_3 := n0_; have HO_4 := n1_; have HB := n2_; clear n0_ n1_ n2_; clear hg hw hp_; obtain ⟨Ao30, co30, eo30⟩ := Kd.R_slice HO_4.out; subst eo30; have p151 : 0 ≤ ((rd ((rd_T39 l0 x5_1).f5) x7_2) : Int) := of_decide_eq_true (by first | (with_reducible assumption) | assumption); have q151 : (rd ((rd_T39 l0 x5_1).f5) x7_2) < (x4_1.length : Int) := of_decide_eq_true (by first | (with_reducible assumption) | assumption); obtain ⟨ad151, e151, hx151_0⟩ := Kd.at_int (Kd.R_reads' HO_4.out).2.2 (rd ((rd_T39 l0 x5_1).f5) x7_2) p151 q151; cases e151; replace p151 := eq_true p151; replace q151 := eq_true q151; have p152 : 0 ≤ ((rd ((rd_T39 l0 x5_1).f5) x7_2) : Int) := of_decide_eq_true (by first | (with_reducible assumption) | assumption); have q152 : (rd ((rd_T39 l0 x5_1).f5) x7_2) < (x4_1.length : Int) := of_decide_eq_true (by first | (with_reducible assumption) | assumption); obtain ⟨ad152, e152, hx152_0⟩ := Kd.at_int (Kd.R_reads' HO_4.out).2.2 (rd ((rd_T39 l0 x5_1).f5) x7_2) p152 q152; obtain rfl : ad151 = ad152 := (by injection e152); replace p152 := eq_true p152; replace q152 := eq_true q152))
                                              go_roundg kj18
                                              case measure => have := HK1.out; have := HK2.out; have := HJ18.out; omega
                                              case rel => exact ⟨(y150), (rd x4_1 (rd ((rd_T39 l0 x5_1).f5) x7_2)), (wrap64 (x7_2 + 1)), (by first | rfl | (simp; done) | (simp [*]; done)), (by first | rfl | (simp; done) | (simp [*]; done)), H', ⟨by have := HK1.out; have := HK2.out; have := HJ18.out; omega⟩, ⟨by (with_reducible repeat (first | apply Kd.R_alloc | apply Kd.R_drewN | apply Kd.R_drew)); exact HO_3.out⟩, ⟨by (with_reducible repeat (first | apply Kd.R_alloc | apply Kd.R_drewN | apply Kd.R_drew)); exact Kd.R_mono HO_4.out (fun _ hk => hk.2)⟩, ⟨by repeat (first | (with_reducible first | exact HB.out | apply below_alloc | apply pw_below_drewN | apply below_drew1) | exact HB.out)⟩⟩
                                            · rw [if_neg c26] at H
                                              have c26b0 : decide (x6_2 < (rd x4_1 (rd ((rd_T39 l0 x5_1).f5) x7_2))) = false := decide_eq_false c26
                                              clear c26
                                              have H' := Aside0.mk H
                                              clear H
                                              obtain ⟨Ao31, co31, eo31⟩ := Kd.R_slice HO_3.out
                                              subst eo31
                                              have p149 : 0 ≤ ((rd ((rd_T39 l0 x5_1).f5) x7_2) : Int) := of_decide_eq_true (by first | (with_reducible assumption) | assumption)
                                              have q149 : (rd ((rd_T39 l0 x5_1).f5) x7_2) < (x3_2.length : Int) := of_decide_eq_true (by first | (with_reducible assumption) | assumption)
                                              obtain ⟨ad149, e149, hx149_0⟩ := Kd.at_int (Kd.R_reads' HO_3.out).2.2 (rd ((rd_T39 l0 x5_1).f5) x7_2) p149 q149
                                              cases e149
                                              replace p149 := eq_true p149
                                              replace q149 := eq_true q149
                                              have p24 : 0 ≤ ((rd ((rd_T39 l0 x5_1).f5) x7_2) : Int) := of_decide_eq_true (by first | (with_reducible assumption) | assumption)
                                              have q24 : ((rd ((rd_T39 l0 x5_1).f5) x7_2) : Int) < ((x3_2.length : Int) : Int) := of_decide_eq_true (by first | (with_reducible assumption) | assumption)
                                              obtain ⟨go24, co24, eo24, gb24, gl24, cl24, HG24⟩ := Kd.R_form HO_3.out (by omega)
                                              (first | cases eo24 | (injection eo24 with ea_ en_ ec_; (first | subst ea_ | (injection ea_ with ea_; subst ea_)); subst ec_; clear en_))
                                              have GB24 := Aside0.mk gb24
                                              have GG24 := Aside0.mk HG24
                                              clear gb24 gl24 HG24
                                              (first | simp only [add_plain] at hx149_0 | skip)
                                              obtain ⟨hx24_0, hf24_0⟩ := Kd.R_celln 0 HO_3.out ((rd ((rd_T39 l0 x5_1).f5) x7_2) : Int) p24 q24
                                              replace p24 := eq_true p24
                                              replace q24 := eq_true q24
                                              have HP32 := Kd.R_putg HO_3.out ((rd ((rd_T39 l0 x5_1).f5) x7_2) : Int) (wrap64 ((rd x3_2 (rd ((rd_T39 l0 x5_1).f5) x7_2)) + 1))
                                              go_wp2_with (first | ((with_reducible refine gate_store (t := 3) (p := 66) rfl ?_); refine store_event (t := 3) (p := 66) (v := ?vo_w33) (w1 := (wc.setCell ⟨go24, ((rd ((rd_T39 l0 x5_1).f5) x7_2) : Int).toNat, none⟩ (.int .i64 (wrap64 ((rd x3_2 (rd ((rd_T39 l0 x5_1).f5) x7_2)) + 1))))) ?hg ?ho ?hn ?hr ?_; (case ho => rfl); (case hg => rfl); (case hn => rfl); (case hr => first | (go_simp; done) | (go_simp; rfl)); intro w33 hw; have hg : wc.grownBy w33 (some go24) := (by rw [hw]; exact HP32.2); have hp_ : Kd.R (Kd.int .i64) 3 w33 w.heap.size (fun k_ => some k_ ≠ (v139 : Value).ownBlock) (.slice (some ⟨go24, 0, none⟩) x3_2.length co31) y150 := (by rw [hw, Ny150.out]; exact HP32.1); clear HP32; have n0_ := Aside0.mk (hp_); have n1_ := Aside0.mk (Kd.R_after (v := (.slice (some ⟨go24, 0, none⟩) x3_2.length co31)) (v1 := (.slice (some ⟨go24, 0, none⟩) x3_2.length co31)) (ok := (fun _ => True)) (by (with_reducible repeat (first | apply Kd.R_alloc | apply Kd.R_drewN | apply Kd.R_drew)); exact Kd.R_mono HO_4.out (fun _ hk => ⟨trivial, hk⟩)) hg (.inl rfl)); have n2_ := Aside0.mk ((by rw [hw]; exact below_set (HB.out) GB24.out : Below w.heap.size w w33)); clear HO_3; clear HO_4; clear HB; have HO_3 := n0_; have HO_4 := n1_; have HB := n2_; clear n0_ n1_ n2_; clear hg hw hp_; obtain ⟨Ao34, co34, eo34⟩ := Kd.R_slice HO_4.out; subst eo34; have p151 : 0 ≤ ((rd ((rd_T39 l0 x5_1).f5) x7_2) : Int) := of_decide_eq_true (by first | (with_reducible assumption) | assumption); have q151 : (rd ((rd_T39 l0 x5_1).f5) x7_2) < (x4_1.length : Int) := of_decide_eq_true (by first | (with_reducible assumption) | assumption); obtain ⟨ad151, e151, hx151_0⟩ := Kd.at_int (Kd.R_reads' HO_4.out).2.2 (rd ((rd_T39 l0 x5_1).f5) x7_2) p151 q151; cases e151; replace p151 := eq_true p151; replace q151 := eq_true q151))
                                              go_roundg kj18
                                              case measure => have := HK1.out; have := HK2.out; have := HJ18.out; omega
                                              case rel => exact ⟨(y150), (x6_2), (wrap64 (x7_2 + 1)), (by first | rfl | (simp; done) | (simp [*]; done)), (by first | rfl | (simp; done) | (simp [*]; done)), H', ⟨by have := HK1.out; have := HK2.out; have := HJ18.out; omega⟩, ⟨by (with_reducible repeat (first | apply Kd.R_alloc | apply Kd.R_drewN | apply Kd.R_drew)); exact HO_3.out⟩, ⟨by (with_reducible repeat (first | apply Kd.R_alloc | apply Kd.R_drewN | apply Kd.R_drew)); exact Kd.R_mono HO_4.out (fun _ hk => hk.2)⟩, ⟨by repeat (first | (with_reducible first | exact HB.out | apply below_alloc | apply pw_below_drewN | apply below_drew1) | exact HB.out)⟩⟩
                                          · rw [if_neg c25] at H
                                            exact absurd H (by simp)
                                        · rw [if_neg c23] at H
                                          exact absurd H (by simp)
                                      · rw [if_neg c22] at H
                                        exact absurd H (by simp)
                              · rw [if_neg c18] at H
                                exact absurd H (by simp)
                            · rw [if_neg c17] at H
                              have c17b0 : decide (x7_2 < (((rd_T39 l0 x5_1).f5).length : Int)) = false := decide_eq_false c17
                              clear c17
                              by_cases c35 : ((rd_T39 l0 x5_1).f0) ≥ 5
                              · rw [if_pos c35] at H
                                have c35b0 : decide (5 ≤ ((rd_T39 l0 x5_1).f0)) = true := decide_eq_true c35
                                clear c35
                                by_cases c36 : x5_1 < (x4_1.length : Int)
                                · rw [if_pos c36] at H
                                  have c36b0 : decide (x5_1 < (x4_1.length : Int)) = true := decide_eq_true c36
                                  clear c36
                                  obtain ⟨y145, hy145⟩ : ∃ y_ : List Int, y_ = (x4_1.set (x5_1 : Int).toNat (wrap64 (x6_2 + 1))) := ⟨_, rfl⟩
                                  replace H : (haulierref03_Check.l0 k2 l0 x3_2 y145 (wrap64 (x5_1 + 1))) = some r := by first | (rw [hy145]; with_reducible exact H) | (have H2_ := (Option.bind_some _ _).symm.trans H; rw [hy145]; with_reducible exact H2_) | (have H2_ := (Option.bind_some _ _).symm.trans H; with_reducible exact H2_) | with_reducible exact H | (rw [hy145]; exact H) | exact H
                                  have Ny145 := Aside0.mk hy145
                                  clear hy145
                                  have H' := Aside0.mk H
                                  clear H
                                  have p143 : 0 ≤ (x5_1 : Int) := of_decide_eq_true (by first | (with_reducible assumption) | assumption)
                                  have q143 : x5_1 < (l0.length : Int) := of_decide_eq_true (by first | (with_reducible assumption) | assumption)
                                  obtain ⟨ad143, A143_4, c143_4, A143_5, c143_5, e143, hx143_0, hx143_1, hx143_2, hx143_3, hx143_4, hx143_5, hl143_4, hi143_4, hl143_5, hi143_5⟩ := at_T39 HR0.out x5_1 p143 q143
                                  obtain rfl : ad141 = ad143 := (by injection e143)
                                  replace hx143_0 := (HB.out.cell (World.block_lt_of_cell? w _ hx143_0)).trans hx143_0
                                  replace hx143_1 := (HB.out.cell (World.block_lt_of_cell? w _ hx143_1)).trans hx143_1
                                  replace hx143_2 := (HB.out.cell (World.block_lt_of_cell? w _ hx143_2)).trans hx143_2
                                  replace hx143_3 := (HB.out.cell (World.block_lt_of_cell? w _ hx143_3)).trans hx143_3
                                  replace hx143_4 := (HB.out.cell (World.block_lt_of_cell? w _ hx143_4)).trans hx143_4
                                  replace hx143_5 := (HB.out.cell (World.block_lt_of_cell? w _ hx143_5)).trans hx143_5
                                  have HR143_4 := Aside0.mk hi143_4
                                  have HC143_4 := Aside0.mk hl143_4
                                  clear hi143_4 hl143_4
                                  have HR143_5 := Aside0.mk hi143_5
                                  have HC143_5 := Aside0.mk hl143_5
                                  clear hi143_5 hl143_5
                                  replace p143 := eq_true p143
                                  replace q143 := eq_true q143
                                  have p144 : 0 ≤ (x5_1 : Int) := of_decide_eq_true (by first | (with_reducible assumption) | assumption)
                                  have q144 : x5_1 < (l0.length : Int) := of_decide_eq_true (by first | (with_reducible assumption) | assumption)
                                  obtain ⟨ad144, A144_4, c144_4, A144_5, c144_5, e144, hx144_0, hx144_1, hx144_2, hx144_3, hx144_4, hx144_5, hl144_4, hi144_4, hl144_5, hi144_5⟩ := at_T39 HR0.out x5_1 p144 q144
                                  obtain rfl : ad141 = ad144 := (by injection e144)
                                  replace hx144_0 := (HB.out.cell (World.block_lt_of_cell? w _ hx144_0)).trans hx144_0
                                  replace hx144_1 := (HB.out.cell (World.block_lt_of_cell? w _ hx144_1)).trans hx144_1
                                  replace hx144_2 := (HB.out.cell (World.block_lt_of_cell? w _ hx144_2)).trans hx144_2
                                  replace hx144_3 := (HB.out.cell (World.block_lt_of_cell? w _ hx144_3)).trans hx144_3
                                  replace hx144_4 := (HB.out.cell (World.block_lt_of_cell? w _ hx144_4)).trans hx144_4
                                  replace hx144_5 := (HB.out.cell (World.block_lt_of_cell? w _ hx144_5)).trans hx144_5
                                  have HR144_4 := Aside0.mk hi144_4
                                  have HC144_4 := Aside0.mk hl144_4
                                  clear hi144_4 hl144_4
                                  have HR144_5 := Aside0.mk hi144_5
                                  have HC144_5 := Aside0.mk hl144_5
                                  clear hi144_5 hl144_5
                                  replace p144 := eq_true p144
                                  replace q144 := eq_true q144
                                  have ea_ := Option.some.inj (hx143_4.symm.trans hx144_4)
                                  injection ea_ with ea_ en_ ec_
                                  subst ea_
                                  subst ec_
                                  clear en_
                                  have ea_ := Option.some.inj (hx143_5.symm.trans hx144_5)
                                  injection ea_ with ea_ en_ ec_
                                  subst ea_
                                  subst ec_
                                  clear en_
                                  have p37 : 0 ≤ (x5_1 : Int) := of_decide_eq_true (by first | (with_reducible assumption) | assumption)
                                  have q37 : (x5_1 : Int) < ((x4_1.length : Int) : Int) := of_decide_eq_true (by first | (with_reducible assumption) | assumption)
                                  obtain ⟨go37, co37, eo37, gb37, gl37, cl37, HG37⟩ := Kd.R_form HO_4.out (by omega)
                                  (first | cases eo37 | (injection eo37 with ea_ en_ ec_; (first | subst ea_ | (injection ea_ with ea_; subst ea_)); subst ec_; clear en_))
                                  have GB37 := Aside0.mk gb37
                                  have GG37 := Aside0.mk HG37
                                  clear gb37 gl37 HG37
                                  obtain ⟨hx37_0, hf37_0⟩ := Kd.R_celln 0 HO_4.out (x5_1 : Int) p37 q37
                                  replace p37 := eq_true p37
                                  replace q37 := eq_true q37
                                  have HP38 := Kd.R_putg HO_4.out (x5_1 : Int) (wrap64 (x6_2 + 1))
                                  go_wp2_with (first | ((with_reducible refine gate_store (t := 3) (p := 88) rfl ?_); refine store_event (t := 3) (p := 88) (v := ?vo_w39) (w1 := (wr.setCell ⟨go37, (x5_1 : Int).toNat, none⟩ (.int .i64 (wrap64 (x6_2 + 1))))) ?hg ?ho ?hn ?hr ?_; (case ho => rfl); (case hg => rfl); (case hn => rfl); (case hr => first | (go_simp; done) | (go_simp; rfl)); intro w39 hw; have hg : wr.grownBy w39 (some go37) := (by rw [hw]; exact HP38.2); have hp_ : Kd.R (Kd.int .i64) 3 w39 w.heap.size (fun k_ => some k_ ≠ (v136 : Value).ownBlock) (.slice (some ⟨go37, 0, none⟩) x4_1.length co37) y145 := (by rw [hw, Ny145.out]; exact HP38.1); clear HP38; have n0_ := Aside0.mk (Kd.R_after (v := (.slice (some ⟨go37, 0, none⟩) x4_1.length co37)) (v1 := (.slice (some ⟨go37, 0, none⟩) x4_1.length co37)) (ok := (fun _ => True)) (by (with_reducible repeat (first | apply Kd.R_alloc | apply Kd.R_drewN | apply Kd.R_drew)); exact Kd.R_mono HO_3.out (fun _ hk => ⟨trivial, hk⟩)) hg (.inl rfl)); have n1_ := Aside0.mk (hp_); have n2_ := Aside0.mk ((by rw [hw]; exact below_set (HB.out) GB37.out : Below w.heap.size w w39)); clear HO_3; clear HO_4; clear HB; have HO_3 := n0_; have HO_4 := n1_; have HB := n2_; clear n0_ n1_ n2_; clear hg hw hp_))
                                  go_roundg k2
                                  case measure => have := HK1.out; have := HK2.out; omega
                                  case rel => exact ⟨(x3_2), (y145), (wrap64 (x5_1 + 1)), (by first | rfl | (simp; done) | (simp [*]; done)), H', ⟨by have := HK1.out; have := HK2.out; omega⟩, ⟨by (with_reducible repeat (first | apply Kd.R_alloc | apply Kd.R_drewN | apply Kd.R_drew)); exact Kd.R_mono HO_3.out (fun _ hk => hk.2)⟩, ⟨by (with_reducible repeat (first | apply Kd.R_alloc | apply Kd.R_drewN | apply Kd.R_drew)); exact HO_4.out⟩, ⟨by repeat (first | (with_reducible first | exact HB.out | apply below_alloc | apply pw_below_drewN | apply below_drew1) | exact HB.out)⟩⟩
                                · rw [if_neg c36] at H
                                  exact absurd H (by simp)
                              · rw [if_neg c35] at H
                                have c35b0 : decide (5 ≤ ((rd_T39 l0 x5_1).f0)) = false := decide_eq_false c35
                                clear c35
                                by_cases c40 : x5_1 < (x4_1.length : Int)
                                · rw [if_pos c40] at H
                                  have c40b0 : decide (x5_1 < (x4_1.length : Int)) = true := decide_eq_true c40
                                  clear c40
                                  obtain ⟨y146, hy146⟩ : ∃ y_ : List Int, y_ = (x4_1.set (x5_1 : Int).toNat x6_2) := ⟨_, rfl⟩
                                  replace H : (haulierref03_Check.l0 k2 l0 x3_2 y146 (wrap64 (x5_1 + 1))) = some r := by first | (rw [hy146]; with_reducible exact H) | (have H2_ := (Option.bind_some _ _).symm.trans H; rw [hy146]; with_reducible exact H2_) | (have H2_ := (Option.bind_some _ _).symm.trans H; with_reducible exact H2_) | with_reducible exact H | (rw [hy146]; exact H) | exact H
                                  have Ny146 := Aside0.mk hy146
                                  clear hy146
                                  have H' := Aside0.mk H
                                  clear H
                                  have p143 : 0 ≤ (x5_1 : Int) := of_decide_eq_true (by first | (with_reducible assumption) | assumption)
                                  have q143 : x5_1 < (l0.length : Int) := of_decide_eq_true (by first | (with_reducible assumption) | assumption)
                                  obtain ⟨ad143, A143_4, c143_4, A143_5, c143_5, e143, hx143_0, hx143_1, hx143_2, hx143_3, hx143_4, hx143_5, hl143_4, hi143_4, hl143_5, hi143_5⟩ := at_T39 HR0.out x5_1 p143 q143
                                  obtain rfl : ad141 = ad143 := (by injection e143)
                                  replace hx143_0 := (HB.out.cell (World.block_lt_of_cell? w _ hx143_0)).trans hx143_0
                                  replace hx143_1 := (HB.out.cell (World.block_lt_of_cell? w _ hx143_1)).trans hx143_1
                                  replace hx143_2 := (HB.out.cell (World.block_lt_of_cell? w _ hx143_2)).trans hx143_2
                                  replace hx143_3 := (HB.out.cell (World.block_lt_of_cell? w _ hx143_3)).trans hx143_3
                                  replace hx143_4 := (HB.out.cell (World.block_lt_of_cell? w _ hx143_4)).trans hx143_4
                                  replace hx143_5 := (HB.out.cell (World.block_lt_of_cell? w _ hx143_5)).trans hx143_5
                                  have HR143_4 := Aside0.mk hi143_4
                                  have HC143_4 := Aside0.mk hl143_4
                                  clear hi143_4 hl143_4
                                  have HR143_5 := Aside0.mk hi143_5
                                  have HC143_5 := Aside0.mk hl143_5
                                  clear hi143_5 hl143_5
                                  replace p143 := eq_true p143
                                  replace q143 := eq_true q143
                                  have p144 : 0 ≤ (x5_1 : Int) := of_decide_eq_true (by first | (with_reducible assumption) | assumption)
                                  have q144 : x5_1 < (l0.length : Int) := of_decide_eq_true (by first | (with_reducible assumption) | assumption)
                                  obtain ⟨ad144, A144_4, c144_4, A144_5, c144_5, e144, hx144_0, hx144_1, hx144_2, hx144_3, hx144_4, hx144_5, hl144_4, hi144_4, hl144_5, hi144_5⟩ := at_T39 HR0.out x5_1 p144 q144
                                  obtain rfl : ad141 = ad144 := (by injection e144)
                                  replace hx144_0 := (HB.out.cell (World.block_lt_of_cell? w _ hx144_0)).trans hx144_0
                                  replace hx144_1 := (HB.out.cell (World.block_lt_of_cell? w _ hx144_1)).trans hx144_1
                                  replace hx144_2 := (HB.out.cell (World.block_lt_of_cell? w _ hx144_2)).trans hx144_2
                                  replace hx144_3 := (HB.out.cell (World.block_lt_of_cell? w _ hx144_3)).trans hx144_3
                                  replace hx144_4 := (HB.out.cell (World.block_lt_of_cell? w _ hx144_4)).trans hx144_4
                                  replace hx144_5 := (HB.out.cell (World.block_lt_of_cell? w _ hx144_5)).trans hx144_5
                                  have HR144_4 := Aside0.mk hi144_4
                                  have HC144_4 := Aside0.mk hl144_4
                                  clear hi144_4 hl144_4
                                  have HR144_5 := Aside0.mk hi144_5
                                  have HC144_5 := Aside0.mk hl144_5
                                  clear hi144_5 hl144_5
                                  replace p144 := eq_true p144
                                  replace q144 := eq_true q144
                                  have ea_ := Option.some.inj (hx143_4.symm.trans hx144_4)
                                  injection ea_ with ea_ en_ ec_
                                  subst ea_
                                  subst ec_
                                  clear en_
                                  have ea_ := Option.some.inj (hx143_5.symm.trans hx144_5)
                                  injection ea_ with ea_ en_ ec_
                                  subst ea_
                                  subst ec_
                                  clear en_
                                  have p41 : 0 ≤ (x5_1 : Int) := of_decide_eq_true (by first | (with_reducible assumption) | assumption)
                                  have q41 : (x5_1 : Int) < ((x4_1.length : Int) : Int) := of_decide_eq_true (by first | (with_reducible assumption) | assumption)
                                  obtain ⟨go41, co41, eo41, gb41, gl41, cl41, HG41⟩ := Kd.R_form HO_4.out (by omega)
                                  (first | cases eo41 | (injection eo41 with ea_ en_ ec_; (first | subst ea_ | (injection ea_ with ea_; subst ea_)); subst ec_; clear en_))
                                  have GB41 := Aside0.mk gb41
                                  have GG41 := Aside0.mk HG41
                                  clear gb41 gl41 HG41
                                  obtain ⟨hx41_0, hf41_0⟩ := Kd.R_celln 0 HO_4.out (x5_1 : Int) p41 q41
                                  replace p41 := eq_true p41
                                  replace q41 := eq_true q41
                                  have HP42 := Kd.R_putg HO_4.out (x5_1 : Int) x6_2
                                  go_wp2_with (first | ((with_reducible refine gate_store (t := 3) (p := 88) rfl ?_); refine store_event (t := 3) (p := 88) (v := ?vo_w43) (w1 := (wr.setCell ⟨go41, (x5_1 : Int).toNat, none⟩ (.int .i64 x6_2))) ?hg ?ho ?hn ?hr ?_; (case ho => rfl); (case hg => rfl); (case hn => rfl); (case hr => first | (go_simp; done) | (go_simp; rfl)); intro w43 hw; have hg : wr.grownBy w43 (some go41) := (by rw [hw]; exact HP42.2); have hp_ : Kd.R (Kd.int .i64) 3 w43 w.heap.size (fun k_ => some k_ ≠ (v136 : Value).ownBlock) (.slice (some ⟨go41, 0, none⟩) x4_1.length co41) y146 := (by rw [hw, Ny146.out]; exact HP42.1); clear HP42; have n0_ := Aside0.mk (Kd.R_after (v := (.slice (some ⟨go41, 0, none⟩) x4_1.length co41)) (v1 := (.slice (some ⟨go41, 0, none⟩) x4_1.length co41)) (ok := (fun _ => True)) (by (with_reducible repeat (first | apply Kd.R_alloc | apply Kd.R_drewN | apply Kd.R_drew)); exact Kd.R_mono HO_3.out (fun _ hk => ⟨trivial, hk⟩)) hg (.inl rfl)); have n1_ := Aside0.mk (hp_); have n2_ := Aside0.mk ((by rw [hw]; exact below_set (HB.out) GB41.out : Below w.heap.size w w43)); clear HO_3; clear HO_4; clear HB; have HO_3 := n0_; have HO_4 := n1_; have HB := n2_; clear n0_ n1_ n2_; clear hg hw hp_))
                                  go_roundg k2
                                  case measure => have := HK1.out; have := HK2.out; omega
                                  case rel => exact ⟨(x3_2), (y146), (wrap64 (x5_1 + 1)), (by first | rfl | (simp; done) | (simp [*]; done)), H', ⟨by have := HK1.out; have := HK2.out; omega⟩, ⟨by (with_reducible repeat (first | apply Kd.R_alloc | apply Kd.R_drewN | apply Kd.R_drew)); exact Kd.R_mono HO_3.out (fun _ hk => hk.2)⟩, ⟨by (with_reducible repeat (first | apply Kd.R_alloc | apply Kd.R_drewN | apply Kd.R_drew)); exact HO_4.out⟩, ⟨by repeat (first | (with_reducible first | exact HB.out | apply below_alloc | apply pw_below_drewN | apply below_drew1) | exact HB.out)⟩⟩
                                · rw [if_neg c40] at H
                                  exact absurd H (by simp)
                          · rw [if_neg c16] at H
                            exact absurd H (by simp)
                        · rw [if_neg c15] at H
                          exact absurd H (by simp)
                  · replace c13 := Bool.eq_false_iff.mpr c13
                    subst c13
                    have H1 : (some 29) = some r := by rw [if_neg (show ¬ (false = true) by decide)] at H; exact H
                    clear H
                    have H := H1
                    clear H1
                    obtain rfl := Option.some.inj H
                    have p141 : 0 ≤ (x5_1 : Int) := of_decide_eq_true (by first | (with_reducible assumption) | assumption)
                    have q141 : x5_1 < (l0.length : Int) := of_decide_eq_true (by first | (with_reducible assumption) | assumption)
                    obtain ⟨ad141, A141_4, c141_4, A141_5, c141_5, e141, hx141_0, hx141_1, hx141_2, hx141_3, hx141_4, hx141_5, hl141_4, hi141_4, hl141_5, hi141_5⟩ := at_T39 HR0.out x5_1 p141 q141
                    cases e141
                    replace hx141_0 := (HB.out.cell (World.block_lt_of_cell? w _ hx141_0)).trans hx141_0
                    replace hx141_1 := (HB.out.cell (World.block_lt_of_cell? w _ hx141_1)).trans hx141_1
                    replace hx141_2 := (HB.out.cell (World.block_lt_of_cell? w _ hx141_2)).trans hx141_2
                    replace hx141_3 := (HB.out.cell (World.block_lt_of_cell? w _ hx141_3)).trans hx141_3
                    replace hx141_4 := (HB.out.cell (World.block_lt_of_cell? w _ hx141_4)).trans hx141_4
                    replace hx141_5 := (HB.out.cell (World.block_lt_of_cell? w _ hx141_5)).trans hx141_5
                    have HR141_4 := Aside0.mk hi141_4
                    have HC141_4 := Aside0.mk hl141_4
                    clear hi141_4 hl141_4
                    have HR141_5 := Aside0.mk hi141_5
                    have HC141_5 := Aside0.mk hl141_5
                    clear hi141_5 hl141_5
                    replace p141 := eq_true p141
                    replace q141 := eq_true q141
                    go_wp2_with (first | ((with_reducible refine gate_callee (f := 24) rfl ?_); refine goesL_ (some 32) rfl rfl Tryd.func24 (by kernel_rfl) rfl #[.agg #[.int .i64 ((rd_T39 l0 x5_1).f0), .bool ((rd_T39 l0 x5_1).f1), .int .i64 ((rd_T39 l0 x5_1).f2), .string ((rd_T39 l0 x5_1).f3), .slice A141_4 ((rd_T39 l0 x5_1).f4).length c141_4, .slice A141_5 ((rd_T39 l0 x5_1).f5).length c141_5]] rfl (by (try simp only [List.map_toArray, List.map_cons, List.map_nil]); first | done | rfl | (simp only [List.length_drop, List.length_take]; rfl)) ?_; (with_reducible refine (haulierref03_plain.calls k1 ((rd_T39 l0 x5_1).f0) ((rd_T39 l0 x5_1).f1) ((rd_T39 l0 x5_1).f2) ((rd_T39 l0 x5_1).f3) _ _ ((rd_T39 l0 x5_1).f4) _ _ ((rd_T39 l0 x5_1).f5) false _ ⟨by repeat (first | exact hG.out | exact hG.out.below (by repeat (first | (with_reducible first | exact HB.out | apply below_alloc | apply pw_below_drewN | apply below_drew1) | exact HB.out | exact Below.refl _ _)) | apply Glob.drewN | apply Glob.drew)⟩ ?side1 ?side2 ?side3 ?side4 A12.out).mono ?_); (case side1 => repeat (first | exact (Kd.C_below HR141_4.out HB.out) | (with_reducible refine Kd.C_alloc ?_ _) | (with_reducible refine Kd.C_drewN ?_ _) | (with_reducible refine Kd.C_drew ?_))); (case side2 => exact HC141_4.out); (case side3 => repeat (first | exact (Kd.C_below HR141_5.out HB.out) | (with_reducible refine Kd.C_alloc ?_ _) | (with_reducible refine Kd.C_drewN ?_ _) | (with_reducible refine Kd.C_drew ?_))); (case side4 => exact HC141_5.out); rintro e w44 ⟨rfl, hb⟩; refine ⟨_, rfl, ?_⟩; have n0_ := Aside0.mk (Kd.R_below (by (with_reducible repeat (first | apply Kd.R_alloc | apply Kd.R_drewN | apply Kd.R_drew)); exact HO_3.out) hb); have n1_ := Aside0.mk (Kd.R_below (by (with_reducible repeat (first | apply Kd.R_alloc | apply Kd.R_drewN | apply Kd.R_drew)); exact HO_4.out) hb); have n2_ := Aside0.mk (below_step (by repeat (first | (with_reducible first | exact HB.out | apply below_alloc | apply pw_below_drewN | apply below_drew1) | exact HB.out)) hb); clear HO_3; clear HO_4; clear HB; have HO_3 := n0_; have HO_4 := n1_; have HB := n2_; clear n0_ n1_ n2_; (try clear hb); (try clear hb2); (try clear hk); (try clear hi)))
                    go_ret
                    exact ⟨by first | rfl | (simp [errW_none, errW_some] <;> rfl) | (simp [*, errW_none, errW_some] <;> rfl), by repeat (first | (with_reducible first | exact HB.out | apply below_alloc | apply pw_below_drewN | apply below_drew1) | exact HB.out)⟩
                · rw [if_neg c11] at H
                  exact absurd H (by simp)
              · rw [if_neg c10] at H
                have c10b0 : decide (x5_1 < (l0.length : Int)) = false := decide_eq_false c10
                clear c10
                have H' := Aside0.mk H
                clear H
                go_wp2
                go_loopg [9] k1 (fun kq v9 w' => ∃ (x9_2 : Int), v9 = .int .i64 x9_2 ∧ Aside0 (haulierref03_Check.l2 kq l0 x3_1 x4_1 x9_2 = some r) ∧ Aside0 (kq ≤ k1) ∧ Aside0 (Kd.R (Kd.int .i64) 3 w' w.heap.size (fun k_ => some k_ ≠ (v139 : Value).ownBlock) v136 x3_1) ∧ Aside0 (Kd.R (Kd.int .i64) 3 w' w.heap.size (fun k_ => some k_ ≠ (v136 : Value).ownBlock) v139 x4_1) ∧ Aside0 (Below w.heap.size w w'))
                case atStart => exact ⟨(0), (by first | rfl | (simp; done) | (simp [*]; done)), H', ⟨Nat.le_refl _⟩, ⟨by (with_reducible repeat (first | apply Kd.R_alloc | apply Kd.R_drewN | apply Kd.R_drew)); exact HO_3.out⟩, ⟨by (with_reducible repeat (first | apply Kd.R_alloc | apply Kd.R_drewN | apply Kd.R_drew)); exact HO_4.out⟩, ⟨by repeat (first | (with_reducible first | exact HB.out | apply below_alloc | apply pw_below_drewN | apply below_drew1) | exact HB.out)⟩⟩
                case round =>
                  clear H'
                  try clear c1
                  try clear p1
                  try clear q1
                  try clear hx1
                  try clear c2
                  try clear c2b0
                  try clear c2b1
                  try clear c2b2
                  try clear p2
                  try clear q2
                  try clear hx2
                  try clear hf2
                  try clear c3
                  try clear c3b0
                  try clear c3b1
                  try clear p3
                  try clear q3
                  try clear hx3
                  try clear hf3
                  try clear c4
                  try clear c4b0
                  try clear c4b1
                  try clear p4
                  try clear q4
                  try clear hx4
                  try clear hf4
                  try clear c5
                  try clear c5b0
                  try clear c5b1
                  try clear p6
                  try clear c10
                  try clear c10b0
                  try clear c11
                  try clear c11b0
                  try clear c13
                  try clear c14
                  try clear p14
                  try clear q14
                  try clear hx14
                  try clear c15
                  try clear c15b0
                  try clear p15
                  try clear q15
                  try clear hx15
                  try clear c16
                  try clear c16b0
                  try clear c17
                  try clear c17b0
                  try clear c18
                  try clear c18b0
                  try clear c20
                  try clear c20b0
                  try clear c21
                  try clear c22
                  try clear c22b0
                  try clear c23
                  try clear c23b0
                  try clear c24
                  try clear p24
                  try clear q24
                  try clear hx24
                  try clear hf24
                  try clear c25
                  try clear c25b0
                  try clear c26
                  try clear c26b0
                  try clear c35
                  try clear c35b0
                  try clear c36
                  try clear c36b0
                  try clear p37
                  try clear q37
                  try clear hx37
                  try clear hf37
                  try clear c40
                  try clear c40b0
                  try clear p41
                  try clear q41
                  try clear hx41
                  try clear hf41
                  try clear hx141_0
                  try clear hx141_1
                  try clear hx141_2
                  try clear hx141_3
                  try clear hx141_4
                  try clear hx141_5
                  try clear hx143_0
                  try clear hx143_1
                  try clear hx143_2
                  try clear hx143_3
                  try clear hx143_4
                  try clear hx143_5
                  try clear hx144_0
                  try clear hx144_1
                  try clear hx144_2
                  try clear hx144_3
                  try clear hx144_4
                  try clear hx144_5
                  try clear hx147_0
                  try clear hx147_1
                  try clear hx147_2
                  try clear hx147_3
                  try clear hx147_4
                  try clear hx147_5
                  try clear hx148_0
                  try clear hx149_0
                  try clear hx151_0
                  try clear hx152_0
                  try clear hx24_0
                  try clear hx37_0
                  try clear hx41_0
                  try clear p1
                  try clear p14
                  try clear p141
                  try clear p143
                  try clear p144
                  try clear p147
                  try clear p148
                  try clear p149
                  try clear p151
                  try clear p152
                  try clear p2
                  try clear p24
                  try clear p37
                  try clear p41
                  try clear q1
                  try clear q14
                  try clear q141
                  try clear q143
                  try clear q144
                  try clear q147
                  try clear q148
                  try clear q149
                  try clear q151
                  try clear q152
                  try clear q24
                  try clear q37
                  try clear q41
                  obtain ⟨x9_2, rfl, HA, HK2, HO_3, HO_4, HB⟩ := hrel
                  cases gk with
                  | zero => exact absurd HA.out (by simp [haulierref03_Check.l2])
                  | succ k2 =>
                    have H := HA.out
                    clear HA
                    simp only [haulierref03_Check.l2] at H
                    by_cases c45 : x9_2 < (wrap64 ((l0.length : Int) - 1))
                    · rw [if_pos c45] at H
                      have c45b0 : decide (x9_2 < (wrap64 ((l0.length : Int) - 1))) = true := decide_eq_true c45
                      clear c45
                      by_cases c46 : 0 ≤ x9_2
                      · rw [if_pos c46] at H
                        have c46b0 : decide (0 ≤ x9_2) = true := decide_eq_true c46
                        clear c46
                        by_cases c47 : x9_2 < (x3_1.length : Int)
                        · rw [if_pos c47] at H
                          have c47b0 : decide (x9_2 < (x3_1.length : Int)) = true := decide_eq_true c47
                          clear c47
                          by_cases c48 : (rd x3_1 x9_2) = 1
                          · rw [if_pos c48] at H
                            have c48b0 : ((rd x3_1 x9_2) == 1) = true := beq_iff_eq.mpr c48
                            have c48b1 : ((rd x3_1 x9_2) != 1) = false := bne_eq_false_iff_eq.mpr c48
                            clear c48
                            have H' := Aside0.mk H
                            clear H
                            obtain ⟨Ao49, co49, eo49⟩ := Kd.R_slice HO_3.out
                            subst eo49
                            have p153 : 0 ≤ (x9_2 : Int) := of_decide_eq_true (by first | (with_reducible assumption) | assumption)
                            have q153 : x9_2 < (x3_1.length : Int) := of_decide_eq_true (by first | (with_reducible assumption) | assumption)
                            obtain ⟨ad153, e153, hx153_0⟩ := Kd.at_int (Kd.R_reads' HO_3.out).2.2 x9_2 p153 q153
                            cases e153
                            replace p153 := eq_true p153
                            replace q153 := eq_true q153
                            go_wp2
                            go_roundg k2
                            case measure => have := HK1.out; have := HK2.out; omega
                            case rel => exact ⟨(wrap64 (x9_2 + 1)), (by first | rfl | (simp; done) | (simp [*]; done)), H', ⟨by have := HK1.out; have := HK2.out; omega⟩, ⟨by (with_reducible repeat (first | apply Kd.R_alloc | apply Kd.R_drewN | apply Kd.R_drew)); exact HO_3.out⟩, ⟨by (with_reducible repeat (first | apply Kd.R_alloc | apply Kd.R_drewN | apply Kd.R_drew)); exact HO_4.out⟩, ⟨by repeat (first | (with_reducible first | exact HB.out | apply below_alloc | apply pw_below_drewN | apply below_drew1) | exact HB.out)⟩⟩
                          · rw [if_neg c48] at H
                            have c48b0 : ((rd x3_1 x9_2) == 1) = false := beq_eq_false_iff_ne.mpr c48
                            have c48b1 : ((rd x3_1 x9_2) != 1) = true := bne_iff_ne.mpr c48
                            obtain rfl := Option.some.inj H
                            obtain ⟨Ao50, co50, eo50⟩ := Kd.R_slice HO_3.out
                            subst eo50
                            have p153 : 0 ≤ (x9_2 : Int) := of_decide_eq_true (by first | (with_reducible assumption) | assumption)
                            have q153 : x9_2 < (x3_1.length : Int) := of_decide_eq_true (by first | (with_reducible assumption) | assumption)
                            obtain ⟨ad153, e153, hx153_0⟩ := Kd.at_int (Kd.R_reads' HO_3.out).2.2 x9_2 p153 q153
                            cases e153
                            replace p153 := eq_true p153
                            replace q153 := eq_true q153
                            go_wp2
                            go_ret
                            exact ⟨by first | rfl | (simp [errW_none, errW_some] <;> rfl) | (simp [*, errW_none, errW_some] <;> rfl), by repeat (first | (with_reducible first | exact HB.out | apply below_alloc | apply pw_below_drewN | apply below_drew1) | exact HB.out)⟩
                        · rw [if_neg c47] at H
                          exact absurd H (by simp)
                      · rw [if_neg c46] at H
                        exact absurd H (by simp)
                    · rw [if_neg c45] at H
                      have c45b0 : decide (x9_2 < (wrap64 ((l0.length : Int) - 1))) = false := decide_eq_false c45
                      clear c45
                      obtain ⟨ji51, hji51⟩ : ∃ j_ : Int, (wrap64 ((l0.length : Int) - 1)) = j_ := ⟨_, rfl⟩
                      replace H : (if 0 ≤ (ji51) then (if (ji51) < (x4_1.length : Int) then (if (rd x4_1 (ji51)) > 16 then (some 26) else (some 0)) else (none)) else (none)) = some r := by first | (rw [hji51] at H; exact H) | (simp only [hji51] at H ⊢; exact H)
                      (try rw [hji51] at c45b0)
                      have hji51w : (IntKind.i64.wrap ((l0.length : Int) - 1)) = ji51 := (i64_w _).trans hji51
                      by_cases c52 : 0 ≤ (ji51)
                      · rw [if_pos c52] at H
                        have c52b0 : decide (0 ≤ (ji51)) = true := decide_eq_true c52
                        clear c52
                        by_cases c53 : (ji51) < (x4_1.length : Int)
                        · rw [if_pos c53] at H
                          have c53b0 : decide ((ji51) < (x4_1.length : Int)) = true := decide_eq_true c53
                          clear c53
                          by_cases c54 : (rd x4_1 (ji51)) > 16
                          · rw [if_pos c54] at H
                            have c54b0 : decide (16 < (rd x4_1 (ji51))) = true := decide_eq_true c54
                            clear c54
                            obtain rfl := Option.some.inj H
                            obtain ⟨Ao55, co55, eo55⟩ := Kd.R_slice HO_4.out
                            subst eo55
                            have p154 : 0 ≤ ((ji51) : Int) := of_decide_eq_true (by first | (with_reducible assumption) | assumption)
                            have q154 : (ji51) < (x4_1.length : Int) := of_decide_eq_true (by first | (with_reducible assumption) | assumption)
                            obtain ⟨ad154, e154, hx154_0⟩ := Kd.at_int (Kd.R_reads' HO_4.out).2.2 (ji51) p154 q154
                            cases e154
                            replace p154 := eq_true p154
                            replace q154 := eq_true q154
                            go_wp2
                            go_ret
                            exact ⟨by first | rfl | (simp [errW_none, errW_some] <;> rfl) | (simp only [← hji51]; first | rfl | (simp [errW_none, errW_some] <;> rfl)) | (simp [*, errW_none, errW_some] <;> rfl), by repeat (first | (with_reducible first | exact HB.out | apply below_alloc | apply pw_below_drewN | apply below_drew1) | exact HB.out)⟩
                          · rw [if_neg c54] at H
                            have c54b0 : decide (16 < (rd x4_1 (ji51))) = false := decide_eq_false c54
                            clear c54
                            obtain rfl := Option.some.inj H
                            obtain ⟨Ao56, co56, eo56⟩ := Kd.R_slice HO_4.out
                            subst eo56
                            have p154 : 0 ≤ ((ji51) : Int) := of_decide_eq_true (by first | (with_reducible assumption) | assumption)
                            have q154 : (ji51) < (x4_1.length : Int) := of_decide_eq_true (by first | (with_reducible assumption) | assumption)
                            obtain ⟨ad154, e154, hx154_0⟩ := Kd.at_int (Kd.R_reads' HO_4.out).2.2 (ji51) p154 q154
                            cases e154
                            replace p154 := eq_true p154
                            replace q154 := eq_true q154
                            go_wp2
                            go_ret
                            exact ⟨by first | rfl | (simp [errW_none, errW_some] <;> rfl) | (simp only [← hji51]; first | rfl | (simp [errW_none, errW_some] <;> rfl)) | (simp [*, errW_none, errW_some] <;> rfl), by repeat (first | (with_reducible first | exact HB.out | apply below_alloc | apply pw_below_drewN | apply below_drew1) | exact HB.out)⟩
                        · rw [if_neg c53] at H
                          exact absurd H (by simp)
                      · rw [if_neg c52] at H
                        exact absurd H (by simp)
        · rw [if_neg c5] at H
          exact absurd H (by simp)
      · rw [if_neg c4] at H
        exact absurd H (by simp)
end Go.Proofs.YtldlkoncndlbhaaDoor.PSh
