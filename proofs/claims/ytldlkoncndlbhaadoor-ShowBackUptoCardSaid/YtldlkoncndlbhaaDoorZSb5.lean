/- YtldlkoncndlbhaaDoorZSb5: texts of the seat (PShx2), one behind the other, without what this claim's theorem does not rest on. -/
import Derived.Test.YtldlkoncndlbhaaDoorZSb4

-- Laid by wip/mk/mk.py of this session (the kit's printer with this session's contracts for library functions).
namespace Go.Proofs.YtldlkoncndlbhaaDoor.PSh
open Go.RowKit Go.Proofs.YtldlkoncndlbhaaDoorW.PrintWords Go.Proofs.YtldlkoncndlbhaaDoorW.PrintLast Go.Proofs.YtldlkoncndlbhaaDoorW.PrintMore
attribute [local go_sem] max2_int min2_int max_two min_two max_three min_three max_four min_four   -- for this text's walks alone
set_option linter.unusedVariables false
set_option linter.unusedSimpArgs false
/-! ### show_Check: function 11 -/
mutual
def show_Check.l0 : Nat → List (S39) → List Bool → List Int → List (S39) → Int → Int → Option (Int)
  | 0, _, _, _, _, _, _ => none
  | k + 1, x0, x3, x4, x21, x22, x23 => if x23 < x22 then (if 0 ≤ x23 then (if x23 < (x21.length : Int) then ((show_plain.f ((rd_T39 x21 x23).f0) ((rd_T39 x21 x23).f1) ((rd_T39 x21 x23).f2) ((rd_T39 x21 x23).f3) ((rd_T39 x21 x23).f4) ((rd_T39 x21 x23).f5)).bind fun t111 => (if t111 = true then (show_Check.l1 k x0 x3 x4 x23 x21 x22 x23 ((rd_T39 x21 x23).f5) (((rd_T39 x21 x23).f5).length : Int) 0 ((rd_T39 x21 x23).f0) ((rd_T39 x21 x23).f1) ((rd_T39 x21 x23).f2) ((rd_T39 x21 x23).f3) ((rd_T39 x21 x23).f4) ((rd_T39 x21 x23).f5)) else (some 29))) else (none)) else (none)) else (if 0 ≤ (wrap64 ((x0.length : Int) - 1)) then (if (wrap64 ((x0.length : Int) - 1)) ≤ (x3.length : Int) then ((slices_Contains_bool_bool.f k (x3.take ((wrap64 ((x0.length : Int) - 1)) : Int).toNat) false).bind fun t126 => (if t126 = true then (some 29) else (if (wrap64 ((x0.length : Int) - 1)) < (x4.length : Int) then (if (rd x4 (wrap64 ((x0.length : Int) - 1))) > 16 then (some 26) else (some 0)) else (none)))) else (none)) else (none))
def show_Check.l1 : Nat → List (S39) → List Bool → List Int → Int → List (S39) → Int → Int → List Int → Int → Int → Int → Bool → Int → ByteArray → List ByteArray → List Int → Option (Int)
  | 0, _, _, _, _, _, _, _, _, _, _, _, _, _, _, _, _ => none
  | k + 1, x0, x3, x4, x5, x21, x22, x23, x32, x33, x34, x111000, x111001, x111002, x111003, x111004, x111005 => if x34 < x33 then (if 0 ≤ x34 then (if x34 < (x32.length : Int) then (if (rd x32 x34) < 0 then (some 29) else (if (rd x32 x34) ≥ x5 then (some 29) else (if 0 ≤ (rd x32 x34) then (if (rd x32 x34) < (x3.length : Int) then (if rdOf false x3 (rd x32 x34) = true then (some 29) else (if 0 ≤ x5 then (if x5 < (x4.length : Int) then (if (rd x32 x34) < (x4.length : Int) then (show_Check.l1 k x0 (x3.set ((rd x32 x34) : Int).toNat true) (x4.set (x5 : Int).toNat (mx (rd x4 x5) (rd x4 (rd x32 x34)))) x5 x21 x22 x23 x32 x33 (wrap64 (x34 + 1)) x111000 x111001 x111002 x111003 x111004 x111005) else (none)) else (none)) else (none))) else (none)) else (none)))) else (none)) else (none)) else (if x111000 = 5 then (if 0 ≤ x5 then (if x5 < (x4.length : Int) then (show_Check.l0 k x0 x3 (x4.set (x5 : Int).toNat (wrap64 ((rd x4 x5) + 1))) x21 x22 (wrap64 (x23 + 1))) else (none)) else (none)) else (if x111000 = 6 then (if 0 ≤ x5 then (if x5 < (x4.length : Int) then (show_Check.l0 k x0 x3 (x4.set (x5 : Int).toNat (wrap64 ((rd x4 x5) + 1))) x21 x22 (wrap64 (x23 + 1))) else (none)) else (none)) else (show_Check.l0 k x0 x3 x4 x21 x22 (wrap64 (x23 + 1)))))
end
def show_Check.f (k : Nat) (l0 : List (S39)) : Option (Int) := if (l0.length : Int) = 0 then (some 29) else (if (l0.length : Int) > 8192 then (some 27) else (if 0 ≤ (l0.length : Int) then (if ((l0.length : Int) : Int).toNat ≤ 281474976710656 then (if ((l0.length : Int) : Int).toNat ≤ 35184372088832 then (show_Check.l0 k l0 (List.replicate ((l0.length : Int) : Int).toNat false) (List.replicate ((l0.length : Int) : Int).toNat 0) l0 (l0.length : Int) 0) else (none)) else (none)) else (none)))
def show_Check.T18 : Bool × List (List Nat × List Nat) := (true, [([], []), ([], []), ([], []), ([], []), ([2, 3], [2, 3]), ([4], [4]), ([], []), ([], []), ([6, 7], [6, 7]), ([8], [8]), ([5, 9], [5, 9]), ([0, 1, 0, 1, 2, 3, 4, 5, 6, 7, 8, 9, 10], [0, 1]), ([11, 10, 0, 1, 2, 3, 4, 5, 6, 7, 8, 9, 10], [10, 11])])
def show_Check.B18 : List Nat := [0, 0, 0, 0, 12, 28, 0, 0, 192, 448, 1020, 2047, 4095]
theorem show_Check.tab18 : rtab .any (opsOf Tryd.f11 18) = show_Check.T18 := by kernel_rfl
theorem show_Check.bits18 : waitsOk show_Check.T18.2 show_Check.B18 = true := by kernel_rfl
set_option maxHeartbeats 8000000 in
set_option maxRecDepth 100000 in
theorem show_Check.calls (k : Nat) (A0 : Option Addr) (c0 : Nat) (l0 : List (S39)) (r : Int) (w : World) (hG : Aside0 (Glob w)) (hr0 : Kd.C k39 w A0 l0.length l0) (hc0 : l0.length ≤ c0) (h : show_Check.f k l0 = some r) :
    Calls Tryd.prog 11 #[.slice A0 l0.length c0] w fun e w' => e = .returned (.int .i64 r) ∧ Below w.heap.size w w' := by
  have hu39 := Tryd.underlying39
  have HR0 := Aside0.mk hr0
  have HC0 := Aside0.mk hc0
  clear hr0 hc0
  have HB := Aside0.mk (Below.refl w.heap.size w)
  have H : (if (l0.length : Int) = 0 then (some 29) else (if (l0.length : Int) > 8192 then (some 27) else (if 0 ≤ (l0.length : Int) then (if ((l0.length : Int) : Int).toNat ≤ 281474976710656 then (if ((l0.length : Int) : Int).toNat ≤ 35184372088832 then (show_Check.l0 k l0 (List.replicate ((l0.length : Int) : Int).toNat false) (List.replicate ((l0.length : Int) : Int).toNat 0) l0 (l0.length : Int) 0) else (none)) else (none)) else (none)))) = some r := h
  clear h
  by_cases c2 : (l0.length : Int) = 0
  · rw [if_pos c2] at H
    have c2b0 : ((l0.length : Int) == 0) = true := beq_iff_eq.mpr c2
    have c2b1 : ((l0.length : Int) != 0) = false := bne_eq_false_iff_eq.mpr c2
    clear c2
    obtain rfl := Option.some.inj H
    go_enter Tryd.func11, Tryd.ntmps11
    go_wp2
    go_ret
    exact ⟨by first | rfl | (simp [errW_none, errW_some] <;> rfl) | (simp [*, errW_none, errW_some] <;> rfl), by repeat (first | (with_reducible first | exact HB.out | apply below_alloc | apply pw_below_drewN | apply below_drew1) | exact HB.out)⟩
  · rw [if_neg c2] at H
    have c2b0 : ((l0.length : Int) == 0) = false := beq_eq_false_iff_ne.mpr c2
    have c2b1 : ((l0.length : Int) != 0) = true := bne_iff_ne.mpr c2
    have c2b2 : ¬ (l0 = []) := fun h_ => c2 (by rw [h_]; rfl)
    by_cases c3 : (l0.length : Int) > 8192
    · rw [if_pos c3] at H
      have c3b0 : decide (8192 < (l0.length : Int)) = true := decide_eq_true c3
      have c3b1 : decide (8192 < l0.length) = true := decide_eq_true (by omega)
      clear c3
      obtain rfl := Option.some.inj H
      go_enter Tryd.func11, Tryd.ntmps11
      go_wp2
      go_ret
      exact ⟨by first | rfl | (simp [errW_none, errW_some] <;> rfl) | (simp [*, errW_none, errW_some] <;> rfl), by repeat (first | (with_reducible first | exact HB.out | apply below_alloc | apply pw_below_drewN | apply below_drew1) | exact HB.out)⟩
    · rw [if_neg c3] at H
      have c3b0 : decide (8192 < (l0.length : Int)) = false := decide_eq_false c3
      have c3b1 : decide (8192 < l0.length) = false := decide_eq_false (by omega)
      clear c3
      by_cases c4 : 0 ≤ (l0.length : Int)
      · rw [if_pos c4] at H
        have c4b0 := eq_true c4
        have c4b1 : decide (0 ≤ (l0.length : Int)) = true := decide_eq_true c4
        clear c4
        by_cases c5 : ((l0.length : Int) : Int).toNat ≤ 281474976710656
        · rw [if_pos c5] at H
          have c5b0 := eq_true c5
          have c5b1 : decide (((l0.length : Int) : Int).toNat ≤ 281474976710656) = true := decide_eq_true c5
          clear c5
          obtain ⟨y103, hy103⟩ : ∃ y_ : List Bool, y_ = (List.replicate ((l0.length : Int) : Int).toNat false) := ⟨_, rfl⟩
          replace H : (if ((l0.length : Int) : Int).toNat ≤ 35184372088832 then (show_Check.l0 k l0 y103 (List.replicate ((l0.length : Int) : Int).toNat 0) l0 (l0.length : Int) 0) else (none)) = some r := by first | (rw [hy103]; with_reducible exact H) | (have H2_ := (Option.bind_some _ _).symm.trans H; rw [hy103]; with_reducible exact H2_) | (have H2_ := (Option.bind_some _ _).symm.trans H; with_reducible exact H2_) | with_reducible exact H | (rw [hy103]; exact H) | exact H
          have Ny103 := Aside0.mk hy103
          clear hy103
          by_cases c6 : ((l0.length : Int) : Int).toNat ≤ 35184372088832
          · rw [if_pos c6] at H
            have c6b0 := eq_true c6
            have c6b1 : decide (((l0.length : Int) : Int).toNat ≤ 35184372088832) = true := decide_eq_true c6
            clear c6
            obtain ⟨y106, hy106⟩ : ∃ y_ : List Int, y_ = (List.replicate ((l0.length : Int) : Int).toNat 0) := ⟨_, rfl⟩
            replace H : (show_Check.l0 k l0 y103 y106 l0 (l0.length : Int) 0) = some r := by first | (rw [hy106]; with_reducible exact H) | (have H2_ := (Option.bind_some _ _).symm.trans H; rw [hy106]; with_reducible exact H2_) | (have H2_ := (Option.bind_some _ _).symm.trans H; with_reducible exact H2_) | with_reducible exact H | (rw [hy106]; exact H) | exact H
            have Ny106 := Aside0.mk hy106
            clear hy106
            have H' := Aside0.mk H
            clear H
            go_enter Tryd.func11, Tryd.ntmps11
            go_wp2_with (first | ((with_reducible refine gate_dst (N := 17) rfl ?_); refine Kd.R_make Kd.bool _ 4 rfl (N := 17) rfl 46 _ _ rfl (l0.length : Int) rfl rfl Tryd.underlying46 (.bool false) 1 info4 rfl (by decide) (by omega) false (ok := fun _ => True) (okp := fun _ => True) rfl (fun _ hk => hk) trivial (of_decide_eq_true (by first | (with_reducible assumption) | assumption)) (Nat.le_trans (Nat.mul_le_mul_right _ (of_decide_eq_true (by first | (with_reducible assumption) | assumption) : (l0.length : Int).toNat ≤ 281474976710656)) (by omega)) (Below.refl _ _) (Nat.le_refl _) ?_; intro v104 w7 ho8 hb hg_ hnew_; clear hg_ hnew_; (first | rw [← Ny103.out] at ho8 | (simp only [Int.reduceToNat] at ho8; rw [← Ny103.out] at ho8)); have n0_ := Aside0.mk (Kd.R_lower ho8 (below_size (by repeat (first | (with_reducible first | exact HB.out | apply below_alloc | apply pw_below_drewN | apply below_drew1) | exact HB.out)))); have n1_ := Aside0.mk (below_step (by repeat (first | (with_reducible first | exact HB.out | apply below_alloc | apply pw_below_drewN | apply below_drew1) | exact HB.out)) hb); clear HB; have HO105 := n0_; have HB := n1_; clear n0_ n1_; clear hb ho8) | ((with_reducible refine gate_dst (N := 20) rfl ?_); refine Kd.R_make (Kd.int .i64) _ 3 rfl (N := 20) rfl 37 _ _ rfl (l0.length : Int) rfl rfl Tryd.underlying37 (.int .i64 0) 8 info3 rfl (by decide) (by omega) 0 (ok := fun _ => True) (okp := fun _ => True) rfl (fun _ hk => hk) trivial (of_decide_eq_true (by first | (with_reducible assumption) | assumption)) (Nat.le_trans (Nat.mul_le_mul_right _ (of_decide_eq_true (by first | (with_reducible assumption) | assumption) : (l0.length : Int).toNat ≤ 35184372088832)) (by omega)) (Below.refl _ _) (Nat.le_refl _) ?_; intro v107 w9 ho10 hb hg_ hnew_; clear hg_ hnew_; (first | rw [← Ny106.out] at ho10 | (simp only [Int.reduceToNat] at ho10; rw [← Ny106.out] at ho10)); have n0_ := Aside0.mk (Kd.R_below (by (with_reducible repeat (first | apply Kd.R_alloc | apply Kd.R_drewN | apply Kd.R_drew)); exact HO105.out) hb); have n1_ := Aside0.mk (Kd.R_lower ho10 (below_size (by repeat (first | (with_reducible first | exact HB.out | apply below_alloc | apply pw_below_drewN | apply below_drew1) | exact HB.out)))); have n2_ := Aside0.mk (below_step (by repeat (first | (with_reducible first | exact HB.out | apply below_alloc | apply pw_below_drewN | apply below_drew1) | exact HB.out)) hb); clear HO105; clear HB; have HO105 := n0_; have HO108 := n1_; have HB := n2_; clear n0_ n1_ n2_; clear hb ho10))
            go_loopg [23] k (fun kq v23 w' => ∃ (x3_1 : List Bool) (x4_1 : List Int) (x23_1 : Int), v23 = .int .i64 x23_1 ∧ Aside0 (show_Check.l0 kq l0 x3_1 x4_1 l0 (l0.length : Int) x23_1 = some r) ∧ Aside0 (kq ≤ k) ∧ Aside0 (Kd.R Kd.bool 4 w' w.heap.size (fun _ => True) v104 x3_1) ∧ Aside0 (Kd.R (Kd.int .i64) 3 w' w.heap.size (fun _ => True) v107 x4_1) ∧ Aside0 (Below w.heap.size w w'))
            case atStart => exact ⟨(y103), (y106), (0), (by first | rfl | (simp; done) | (simp [*]; done)), H', ⟨Nat.le_refl _⟩, ⟨by (with_reducible repeat (first | apply Kd.R_alloc | apply Kd.R_drewN | apply Kd.R_drew)); exact HO105.out⟩, ⟨by (with_reducible repeat (first | apply Kd.R_alloc | apply Kd.R_drewN | apply Kd.R_drew)); exact HO108.out⟩, ⟨by repeat (first | (with_reducible first | exact HB.out | apply below_alloc | apply pw_below_drewN | apply below_drew1) | exact HB.out)⟩⟩
            case round =>
              clear H'
              try clear c1
              try clear c2
              try clear c2b0
              try clear c2b1
              try clear c2b2
              try clear p2
              try clear c3
              try clear c3b0
              try clear c3b1
              try clear c4
              try clear c4b0
              try clear c4b1
              try clear c5
              try clear c5b0
              try clear c5b1
              try clear c6
              try clear c6b0
              try clear c6b1
              obtain ⟨x3_1, x4_1, x23_1, rfl, HA, HK1, HO_3, HO_4, HB⟩ := hrel
              cases gk with
              | zero => exact absurd HA.out (by simp [show_Check.l0])
              | succ k1 =>
                have H := HA.out
                clear HA
                simp only [show_Check.l0] at H
                by_cases c11 : x23_1 < (l0.length : Int)
                · rw [if_pos c11] at H
                  have c11b0 : decide (x23_1 < (l0.length : Int)) = true := decide_eq_true c11
                  clear c11
                  by_cases c12 : 0 ≤ x23_1
                  · rw [if_pos c12] at H
                    have c12b0 : decide (0 ≤ x23_1) = true := decide_eq_true c12
                    clear c12
                    by_cases c13 : x23_1 < (l0.length : Int)
                    · rw [if_pos c13] at H
                      have c13b0 : decide (x23_1 < (l0.length : Int)) = true := decide_eq_true c13
                      clear c13
                      replace H := Option.bind_eq_some_iff.mp H
                      obtain ⟨t111, A140, H⟩ := H
                      replace H : (if t111 = true then (show_Check.l1 k1 l0 x3_1 x4_1 x23_1 l0 (l0.length : Int) x23_1 ((rd_T39 l0 x23_1).f5) (((rd_T39 l0 x23_1).f5).length : Int) 0 ((rd_T39 l0 x23_1).f0) ((rd_T39 l0 x23_1).f1) ((rd_T39 l0 x23_1).f2) ((rd_T39 l0 x23_1).f3) ((rd_T39 l0 x23_1).f4) ((rd_T39 l0 x23_1).f5)) else (some 29)) = some r := H
                      have A14 := Aside0.mk A140
                      clear A140
                      by_cases c15 : t111 = true
                      · subst c15
                        have H1 : (show_Check.l1 k1 l0 x3_1 x4_1 x23_1 l0 (l0.length : Int) x23_1 ((rd_T39 l0 x23_1).f5) (((rd_T39 l0 x23_1).f5).length : Int) 0 ((rd_T39 l0 x23_1).f0) ((rd_T39 l0 x23_1).f1) ((rd_T39 l0 x23_1).f2) ((rd_T39 l0 x23_1).f3) ((rd_T39 l0 x23_1).f4) ((rd_T39 l0 x23_1).f5)) = some r := by rw [if_pos rfl] at H; exact H
                        clear H
                        have H := H1
                        clear H1
                        have H' := Aside0.mk H
                        clear H
                        have p109 : 0 ≤ (x23_1 : Int) := of_decide_eq_true (by first | (with_reducible assumption) | assumption)
                        have q109 : x23_1 < (l0.length : Int) := of_decide_eq_true (by first | (with_reducible assumption) | assumption)
                        obtain ⟨ad109, A109_4, c109_4, A109_5, c109_5, e109, hx109_0, hx109_1, hx109_2, hx109_3, hx109_4, hx109_5, hl109_4, hi109_4, hl109_5, hi109_5⟩ := at_T39 HR0.out x23_1 p109 q109
                        cases e109
                        replace hx109_0 := (HB.out.cell (World.block_lt_of_cell? w _ hx109_0)).trans hx109_0
                        replace hx109_1 := (HB.out.cell (World.block_lt_of_cell? w _ hx109_1)).trans hx109_1
                        replace hx109_2 := (HB.out.cell (World.block_lt_of_cell? w _ hx109_2)).trans hx109_2
                        replace hx109_3 := (HB.out.cell (World.block_lt_of_cell? w _ hx109_3)).trans hx109_3
                        replace hx109_4 := (HB.out.cell (World.block_lt_of_cell? w _ hx109_4)).trans hx109_4
                        replace hx109_5 := (HB.out.cell (World.block_lt_of_cell? w _ hx109_5)).trans hx109_5
                        have HR109_4 := Aside0.mk hi109_4
                        have HC109_4 := Aside0.mk hl109_4
                        clear hi109_4 hl109_4
                        have HR109_5 := Aside0.mk hi109_5
                        have HC109_5 := Aside0.mk hl109_5
                        clear hi109_5 hl109_5
                        replace p109 := eq_true p109
                        replace q109 := eq_true q109
                        go_wp2_with (first | ((with_reducible refine gate_dst (N := 6) rfl ?_); refine box_event ?hg (N := 6) ?hd (cs := #[.int .i64 0, .bool false, .int .i64 0, .string (⟨#[]⟩ : ByteArray), .slice none 0 0, .slice none 0 0]) (t := 39) ?hr ?_; (case hd => rfl); (case hg => rfl); (case hr => first | (go_simp; done) | (go_simp; rfl)); intro gb110 hg w16 hbox hb; have n0_ := Aside0.mk (Kd.R_below (by (with_reducible repeat (first | apply Kd.R_alloc | apply Kd.R_drewN | apply Kd.R_drew)); exact HO_3.out) hb); have n1_ := Aside0.mk (Kd.R_below (by (with_reducible repeat (first | apply Kd.R_alloc | apply Kd.R_drewN | apply Kd.R_drew)); exact HO_4.out) hb); have n2_ := Aside0.mk (below_step (by repeat (first | (with_reducible first | exact HB.out | apply below_alloc | apply pw_below_drewN | apply below_drew1) | exact HB.out)) hb); have n3_ := Aside0.mk (hbox); have n4_ := Aside0.mk ((by rw [hg]; exact (below_size (by repeat (first | (with_reducible first | exact HB.out | apply below_alloc | apply pw_below_drewN | apply below_drew1) | exact HB.out))) : w.heap.size ≤ gb110)); have n5_ := Aside0.mk ((by rw [hg]; exact (below_size (by repeat (first | (with_reducible first | exact HB.out | apply below_alloc | apply pw_below_drewN | apply below_drew1) | exact HB.out))) : w.heap.size ≤ gb110)); clear HO_3; clear HO_4; clear HB; have HO_3 := n0_; have HO_4 := n1_; have HB := n2_; have BK110 := n3_; have GW110 := n4_; have GE110 := n5_; clear n0_ n1_ n2_ n3_ n4_ n5_; clear hb hbox hg; have hcz17_0 : w16.cell? ⟨gb110, 0, none⟩ = some (.int .i64 0) := (blk_cell BK110.out 0).trans rfl; have hcz17_1 : w16.cell? ⟨gb110, 1, none⟩ = some (.bool false) := (blk_cell BK110.out 1).trans rfl; have hcz17_2 : w16.cell? ⟨gb110, 2, none⟩ = some (.int .i64 0) := (blk_cell BK110.out 2).trans rfl; have hcz17_3 : w16.cell? ⟨gb110, 3, none⟩ = some (.string (⟨#[]⟩ : ByteArray)) := (blk_cell BK110.out 3).trans rfl; have hcz17_4 : w16.cell? ⟨gb110, 4, none⟩ = some (.slice none 0 0) := (blk_cell BK110.out 4).trans rfl; have hcz17_5 : w16.cell? ⟨gb110, 5, none⟩ = some (.slice none 0 0) := (blk_cell BK110.out 5).trans rfl; have hfz17_0 := blk_frozen BK110.out 0; have hfz17_1 := blk_frozen BK110.out 1; have hfz17_2 := blk_frozen BK110.out 2; have hfz17_3 := blk_frozen BK110.out 3; have hfz17_4 := blk_frozen BK110.out 4; have hfz17_5 := blk_frozen BK110.out 5) | ((with_reducible refine gate_callee (f := 22) rfl ?_); refine goesL_ (some 29) rfl rfl Tryd.func22 (by kernel_rfl) rfl #[.agg #[.int .i64 ((rd_T39 l0 x23_1).f0), .bool ((rd_T39 l0 x23_1).f1), .int .i64 ((rd_T39 l0 x23_1).f2), .string ((rd_T39 l0 x23_1).f3), .slice A109_4 ((rd_T39 l0 x23_1).f4).length c109_4, .slice A109_5 ((rd_T39 l0 x23_1).f5).length c109_5]] rfl (by (try simp only [List.map_toArray, List.map_cons, List.map_nil]); first | done | rfl | (simp only [List.length_drop, List.length_take]; rfl)) ?_; (with_reducible refine (show_plain.calls ((rd_T39 l0 x23_1).f0) ((rd_T39 l0 x23_1).f1) ((rd_T39 l0 x23_1).f2) ((rd_T39 l0 x23_1).f3) _ _ ((rd_T39 l0 x23_1).f4) _ _ ((rd_T39 l0 x23_1).f5) true _ ⟨by repeat (first | exact hG.out | exact hG.out.below (by repeat (first | (with_reducible first | exact HB.out | apply below_alloc | apply pw_below_drewN | apply below_drew1 | refine below_set ?_ GE110.out) | exact HB.out | exact Below.refl _ _)) | apply Glob.drewN | apply Glob.drew)⟩ ?side1 ?side2 ?side3 ?side4 A14.out).mono ?_); (case side1 => exact Kd.C_below HR109_4.out (by repeat (first | (with_reducible first | exact HB.out | apply below_alloc | apply pw_below_drewN | apply below_drew1 | refine below_set ?_ GE110.out) | exact HB.out))); (case side2 => exact HC109_4.out); (case side3 => exact Kd.C_below HR109_5.out (by repeat (first | (with_reducible first | exact HB.out | apply below_alloc | apply pw_below_drewN | apply below_drew1 | refine below_set ?_ GE110.out) | exact HB.out))); (case side4 => exact HC109_5.out); rintro e w18 ⟨rfl, hb⟩; refine ⟨_, rfl, ?_⟩; have n0_ := Aside0.mk (Kd.R_below (by (with_reducible repeat (first | apply Kd.R_alloc | apply Kd.R_drewN | apply Kd.R_drew)); exact (Kd.R_mono (Kd.R_far (p := ⟨gb110, 5, none⟩) (Kd.R_far (p := ⟨gb110, 4, none⟩) (Kd.R_far (p := ⟨gb110, 3, none⟩) (Kd.R_far (p := ⟨gb110, 2, none⟩) (Kd.R_far (p := ⟨gb110, 1, none⟩) (Kd.R_far (p := ⟨gb110, 0, none⟩) (Kd.R_types HO_3.out BK110.out (by decide)) (fun _ hk => hk.2) (.int .i64 ((rd_T39 l0 x23_1).f0))) (fun _ hk => hk.2) (.bool ((rd_T39 l0 x23_1).f1))) (fun _ hk => hk.2) (.int .i64 ((rd_T39 l0 x23_1).f2))) (fun _ hk => hk.2) (.string ((rd_T39 l0 x23_1).f3))) (fun _ hk => hk.2) (.slice A109_4 ((rd_T39 l0 x23_1).f4).length c109_4)) (fun _ hk => hk.2) (.slice A109_5 ((rd_T39 l0 x23_1).f5).length c109_5)) (fun _ h_ => h_.1))) hb); have n1_ := Aside0.mk (Kd.R_below (by (with_reducible repeat (first | apply Kd.R_alloc | apply Kd.R_drewN | apply Kd.R_drew)); exact (Kd.R_mono (Kd.R_far (p := ⟨gb110, 5, none⟩) (Kd.R_far (p := ⟨gb110, 4, none⟩) (Kd.R_far (p := ⟨gb110, 3, none⟩) (Kd.R_far (p := ⟨gb110, 2, none⟩) (Kd.R_far (p := ⟨gb110, 1, none⟩) (Kd.R_far (p := ⟨gb110, 0, none⟩) (Kd.R_types HO_4.out BK110.out (by decide)) (fun _ hk => hk.2) (.int .i64 ((rd_T39 l0 x23_1).f0))) (fun _ hk => hk.2) (.bool ((rd_T39 l0 x23_1).f1))) (fun _ hk => hk.2) (.int .i64 ((rd_T39 l0 x23_1).f2))) (fun _ hk => hk.2) (.string ((rd_T39 l0 x23_1).f3))) (fun _ hk => hk.2) (.slice A109_4 ((rd_T39 l0 x23_1).f4).length c109_4)) (fun _ hk => hk.2) (.slice A109_5 ((rd_T39 l0 x23_1).f5).length c109_5)) (fun _ h_ => h_.1))) hb); have n2_ := Aside0.mk (blk_below (g := gb110) (o := .cells #[.int .i64 ((rd_T39 l0 x23_1).f0), .bool ((rd_T39 l0 x23_1).f1), .int .i64 ((rd_T39 l0 x23_1).f2), .string ((rd_T39 l0 x23_1).f3), .slice A109_4 ((rd_T39 l0 x23_1).f4).length c109_4, .slice A109_5 ((rd_T39 l0 x23_1).f5).length c109_5] 39 (0, 0)) (by (with_reducible repeat (first | refine blk_drewN ?_ _ | refine blk_drew ?_ | refine blk_alloc ?_ _)); refine blk_put (cs := #[.int .i64 ((rd_T39 l0 x23_1).f0), .bool ((rd_T39 l0 x23_1).f1), .int .i64 ((rd_T39 l0 x23_1).f2), .string ((rd_T39 l0 x23_1).f3), .slice A109_4 ((rd_T39 l0 x23_1).f4).length c109_4, .slice none 0 0]) ?_ 5 _ rfl; (with_reducible repeat (first | refine blk_drewN ?_ _ | refine blk_drew ?_ | refine blk_alloc ?_ _)); refine blk_put (cs := #[.int .i64 ((rd_T39 l0 x23_1).f0), .bool ((rd_T39 l0 x23_1).f1), .int .i64 ((rd_T39 l0 x23_1).f2), .string ((rd_T39 l0 x23_1).f3), .slice none 0 0, .slice none 0 0]) ?_ 4 _ rfl; (with_reducible repeat (first | refine blk_drewN ?_ _ | refine blk_drew ?_ | refine blk_alloc ?_ _)); refine blk_put (cs := #[.int .i64 ((rd_T39 l0 x23_1).f0), .bool ((rd_T39 l0 x23_1).f1), .int .i64 ((rd_T39 l0 x23_1).f2), .string (⟨#[]⟩ : ByteArray), .slice none 0 0, .slice none 0 0]) ?_ 3 _ rfl; (with_reducible repeat (first | refine blk_drewN ?_ _ | refine blk_drew ?_ | refine blk_alloc ?_ _)); refine blk_put (cs := #[.int .i64 ((rd_T39 l0 x23_1).f0), .bool ((rd_T39 l0 x23_1).f1), .int .i64 0, .string (⟨#[]⟩ : ByteArray), .slice none 0 0, .slice none 0 0]) ?_ 2 _ rfl; (with_reducible repeat (first | refine blk_drewN ?_ _ | refine blk_drew ?_ | refine blk_alloc ?_ _)); refine blk_put (cs := #[.int .i64 ((rd_T39 l0 x23_1).f0), .bool false, .int .i64 0, .string (⟨#[]⟩ : ByteArray), .slice none 0 0, .slice none 0 0]) ?_ 1 _ rfl; (with_reducible repeat (first | refine blk_drewN ?_ _ | refine blk_drew ?_ | refine blk_alloc ?_ _)); refine blk_put (cs := #[.int .i64 0, .bool false, .int .i64 0, .string (⟨#[]⟩ : ByteArray), .slice none 0 0, .slice none 0 0]) ?_ 0 _ rfl; (with_reducible repeat (first | refine blk_drewN ?_ _ | refine blk_drew ?_ | refine blk_alloc ?_ _)); exact BK110.out) hb); have n3_ := Aside0.mk (below_step (by repeat (first | (with_reducible first | exact HB.out | apply below_alloc | apply pw_below_drewN | apply below_drew1 | refine below_set ?_ GE110.out) | exact HB.out)) hb); clear HO_3; clear HO_4; clear BK110; clear HB; have HO_3 := n0_; have HO_4 := n1_; have BK110 := n2_; have HB := n3_; clear n0_ n1_ n2_ n3_; (try clear hb); (try clear hb2); (try clear hk); (try clear hi); have hcz19_0 : w18.cell? ⟨gb110, 0, none⟩ = some (.int .i64 ((rd_T39 l0 x23_1).f0)) := (blk_cell BK110.out 0).trans rfl; have hcz19_1 : w18.cell? ⟨gb110, 1, none⟩ = some (.bool ((rd_T39 l0 x23_1).f1)) := (blk_cell BK110.out 1).trans rfl; have hcz19_2 : w18.cell? ⟨gb110, 2, none⟩ = some (.int .i64 ((rd_T39 l0 x23_1).f2)) := (blk_cell BK110.out 2).trans rfl; have hcz19_3 : w18.cell? ⟨gb110, 3, none⟩ = some (.string ((rd_T39 l0 x23_1).f3)) := (blk_cell BK110.out 3).trans rfl; have hcz19_4 : w18.cell? ⟨gb110, 4, none⟩ = some (.slice A109_4 ((rd_T39 l0 x23_1).f4).length c109_4) := (blk_cell BK110.out 4).trans rfl; have hcz19_5 : w18.cell? ⟨gb110, 5, none⟩ = some (.slice A109_5 ((rd_T39 l0 x23_1).f5).length c109_5) := (blk_cell BK110.out 5).trans rfl; have hfz19_0 := blk_frozen BK110.out 0; have hfz19_1 := blk_frozen BK110.out 1; have hfz19_2 := blk_frozen BK110.out 2; have hfz19_3 := blk_frozen BK110.out 3; have hfz19_4 := blk_frozen BK110.out 4; have hfz19_5 := blk_frozen BK110.out 5))
                        go_loopg [34] k1 (fun kq v34 w' => ∃ (x3_2 : List Bool) (x4_2 : List Int) (x34_2 : Int), v34 = .int .i64 x34_2 ∧ Aside0 (show_Check.l1 kq l0 x3_2 x4_2 x23_1 l0 (l0.length : Int) x23_1 ((rd_T39 l0 x23_1).f5) (((rd_T39 l0 x23_1).f5).length : Int) x34_2 ((rd_T39 l0 x23_1).f0) ((rd_T39 l0 x23_1).f1) ((rd_T39 l0 x23_1).f2) ((rd_T39 l0 x23_1).f3) ((rd_T39 l0 x23_1).f4) ((rd_T39 l0 x23_1).f5) = some r) ∧ Aside0 (kq ≤ k1) ∧ Aside0 (Kd.R Kd.bool 4 w' w.heap.size (fun _ => True) v104 x3_2) ∧ Aside0 (Kd.R (Kd.int .i64) 3 w' w.heap.size (fun _ => True) v107 x4_2) ∧ Aside0 (w'.heap[gb110]? = some (.cells #[.int .i64 ((rd_T39 l0 x23_1).f0), .bool ((rd_T39 l0 x23_1).f1), .int .i64 ((rd_T39 l0 x23_1).f2), .string ((rd_T39 l0 x23_1).f3), (.slice A109_4 ((rd_T39 l0 x23_1).f4).length c109_4), (.slice A109_5 ((rd_T39 l0 x23_1).f5).length c109_5)] 39 (0, 0))) ∧ Aside0 (Below w.heap.size w w'))
                        case atStart => exact ⟨(x3_1), (x4_1), (0), (by first | rfl | (simp; done) | (simp [*]; done)), H', ⟨Nat.le_refl _⟩, ⟨by (with_reducible repeat (first | apply Kd.R_alloc | apply Kd.R_drewN | apply Kd.R_drew)); exact HO_3.out⟩, ⟨by (with_reducible repeat (first | apply Kd.R_alloc | apply Kd.R_drewN | apply Kd.R_drew)); exact HO_4.out⟩, ⟨by (with_reducible repeat (first | refine blk_drewN ?_ _ | refine blk_drew ?_ | refine blk_alloc ?_ _)); exact BK110.out⟩, ⟨by repeat (first | (with_reducible first | exact HB.out | apply below_alloc | apply pw_below_drewN | apply below_drew1 | refine below_set ?_ GE110.out) | exact HB.out)⟩⟩
                        case round =>
                          clear H'
                          try clear c1
                          try clear p1
                          try clear q1
                          try clear hx1
                          try clear c2
                          try clear c2b0
                          try clear c2b1
                          try clear c2b2
                          try clear p2
                          try clear c3
                          try clear c3b0
                          try clear c3b1
                          try clear c4
                          try clear c4b0
                          try clear c4b1
                          try clear c5
                          try clear c5b0
                          try clear c5b1
                          try clear c6
                          try clear c6b0
                          try clear c6b1
                          try clear c10
                          try clear p10
                          try clear q10
                          try clear hx10
                          try clear c11
                          try clear c11b0
                          try clear c12
                          try clear c12b0
                          try clear c13
                          try clear c13b0
                          try clear c15
                          try clear hcz17_0
                          try clear hcz17_1
                          try clear hcz17_2
                          try clear hcz17_3
                          try clear hcz17_4
                          try clear hcz17_5
                          try clear hcz19_0
                          try clear hcz19_1
                          try clear hcz19_2
                          try clear hcz19_3
                          try clear hcz19_4
                          try clear hcz19_5
                          try clear hfz17_0
                          try clear hfz17_1
                          try clear hfz17_2
                          try clear hfz17_3
                          try clear hfz17_4
                          try clear hfz17_5
                          try clear hfz19_0
                          try clear hfz19_1
                          try clear hfz19_2
                          try clear hfz19_3
                          try clear hfz19_4
                          try clear hfz19_5
                          try clear hx109_0
                          try clear hx109_1
                          try clear hx109_2
                          try clear hx109_3
                          try clear hx109_4
                          try clear hx109_5
                          try clear p109
                          try clear p2
                          try clear q109
                          obtain ⟨x3_2, x4_2, x34_2, rfl, HA, HK2, HO_3, HO_4, BK110, HB⟩ := hrel
                          cases gk with
                          | zero => exact absurd HA.out (by simp [show_Check.l1])
                          | succ k2 =>
                            have H := HA.out
                            clear HA
                            simp only [show_Check.l1] at H
                            by_cases c20 : x34_2 < (((rd_T39 l0 x23_1).f5).length : Int)
                            · rw [if_pos c20] at H
                              have c20b0 : decide (x34_2 < (((rd_T39 l0 x23_1).f5).length : Int)) = true := decide_eq_true c20
                              clear c20
                              by_cases c21 : 0 ≤ x34_2
                              · rw [if_pos c21] at H
                                have c21b0 : decide (0 ≤ x34_2) = true := decide_eq_true c21
                                clear c21
                                by_cases c22 : x34_2 < (((rd_T39 l0 x23_1).f5).length : Int)
                                · rw [if_pos c22] at H
                                  have c22b0 : decide (x34_2 < (((rd_T39 l0 x23_1).f5).length : Int)) = true := decide_eq_true c22
                                  clear c22
                                  by_cases c23 : (rd ((rd_T39 l0 x23_1).f5) x34_2) < 0
                                  · rw [if_pos c23] at H
                                    have c23b0 : decide ((rd ((rd_T39 l0 x23_1).f5) x34_2) < 0) = true := decide_eq_true c23
                                    clear c23
                                    obtain rfl := Option.some.inj H
                                    have p112 : 0 ≤ (x34_2 : Int) := of_decide_eq_true (by first | (with_reducible assumption) | assumption)
                                    have q112 : x34_2 < (((rd_T39 l0 x23_1).f5).length : Int) := of_decide_eq_true (by first | (with_reducible assumption) | assumption)
                                    obtain ⟨ad112, e112, hx112_0⟩ := Kd.at_int HR109_5.out x34_2 p112 q112
                                    cases e112
                                    replace hx112_0 := (HB.out.cell (World.block_lt_of_cell? w _ hx112_0)).trans hx112_0
                                    replace p112 := eq_true p112
                                    replace q112 := eq_true q112
                                    go_wp2
                                    go_ret
                                    exact ⟨by first | rfl | (simp [errW_none, errW_some] <;> rfl) | (simp [*, errW_none, errW_some] <;> rfl), by repeat (first | (with_reducible first | exact HB.out | apply below_alloc | apply pw_below_drewN | apply below_drew1 | refine below_set ?_ GE110.out) | exact HB.out)⟩
                                  · rw [if_neg c23] at H
                                    have c23b0 : decide ((rd ((rd_T39 l0 x23_1).f5) x34_2) < 0) = false := decide_eq_false c23
                                    clear c23
                                    by_cases c24 : (rd ((rd_T39 l0 x23_1).f5) x34_2) ≥ x23_1
                                    · rw [if_pos c24] at H
                                      have c24b0 : decide (x23_1 ≤ (rd ((rd_T39 l0 x23_1).f5) x34_2)) = true := decide_eq_true c24
                                      clear c24
                                      obtain rfl := Option.some.inj H
                                      have p112 : 0 ≤ (x34_2 : Int) := of_decide_eq_true (by first | (with_reducible assumption) | assumption)
                                      have q112 : x34_2 < (((rd_T39 l0 x23_1).f5).length : Int) := of_decide_eq_true (by first | (with_reducible assumption) | assumption)
                                      obtain ⟨ad112, e112, hx112_0⟩ := Kd.at_int HR109_5.out x34_2 p112 q112
                                      cases e112
                                      replace hx112_0 := (HB.out.cell (World.block_lt_of_cell? w _ hx112_0)).trans hx112_0
                                      replace p112 := eq_true p112
                                      replace q112 := eq_true q112
                                      go_wp2
                                      go_ret
                                      exact ⟨by first | rfl | (simp [errW_none, errW_some] <;> rfl) | (simp [*, errW_none, errW_some] <;> rfl), by repeat (first | (with_reducible first | exact HB.out | apply below_alloc | apply pw_below_drewN | apply below_drew1 | refine below_set ?_ GE110.out) | exact HB.out)⟩
                                    · rw [if_neg c24] at H
                                      have c24b0 : decide (x23_1 ≤ (rd ((rd_T39 l0 x23_1).f5) x34_2)) = false := decide_eq_false c24
                                      clear c24
                                      by_cases c25 : 0 ≤ (rd ((rd_T39 l0 x23_1).f5) x34_2)
                                      · rw [if_pos c25] at H
                                        have c25b0 : decide (0 ≤ (rd ((rd_T39 l0 x23_1).f5) x34_2)) = true := decide_eq_true c25
                                        clear c25
                                        by_cases c26 : (rd ((rd_T39 l0 x23_1).f5) x34_2) < (x3_2.length : Int)
                                        · rw [if_pos c26] at H
                                          have c26b0 : decide ((rd ((rd_T39 l0 x23_1).f5) x34_2) < (x3_2.length : Int)) = true := decide_eq_true c26
                                          clear c26
                                          obtain ⟨bq27, hbq27⟩ : ∃ b_ : Bool, b_ = (rdOf false x3_2 (rd ((rd_T39 l0 x23_1).f5) x34_2)) := ⟨_, rfl⟩
                                          replace H : (if bq27 = true then (some 29) else (if 0 ≤ x23_1 then (if x23_1 < (x4_2.length : Int) then (if (rd ((rd_T39 l0 x23_1).f5) x34_2) < (x4_2.length : Int) then (show_Check.l1 k2 l0 (x3_2.set ((rd ((rd_T39 l0 x23_1).f5) x34_2) : Int).toNat true) (x4_2.set (x23_1 : Int).toNat (mx (rd x4_2 x23_1) (rd x4_2 (rd ((rd_T39 l0 x23_1).f5) x34_2)))) x23_1 l0 (l0.length : Int) x23_1 ((rd_T39 l0 x23_1).f5) (((rd_T39 l0 x23_1).f5).length : Int) (wrap64 (x34_2 + 1)) ((rd_T39 l0 x23_1).f0) ((rd_T39 l0 x23_1).f1) ((rd_T39 l0 x23_1).f2) ((rd_T39 l0 x23_1).f3) ((rd_T39 l0 x23_1).f4) ((rd_T39 l0 x23_1).f5)) else (none)) else (none)) else (none))) = some r := by rw [← hbq27] at H; exact H
                                          have Nbq27 := Aside0.mk hbq27
                                          clear hbq27
                                          by_cases c28 : bq27 = true
                                          · subst c28
                                            have H1 : (some 29) = some r := by rw [if_pos rfl] at H; exact H
                                            clear H
                                            have H := H1
                                            clear H1
                                            obtain rfl := Option.some.inj H
                                            have p112 : 0 ≤ (x34_2 : Int) := of_decide_eq_true (by first | (with_reducible assumption) | assumption)
                                            have q112 : x34_2 < (((rd_T39 l0 x23_1).f5).length : Int) := of_decide_eq_true (by first | (with_reducible assumption) | assumption)
                                            obtain ⟨ad112, e112, hx112_0⟩ := Kd.at_int HR109_5.out x34_2 p112 q112
                                            cases e112
                                            replace hx112_0 := (HB.out.cell (World.block_lt_of_cell? w _ hx112_0)).trans hx112_0
                                            replace p112 := eq_true p112
                                            replace q112 := eq_true q112
                                            obtain ⟨Ao29, co29, eo29⟩ := Kd.R_slice HO_3.out
                                            subst eo29
                                            have p113 : 0 ≤ ((rd ((rd_T39 l0 x23_1).f5) x34_2) : Int) := of_decide_eq_true (by first | (with_reducible assumption) | assumption)
                                            have q113 : (rd ((rd_T39 l0 x23_1).f5) x34_2) < (x3_2.length : Int) := of_decide_eq_true (by first | (with_reducible assumption) | assumption)
                                            obtain ⟨ad113, e113, hx113_0⟩ := Kd.at_bool (Kd.R_reads' HO_3.out).2.2 (rd ((rd_T39 l0 x23_1).f5) x34_2) p113 q113
                                            (try rw [← Nbq27.out] at hx113_0)
                                            cases e113
                                            replace p113 := eq_true p113
                                            replace q113 := eq_true q113
                                            go_wp2
                                            go_ret
                                            exact ⟨by first | rfl | (simp [errW_none, errW_some] <;> rfl) | (simp [*, errW_none, errW_some] <;> rfl), by repeat (first | (with_reducible first | exact HB.out | apply below_alloc | apply pw_below_drewN | apply below_drew1 | refine below_set ?_ GE110.out) | exact HB.out)⟩
                                          · replace c28 := Bool.eq_false_iff.mpr c28
                                            subst c28
                                            have H1 : (if 0 ≤ x23_1 then (if x23_1 < (x4_2.length : Int) then (if (rd ((rd_T39 l0 x23_1).f5) x34_2) < (x4_2.length : Int) then (show_Check.l1 k2 l0 (x3_2.set ((rd ((rd_T39 l0 x23_1).f5) x34_2) : Int).toNat true) (x4_2.set (x23_1 : Int).toNat (mx (rd x4_2 x23_1) (rd x4_2 (rd ((rd_T39 l0 x23_1).f5) x34_2)))) x23_1 l0 (l0.length : Int) x23_1 ((rd_T39 l0 x23_1).f5) (((rd_T39 l0 x23_1).f5).length : Int) (wrap64 (x34_2 + 1)) ((rd_T39 l0 x23_1).f0) ((rd_T39 l0 x23_1).f1) ((rd_T39 l0 x23_1).f2) ((rd_T39 l0 x23_1).f3) ((rd_T39 l0 x23_1).f4) ((rd_T39 l0 x23_1).f5)) else (none)) else (none)) else (none)) = some r := by rw [if_neg (show ¬ (false = true) by decide)] at H; exact H
                                            clear H
                                            have H := H1
                                            clear H1
                                            obtain ⟨y114, hy114⟩ : ∃ y_ : List Bool, y_ = (x3_2.set ((rd ((rd_T39 l0 x23_1).f5) x34_2) : Int).toNat true) := ⟨_, rfl⟩
                                            replace H : (if 0 ≤ x23_1 then (if x23_1 < (x4_2.length : Int) then (if (rd ((rd_T39 l0 x23_1).f5) x34_2) < (x4_2.length : Int) then (show_Check.l1 k2 l0 y114 (x4_2.set (x23_1 : Int).toNat (mx (rd x4_2 x23_1) (rd x4_2 (rd ((rd_T39 l0 x23_1).f5) x34_2)))) x23_1 l0 (l0.length : Int) x23_1 ((rd_T39 l0 x23_1).f5) (((rd_T39 l0 x23_1).f5).length : Int) (wrap64 (x34_2 + 1)) ((rd_T39 l0 x23_1).f0) ((rd_T39 l0 x23_1).f1) ((rd_T39 l0 x23_1).f2) ((rd_T39 l0 x23_1).f3) ((rd_T39 l0 x23_1).f4) ((rd_T39 l0 x23_1).f5)) else (none)) else (none)) else (none)) = some r := by first | (rw [hy114]; with_reducible exact H) | (have H2_ := (Option.bind_some _ _).symm.trans H; rw [hy114]; with_reducible exact H2_) | (have H2_ := (Option.bind_some _ _).symm.trans H; with_reducible exact H2_) | with_reducible exact H | (rw [hy114]; exact H) | exact H
                                            have Ny114 := Aside0.mk hy114
                                            clear hy114
                                            by_cases c31 : 0 ≤ x23_1
                                            · rw [if_pos c31] at H
                                              have c31b0 : decide (0 ≤ x23_1) = true := decide_eq_true c31
                                              clear c31
                                              by_cases c32 : x23_1 < (x4_2.length : Int)
                                              · rw [if_pos c32] at H
                                                have c32b0 : decide (x23_1 < (x4_2.length : Int)) = true := decide_eq_true c32
                                                clear c32
                                                by_cases c33 : (rd ((rd_T39 l0 x23_1).f5) x34_2) < (x4_2.length : Int)
                                                · rw [if_pos c33] at H
                                                  have c33b0 : decide ((rd ((rd_T39 l0 x23_1).f5) x34_2) < (x4_2.length : Int)) = true := decide_eq_true c33
                                                  clear c33
                                                  obtain ⟨ji34, hji34⟩ : ∃ j_ : Int, (mx (rd x4_2 x23_1) (rd x4_2 (rd ((rd_T39 l0 x23_1).f5) x34_2))) = j_ := ⟨_, rfl⟩
                                                  replace H : (show_Check.l1 k2 l0 y114 (x4_2.set (x23_1 : Int).toNat (ji34)) x23_1 l0 (l0.length : Int) x23_1 ((rd_T39 l0 x23_1).f5) (((rd_T39 l0 x23_1).f5).length : Int) (wrap64 (x34_2 + 1)) ((rd_T39 l0 x23_1).f0) ((rd_T39 l0 x23_1).f1) ((rd_T39 l0 x23_1).f2) ((rd_T39 l0 x23_1).f3) ((rd_T39 l0 x23_1).f4) ((rd_T39 l0 x23_1).f5)) = some r := by first | (rw [hji34] at H; exact H) | (simp only [hji34] at H ⊢; exact H)
                                                  have hji34_ : (if (rd x4_2 x23_1) < (rd x4_2 (rd ((rd_T39 l0 x23_1).f5) x34_2)) then (rd x4_2 (rd ((rd_T39 l0 x23_1).f5) x34_2)) else (rd x4_2 x23_1)) = ji34 := hji34
                                                  obtain ⟨y117, hy117⟩ : ∃ y_ : List Int, y_ = (x4_2.set (x23_1 : Int).toNat (ji34)) := ⟨_, rfl⟩
                                                  replace H : (show_Check.l1 k2 l0 y114 y117 x23_1 l0 (l0.length : Int) x23_1 ((rd_T39 l0 x23_1).f5) (((rd_T39 l0 x23_1).f5).length : Int) (wrap64 (x34_2 + 1)) ((rd_T39 l0 x23_1).f0) ((rd_T39 l0 x23_1).f1) ((rd_T39 l0 x23_1).f2) ((rd_T39 l0 x23_1).f3) ((rd_T39 l0 x23_1).f4) ((rd_T39 l0 x23_1).f5)) = some r := by first | (rw [hy117]; with_reducible exact H) | (have H2_ := (Option.bind_some _ _).symm.trans H; rw [hy117]; with_reducible exact H2_) | (have H2_ := (Option.bind_some _ _).symm.trans H; with_reducible exact H2_) | with_reducible exact H | (rw [hy117]; exact H) | exact H
                                                  have Ny117 := Aside0.mk hy117
                                                  clear hy117
                                                  have H' := Aside0.mk H
                                                  clear H
                                                  have p112 : 0 ≤ (x34_2 : Int) := of_decide_eq_true (by first | (with_reducible assumption) | assumption)
                                                  have q112 : x34_2 < (((rd_T39 l0 x23_1).f5).length : Int) := of_decide_eq_true (by first | (with_reducible assumption) | assumption)
                                                  obtain ⟨ad112, e112, hx112_0⟩ := Kd.at_int HR109_5.out x34_2 p112 q112
                                                  cases e112
                                                  replace hx112_0 := (HB.out.cell (World.block_lt_of_cell? w _ hx112_0)).trans hx112_0
                                                  replace p112 := eq_true p112
                                                  replace q112 := eq_true q112
                                                  obtain ⟨Ao36, co36, eo36⟩ := Kd.R_slice HO_3.out
                                                  subst eo36
                                                  have p113 : 0 ≤ ((rd ((rd_T39 l0 x23_1).f5) x34_2) : Int) := of_decide_eq_true (by first | (with_reducible assumption) | assumption)
                                                  have q113 : (rd ((rd_T39 l0 x23_1).f5) x34_2) < (x3_2.length : Int) := of_decide_eq_true (by first | (with_reducible assumption) | assumption)
                                                  obtain ⟨ad113, e113, hx113_0⟩ := Kd.at_bool (Kd.R_reads' HO_3.out).2.2 (rd ((rd_T39 l0 x23_1).f5) x34_2) p113 q113
                                                  (try rw [← Nbq27.out] at hx113_0)
                                                  cases e113
                                                  replace p113 := eq_true p113
                                                  replace q113 := eq_true q113
                                                  have p30 : 0 ≤ ((rd ((rd_T39 l0 x23_1).f5) x34_2) : Int) := of_decide_eq_true (by first | (with_reducible assumption) | assumption)
                                                  have q30 : ((rd ((rd_T39 l0 x23_1).f5) x34_2) : Int) < ((x3_2.length : Int) : Int) := of_decide_eq_true (by first | (with_reducible assumption) | assumption)
                                                  obtain ⟨go30, co30, eo30, gb30, gl30, cl30, HG30⟩ := Kd.R_form HO_3.out (by omega)
                                                  (first | cases eo30 | (injection eo30 with ea_ en_ ec_; (first | subst ea_ | (injection ea_ with ea_; subst ea_)); subst ec_; clear en_))
                                                  have GB30 := Aside0.mk gb30
                                                  have GG30 := Aside0.mk HG30
                                                  clear gb30 gl30 HG30
                                                  (first | simp only [add_plain] at hx113_0 | skip)
                                                  obtain ⟨hx30_0, hf30_0⟩ := Kd.R_celln false HO_3.out ((rd ((rd_T39 l0 x23_1).f5) x34_2) : Int) p30 q30
                                                  replace p30 := eq_true p30
                                                  replace q30 := eq_true q30
                                                  have HP37 := Kd.R_putg HO_3.out ((rd ((rd_T39 l0 x23_1).f5) x34_2) : Int) true
                                                  try go_wp2_with (first | ((with_reducible refine gate_store (t := 4) (p := 53) rfl ?_); refine store_event (t := 4) (p := 53) (v := ?vo_w38) (w1 := (wr.setCell ⟨go30, ((rd ((rd_T39 l0 x23_1).f5) x34_2) : Int).toNat, none⟩ (.bool true))) ?hg ?ho ?hn ?hr ?_; (case ho => rfl); (case hg => rfl); (case hn => rfl); (case hr => first | (go_simp; done) | (go_simp; rfl)); intro w38 hw; have hg : wr.grownBy w38 (some go30) := (by rw [hw]; exact HP37.2); have hp_ : Kd.R Kd.bool 4 w38 w.heap.size (fun _ => True) (.slice (some ⟨go30, 0, none⟩) x3_2.length co36) y114 := (by rw [hw, Ny114.out]; exact HP37.1); clear HP37; have n0_ := Aside0.mk (hp_); have n1_ := Aside0.mk (Kd.R_over' (v := (.slice (some ⟨go30, 0, none⟩) x3_2.length co36)) (by (with_reducible repeat (first | apply Kd.R_alloc | apply Kd.R_drewN | apply Kd.R_drew)); exact HO_4.out) (Kd.R_typed HO_3.out) (by decide) hg); have n2_ := Aside0.mk (blk_grown (g := gb110) (o := .cells #[.int .i64 ((rd_T39 l0 x23_1).f0), .bool ((rd_T39 l0 x23_1).f1), .int .i64 ((rd_T39 l0 x23_1).f2), .string ((rd_T39 l0 x23_1).f3), .slice A109_4 ((rd_T39 l0 x23_1).f4).length c109_4, .slice (some ad112) ((rd_T39 l0 x23_1).f5).length c109_5] 39 (0, 0)) (by (with_reducible repeat (first | refine blk_drewN ?_ _ | refine blk_drew ?_ | refine blk_alloc ?_ _)); exact BK110.out) hg (Kd.R_ne HO_3.out BK110.out (by decide))); have n3_ := Aside0.mk ((by rw [hw]; exact below_set (HB.out) GB30.out : Below w.heap.size w w38)); clear HO_3; clear HO_4; clear BK110; clear HB; have HO_3 := n0_; have HO_4 := n1_; have BK110 := n2_; have HB := n3_; clear n0_ n1_ n2_ n3_; clear hg hw hp_))
                                                  have n0_ := Aside0.mk (Kd.R_drew HO_3.out)
                                                  have n1_ := Aside0.mk (Kd.R_drew HO_4.out)
                                                  have n2_ := Aside0.mk (blk_drew BK110.out)
                                                  have n3_ := Aside0.mk (below_drew1 HB.out)
                                                  clear HO_3
                                                  clear HO_4
                                                  clear BK110
                                                  clear HB
                                                  have HO_3 := n0_
                                                  have HO_4 := n1_
                                                  have BK110 := n2_
                                                  have HB := n3_
                                                  clear n0_ n1_ n2_ n3_
                                                  obtain ⟨Ao40, co40, eo40⟩ := Kd.R_slice HO_4.out
                                                  (first | subst eo40 | (injection eo40 with f1_ f2_ f3_; have f4_ := f1_.symm; have f5_ := f3_.symm; clear f1_ f2_ f3_; subst f4_; subst f5_))
                                                  have p115 : 0 ≤ (x23_1 : Int) := of_decide_eq_true (by first | (with_reducible assumption) | assumption)
                                                  have q115 : x23_1 < (x4_2.length : Int) := of_decide_eq_true (by first | (with_reducible assumption) | assumption)
                                                  obtain ⟨ad115, e115, hx115_0⟩ := Kd.at_int (Kd.R_reads' HO_4.out).2.2 x23_1 p115 q115
                                                  cases e115
                                                  replace p115 := eq_true p115
                                                  replace q115 := eq_true q115
                                                  have p116 : 0 ≤ ((rd ((rd_T39 l0 x23_1).f5) x34_2) : Int) := of_decide_eq_true (by first | (with_reducible assumption) | assumption)
                                                  have q116 : (rd ((rd_T39 l0 x23_1).f5) x34_2) < (x4_2.length : Int) := of_decide_eq_true (by first | (with_reducible assumption) | assumption)
                                                  obtain ⟨ad116, e116, hx116_0⟩ := Kd.at_int (Kd.R_reads' HO_4.out).2.2 (rd ((rd_T39 l0 x23_1).f5) x34_2) p116 q116
                                                  obtain rfl : ad115 = ad116 := (by injection e116)
                                                  replace p116 := eq_true p116
                                                  replace q116 := eq_true q116
                                                  have p35 : 0 ≤ (x23_1 : Int) := of_decide_eq_true (by first | (with_reducible assumption) | assumption)
                                                  have q35 : (x23_1 : Int) < ((x4_2.length : Int) : Int) := of_decide_eq_true (by first | (with_reducible assumption) | assumption)
                                                  obtain ⟨go35, co35, eo35, gb35, gl35, cl35, HG35⟩ := Kd.R_form HO_4.out (by omega)
                                                  (first | cases eo35 | (injection eo35 with ea_ en_ ec_; (first | subst ea_ | (injection ea_ with ea_; subst ea_)); subst ec_; clear en_))
                                                  have GB35 := Aside0.mk gb35
                                                  have GG35 := Aside0.mk HG35
                                                  clear gb35 gl35 HG35
                                                  (first | simp only [add_plain] at hx115_0 | skip)
                                                  (first | simp only [add_plain] at hx116_0 | skip)
                                                  obtain ⟨hx35_0, hf35_0⟩ := Kd.R_celln 0 HO_4.out (x23_1 : Int) p35 q35
                                                  replace p35 := eq_true p35
                                                  replace q35 := eq_true q35
                                                  have HP41 := Kd.R_putn HO_4.out (x23_1 : Int) ji34
                                                  rw [← Ny117.out] at HP41
                                                  have HQ41 := Aside0.mk HP41
                                                  clear HP41
                                                  refine start_ (n := 13) (S := fun w' => w'.cell? ⟨go35, (x23_1).toNat, none⟩ = some (.int .i64 (rd x4_2 x23_1)) ∧ w'.cell? ⟨go35, ((rd ((rd_T39 l0 x23_1).f5) x34_2)).toNat, none⟩ = some (.int .i64 (rd x4_2 (rd ((rd_T39 l0 x23_1).f5) x34_2)))) (ds := [12]) #[false, false, false, false, false, false, false, false, false, false, false, false, false] (by kernel_rfl) rfl rfl ⟨hx115_0, hx116_0⟩ (fun hHeld => ?_); refine with_tabW show_Check.tab18 show_Check.bits18 (fun HT_ HW_ => ?_)
                                                  generalize w38.drew = w39 at HO_3 HO_4 BK110 HB GG35 HQ41 hf35_0 hx115_0 hx116_0 hx35_0 hHeld ⊢
                                                  refine pure_ (i := 0) (N := some 54) (v := ?_) (a' := ?_) #[true, false, false, false, false, false, false, false, false, false, false, false, false] rfl rfl (any_of HT_.out (by kernel_rfl)) (fun _ _ _ h => h) (Or.inl ⟨by rfl, ?_⟩) ?_ ?_
                                                  rotate_left
                                                  · intro w'
                                                    go_simp
                                                    with_reducible rfl
                                                  rotate_left
                                                  · simp only [Act.put, List.setIfInBounds_toArray, List.set_cons_zero, List.set_cons_succ, i64_w, i32_w]
                                                    rfl
                                                  refine pure_ (i := 1) (N := some 55) (v := ?_) (a' := ?_) #[true, true, false, false, false, false, false, false, false, false, false, false, false] rfl rfl (any_of HT_.out (by kernel_rfl)) (fun _ _ _ h => h) (Or.inl ⟨by rfl, ?_⟩) ?_ ?_
                                                  rotate_left
                                                  · intro w'
                                                    go_simp
                                                    with_reducible rfl
                                                  rotate_left
                                                  · simp only [Act.put, List.setIfInBounds_toArray, List.set_cons_zero, List.set_cons_succ, i64_w, i32_w]
                                                    rfl
                                                  refine pure_ (i := 2) (N := some 56) (v := ?_) (a' := ?_) #[true, true, true, false, false, false, false, false, false, false, false, false, false] rfl rfl (any_of HT_.out (by kernel_rfl)) (fun _ _ _ h => h) (Or.inl ⟨by rfl, ?_⟩) ?_ ?_
                                                  rotate_left
                                                  · intro w'
                                                    go_simp
                                                    with_reducible rfl
                                                  rotate_left
                                                  · simp only [Act.put, List.setIfInBounds_toArray, List.set_cons_zero, List.set_cons_succ, i64_w, i32_w]
                                                    rfl
                                                  refine pure_ (i := 3) (N := some 57) (v := ?_) (a' := ?_) #[true, true, true, true, false, false, false, false, false, false, false, false, false] rfl rfl (any_of HT_.out (by kernel_rfl)) (fun _ _ _ h => h) (Or.inl ⟨by rfl, ?_⟩) ?_ ?_
                                                  rotate_left
                                                  · intro w'
                                                    go_simp
                                                    with_reducible rfl
                                                  rotate_left
                                                  · simp only [Act.put, List.setIfInBounds_toArray, List.set_cons_zero, List.set_cons_succ, i64_w, i32_w]
                                                    rfl
                                                  refine pure_ (i := 4) (N := some 58) (v := ?_) (a' := ?_) #[true, true, true, true, true, false, false, false, false, false, false, false, false] rfl rfl (any_of HT_.out (by kernel_rfl)) (fun _ _ _ h => h) (Or.inl ⟨by rfl, ?_⟩) ?_ ?_
                                                  rotate_left
                                                  · intro w'
                                                    go_simp
                                                    with_reducible rfl
                                                  rotate_left
                                                  · simp only [Act.put, List.setIfInBounds_toArray, List.set_cons_zero, List.set_cons_succ, i64_w, i32_w]
                                                    rfl
                                                  refine pure_ (i := 6) (N := some 60) (v := ?_) (a' := ?_) #[true, true, true, true, true, false, true, false, false, false, false, false, false] rfl rfl (any_of HT_.out (by kernel_rfl)) (fun _ _ _ h => h) (Or.inl ⟨by rfl, ?_⟩) ?_ ?_
                                                  rotate_left
                                                  · intro w'
                                                    go_simp
                                                    with_reducible rfl
                                                  rotate_left
                                                  · simp only [Act.put, List.setIfInBounds_toArray, List.set_cons_zero, List.set_cons_succ, i64_w, i32_w]
                                                    rfl
                                                  refine pure_ (i := 7) (N := some 61) (v := ?_) (a' := ?_) #[true, true, true, true, true, false, true, true, false, false, false, false, false] rfl rfl (any_of HT_.out (by kernel_rfl)) (fun _ _ _ h => h) (Or.inl ⟨by rfl, ?_⟩) ?_ ?_
                                                  rotate_left
                                                  · intro w'
                                                    go_simp
                                                    with_reducible rfl
                                                  rotate_left
                                                  · simp only [Act.put, List.setIfInBounds_toArray, List.set_cons_zero, List.set_cons_succ, i64_w, i32_w]
                                                    rfl
                                                  refine pure_ (i := 8) (N := some 62) (v := ?_) (a' := ?_) #[true, true, true, true, true, false, true, true, true, false, false, false, false] rfl rfl (any_of HT_.out (by kernel_rfl)) (fun _ _ _ h => h) (Or.inl ⟨by rfl, ?_⟩) ?_ ?_
                                                  rotate_left
                                                  · intro w'
                                                    go_simp
                                                    with_reducible rfl
                                                  rotate_left
                                                  · simp only [Act.put, List.setIfInBounds_toArray, List.set_cons_zero, List.set_cons_succ, i64_w, i32_w]
                                                    rfl
                                                  refine take_ (i := 5) (N := some 59) (v := ?_) (a' := ?_) #[true, true, true, true, true, true, true, true, true, false, false, false, false] rfl rfl (take_ofW HT_.out HW_.out (by kernel_rfl)) (fun _ _ _ h => h) (Or.inl ⟨by rfl, ?_⟩) hHeld ?_ ?_
                                                  rotate_left
                                                  · rintro w' ⟨s0, s1⟩
                                                    go_simp
                                                    with_reducible rfl
                                                  rotate_left
                                                  · simp only [Act.put, List.setIfInBounds_toArray, List.set_cons_zero, List.set_cons_succ, i64_w, i32_w]
                                                    rfl
                                                  refine take_ (i := 9) (N := some 63) (v := ?_) (a' := ?_) #[true, true, true, true, true, true, true, true, true, true, false, false, false] rfl rfl (take_ofW HT_.out HW_.out (by kernel_rfl)) (fun _ _ _ h => h) (Or.inl ⟨by rfl, ?_⟩) hHeld ?_ ?_
                                                  rotate_left
                                                  · rintro w' ⟨s0, s1⟩
                                                    go_simp
                                                    with_reducible rfl
                                                  rotate_left
                                                  · simp only [Act.put, List.setIfInBounds_toArray, List.set_cons_zero, List.set_cons_succ, i64_w, i32_w]
                                                    rfl
                                                  refine pure_ (i := 10) (N := some 64) (v := ?_) (a' := ?_) #[true, true, true, true, true, true, true, true, true, true, true, false, false] rfl rfl (any_of HT_.out (by kernel_rfl)) (fun _ _ _ h => h) (Or.inl ⟨by rfl, ?_⟩) ?_ ?_
                                                  rotate_left
                                                  · intro w'
                                                    go_simp
                                                    with_reducible rfl
                                                  rotate_left
                                                  · simp only [Act.put, List.setIfInBounds_toArray, List.set_cons_zero, List.set_cons_succ, i64_w, i32_w]
                                                    rfl
                                                  refine pure_ (i := 11) (N := some 65) (v := ?_) (a' := ?_) #[true, true, true, true, true, true, true, true, true, true, true, true, false] rfl rfl (any_of HT_.out (by kernel_rfl)) (fun _ _ _ h => h) (Or.inl ⟨by rfl, ?_⟩) ?_ ?_
                                                  rotate_left
                                                  · intro w'
                                                    go_simp
                                                    with_reducible rfl
                                                  rotate_left
                                                  · simp only [Act.put, List.setIfInBounds_toArray, List.set_cons_zero, List.set_cons_succ, i64_w, i32_w]
                                                    rfl
                                                  refine last_ (i := 12) (N := none) #[true, true, true, true, true, true, true, true, true, true, true, true, true] rfl rfl (one_of HT_.out (by kernel_rfl)) (by decide) (fun K hK => ?_)
                                                  refine skip_ (w1 := ?_) (by rfl) rfl ?_ ?_
                                                  rotate_left
                                                  · go_simp
                                                    rfl
                                                  refine hK.out _ _ ?_
                                                  clear hK K
                                                  refine done_ (done_of HT_.out (by kernel_rfl)) ?_
                                                  try go_wp2
                                                  go_roundg k2
                                                  case measure => have := HK1.out; have := HK2.out; omega
                                                  case rel => exact ⟨(y114), (y117), (wrap64 (x34_2 + 1)), (by first | rfl | (simp; done) | (simp [*]; done)), H', ⟨by have := HK1.out; have := HK2.out; omega⟩, ⟨by (with_reducible repeat (first | apply Kd.R_alloc | apply Kd.R_drewN | apply Kd.R_drew)); exact Kd.R_mono (Kd.R_far (p := ⟨go35, (x23_1 : Int).toNat, none⟩) (Kd.R_types HO_3.out GG35.out (by decide)) (fun _ hk => hk.2) (.int .i64 ji34)) (fun _ hk => trivial)⟩, ⟨by (with_reducible repeat (first | apply Kd.R_alloc | apply Kd.R_drewN | apply Kd.R_drew)); exact HQ41.out⟩, ⟨by (with_reducible repeat (first | refine blk_drewN ?_ _ | refine blk_drew ?_ | refine blk_alloc ?_ _)); refine blk_far ?_ (by have h_ := Kd.R_ne HO_4.out BK110.out (by decide); intro e_; exact h_ (by rw [e_]; rfl)) _; (with_reducible repeat (first | refine blk_drewN ?_ _ | refine blk_drew ?_ | refine blk_alloc ?_ _)); exact BK110.out⟩, ⟨by repeat (first | (with_reducible first | exact HB.out | apply below_alloc | apply pw_below_drewN | apply below_drew1 | refine below_set ?_ GB35.out | refine below_set ?_ GE110.out) | exact HB.out)⟩⟩
                                                · rw [if_neg c33] at H
                                                  exact absurd H (by simp)
                                              · rw [if_neg c32] at H
                                                exact absurd H (by simp)
                                            · rw [if_neg c31] at H
                                              exact absurd H (by simp)
                                        · rw [if_neg c26] at H
                                          exact absurd H (by simp)
                                      · rw [if_neg c25] at H
                                        exact absurd H (by simp)
                                · rw [if_neg c22] at H
                                  exact absurd H (by simp)
                              · rw [if_neg c21] at H
                                exact absurd H (by simp)
                            · rw [if_neg c20] at H
                              have c20b0 : decide (x34_2 < (((rd_T39 l0 x23_1).f5).length : Int)) = false := decide_eq_false c20
                              clear c20
                              by_cases c42 : ((rd_T39 l0 x23_1).f0) = 5
                              · rw [if_pos c42] at H
                                have c42b0 : (((rd_T39 l0 x23_1).f0) == 5) = true := beq_iff_eq.mpr c42
                                have c42b1 : (((rd_T39 l0 x23_1).f0) != 5) = false := bne_eq_false_iff_eq.mpr c42
                                clear c42
                                by_cases c43 : 0 ≤ x23_1
                                · rw [if_pos c43] at H
                                  have c43b0 : decide (0 ≤ x23_1) = true := decide_eq_true c43
                                  clear c43
                                  by_cases c44 : x23_1 < (x4_2.length : Int)
                                  · rw [if_pos c44] at H
                                    have c44b0 : decide (x23_1 < (x4_2.length : Int)) = true := decide_eq_true c44
                                    clear c44
                                    obtain ⟨y119, hy119⟩ : ∃ y_ : List Int, y_ = (x4_2.set (x23_1 : Int).toNat (wrap64 ((rd x4_2 x23_1) + 1))) := ⟨_, rfl⟩
                                    replace H : (show_Check.l0 k2 l0 x3_2 y119 l0 (l0.length : Int) (wrap64 (x23_1 + 1))) = some r := by first | (rw [hy119]; with_reducible exact H) | (have H2_ := (Option.bind_some _ _).symm.trans H; rw [hy119]; with_reducible exact H2_) | (have H2_ := (Option.bind_some _ _).symm.trans H; with_reducible exact H2_) | with_reducible exact H | (rw [hy119]; exact H) | exact H
                                    have Ny119 := Aside0.mk hy119
                                    clear hy119
                                    have H' := Aside0.mk H
                                    clear H
                                    have hcz46_0 : wr.cell? ⟨gb110, 0, none⟩ = some (.int .i64 ((rd_T39 l0 x23_1).f0)) := (blk_cell BK110.out 0).trans rfl
                                    have hcz46_1 : wr.cell? ⟨gb110, 1, none⟩ = some (.bool ((rd_T39 l0 x23_1).f1)) := (blk_cell BK110.out 1).trans rfl
                                    have hcz46_2 : wr.cell? ⟨gb110, 2, none⟩ = some (.int .i64 ((rd_T39 l0 x23_1).f2)) := (blk_cell BK110.out 2).trans rfl
                                    have hcz46_3 : wr.cell? ⟨gb110, 3, none⟩ = some (.string ((rd_T39 l0 x23_1).f3)) := (blk_cell BK110.out 3).trans rfl
                                    have hcz46_4 : wr.cell? ⟨gb110, 4, none⟩ = some (.slice A109_4 ((rd_T39 l0 x23_1).f4).length c109_4) := (blk_cell BK110.out 4).trans rfl
                                    have hcz46_5 : wr.cell? ⟨gb110, 5, none⟩ = some (.slice A109_5 ((rd_T39 l0 x23_1).f5).length c109_5) := (blk_cell BK110.out 5).trans rfl
                                    have hfz46_0 := blk_frozen BK110.out 0
                                    have hfz46_1 := blk_frozen BK110.out 1
                                    have hfz46_2 := blk_frozen BK110.out 2
                                    have hfz46_3 := blk_frozen BK110.out 3
                                    have hfz46_4 := blk_frozen BK110.out 4
                                    have hfz46_5 := blk_frozen BK110.out 5
                                    obtain ⟨Ao47, co47, eo47⟩ := Kd.R_slice HO_4.out
                                    subst eo47
                                    have p118 : 0 ≤ (x23_1 : Int) := of_decide_eq_true (by first | (with_reducible assumption) | assumption)
                                    have q118 : x23_1 < (x4_2.length : Int) := of_decide_eq_true (by first | (with_reducible assumption) | assumption)
                                    obtain ⟨ad118, e118, hx118_0⟩ := Kd.at_int (Kd.R_reads' HO_4.out).2.2 x23_1 p118 q118
                                    cases e118
                                    replace p118 := eq_true p118
                                    replace q118 := eq_true q118
                                    have p45 : 0 ≤ (x23_1 : Int) := of_decide_eq_true (by first | (with_reducible assumption) | assumption)
                                    have q45 : (x23_1 : Int) < ((x4_2.length : Int) : Int) := of_decide_eq_true (by first | (with_reducible assumption) | assumption)
                                    obtain ⟨go45, co45, eo45, gb45, gl45, cl45, HG45⟩ := Kd.R_form HO_4.out (by omega)
                                    (first | cases eo45 | (injection eo45 with ea_ en_ ec_; (first | subst ea_ | (injection ea_ with ea_; subst ea_)); subst ec_; clear en_))
                                    have GB45 := Aside0.mk gb45
                                    have GG45 := Aside0.mk HG45
                                    clear gb45 gl45 HG45
                                    (first | simp only [add_plain] at hx118_0 | skip)
                                    obtain ⟨hx45_0, hf45_0⟩ := Kd.R_celln 0 HO_4.out (x23_1 : Int) p45 q45
                                    replace p45 := eq_true p45
                                    replace q45 := eq_true q45
                                    have HP48 := Kd.R_putg HO_4.out (x23_1 : Int) (wrap64 ((rd x4_2 x23_1) + 1))
                                    go_wp2_with (first | ((with_reducible refine gate_store (t := 3) (p := 80) rfl ?_); refine store_event (t := 3) (p := 80) (v := ?vo_w49) (w1 := (wr.setCell ⟨go45, (x23_1 : Int).toNat, none⟩ (.int .i64 (wrap64 ((rd x4_2 x23_1) + 1))))) ?hg ?ho ?hn ?hr ?_; (case ho => rfl); (case hg => rfl); (case hn => rfl); (case hr => first | (go_simp; done) | (go_simp; rfl)); intro w49 hw; have hg : wr.grownBy w49 (some go45) := (by rw [hw]; exact HP48.2); have hp_ : Kd.R (Kd.int .i64) 3 w49 w.heap.size (fun _ => True) (.slice (some ⟨go45, 0, none⟩) x4_2.length co47) y119 := (by rw [hw, Ny119.out]; exact HP48.1); clear HP48; have n0_ := Aside0.mk (Kd.R_over' (v := (.slice (some ⟨go45, 0, none⟩) x4_2.length co47)) (by (with_reducible repeat (first | apply Kd.R_alloc | apply Kd.R_drewN | apply Kd.R_drew)); exact HO_3.out) (Kd.R_typed HO_4.out) (by decide) hg); have n1_ := Aside0.mk (hp_); have n2_ := Aside0.mk (blk_grown (g := gb110) (o := .cells #[.int .i64 ((rd_T39 l0 x23_1).f0), .bool ((rd_T39 l0 x23_1).f1), .int .i64 ((rd_T39 l0 x23_1).f2), .string ((rd_T39 l0 x23_1).f3), .slice A109_4 ((rd_T39 l0 x23_1).f4).length c109_4, .slice A109_5 ((rd_T39 l0 x23_1).f5).length c109_5] 39 (0, 0)) (by (with_reducible repeat (first | refine blk_drewN ?_ _ | refine blk_drew ?_ | refine blk_alloc ?_ _)); exact BK110.out) hg (Kd.R_ne HO_4.out BK110.out (by decide))); have n3_ := Aside0.mk ((by rw [hw]; exact below_set (HB.out) GB45.out : Below w.heap.size w w49)); clear HO_3; clear HO_4; clear BK110; clear HB; have HO_3 := n0_; have HO_4 := n1_; have BK110 := n2_; have HB := n3_; clear n0_ n1_ n2_ n3_; clear hg hw hp_))
                                    go_roundg k2
                                    case measure => have := HK1.out; have := HK2.out; omega
                                    case rel => exact ⟨(x3_2), (y119), (wrap64 (x23_1 + 1)), (by first | rfl | (simp; done) | (simp [*]; done)), H', ⟨by have := HK1.out; have := HK2.out; omega⟩, ⟨by (with_reducible repeat (first | apply Kd.R_alloc | apply Kd.R_drewN | apply Kd.R_drew)); exact HO_3.out⟩, ⟨by (with_reducible repeat (first | apply Kd.R_alloc | apply Kd.R_drewN | apply Kd.R_drew)); exact HO_4.out⟩, ⟨by repeat (first | (with_reducible first | exact HB.out | apply below_alloc | apply pw_below_drewN | apply below_drew1 | refine below_set ?_ GE110.out) | exact HB.out)⟩⟩
                                  · rw [if_neg c44] at H
                                    exact absurd H (by simp)
                                · rw [if_neg c43] at H
                                  exact absurd H (by simp)
                              · rw [if_neg c42] at H
                                have c42b0 : (((rd_T39 l0 x23_1).f0) == 5) = false := beq_eq_false_iff_ne.mpr c42
                                have c42b1 : (((rd_T39 l0 x23_1).f0) != 5) = true := bne_iff_ne.mpr c42
                                by_cases c50 : ((rd_T39 l0 x23_1).f0) = 6
                                · rw [if_pos c50] at H
                                  have c50b0 : (((rd_T39 l0 x23_1).f0) == 6) = true := beq_iff_eq.mpr c50
                                  have c50b1 : (((rd_T39 l0 x23_1).f0) != 6) = false := bne_eq_false_iff_eq.mpr c50
                                  clear c50
                                  by_cases c51 : 0 ≤ x23_1
                                  · rw [if_pos c51] at H
                                    have c51b0 : decide (0 ≤ x23_1) = true := decide_eq_true c51
                                    clear c51
                                    by_cases c52 : x23_1 < (x4_2.length : Int)
                                    · rw [if_pos c52] at H
                                      have c52b0 : decide (x23_1 < (x4_2.length : Int)) = true := decide_eq_true c52
                                      clear c52
                                      obtain ⟨y121, hy121⟩ : ∃ y_ : List Int, y_ = (x4_2.set (x23_1 : Int).toNat (wrap64 ((rd x4_2 x23_1) + 1))) := ⟨_, rfl⟩
                                      replace H : (show_Check.l0 k2 l0 x3_2 y121 l0 (l0.length : Int) (wrap64 (x23_1 + 1))) = some r := by first | (rw [hy121]; with_reducible exact H) | (have H2_ := (Option.bind_some _ _).symm.trans H; rw [hy121]; with_reducible exact H2_) | (have H2_ := (Option.bind_some _ _).symm.trans H; with_reducible exact H2_) | with_reducible exact H | (rw [hy121]; exact H) | exact H
                                      have Ny121 := Aside0.mk hy121
                                      clear hy121
                                      have H' := Aside0.mk H
                                      clear H
                                      have hcz54_0 : wr.cell? ⟨gb110, 0, none⟩ = some (.int .i64 ((rd_T39 l0 x23_1).f0)) := (blk_cell BK110.out 0).trans rfl
                                      have hcz54_1 : wr.cell? ⟨gb110, 1, none⟩ = some (.bool ((rd_T39 l0 x23_1).f1)) := (blk_cell BK110.out 1).trans rfl
                                      have hcz54_2 : wr.cell? ⟨gb110, 2, none⟩ = some (.int .i64 ((rd_T39 l0 x23_1).f2)) := (blk_cell BK110.out 2).trans rfl
                                      have hcz54_3 : wr.cell? ⟨gb110, 3, none⟩ = some (.string ((rd_T39 l0 x23_1).f3)) := (blk_cell BK110.out 3).trans rfl
                                      have hcz54_4 : wr.cell? ⟨gb110, 4, none⟩ = some (.slice A109_4 ((rd_T39 l0 x23_1).f4).length c109_4) := (blk_cell BK110.out 4).trans rfl
                                      have hcz54_5 : wr.cell? ⟨gb110, 5, none⟩ = some (.slice A109_5 ((rd_T39 l0 x23_1).f5).length c109_5) := (blk_cell BK110.out 5).trans rfl
                                      have hfz54_0 := blk_frozen BK110.out 0
                                      have hfz54_1 := blk_frozen BK110.out 1
                                      have hfz54_2 := blk_frozen BK110.out 2
                                      have hfz54_3 := blk_frozen BK110.out 3
                                      have hfz54_4 := blk_frozen BK110.out 4
                                      have hfz54_5 := blk_frozen BK110.out 5
                                      obtain ⟨Ao55, co55, eo55⟩ := Kd.R_slice HO_4.out
                                      subst eo55
                                      have p120 : 0 ≤ (x23_1 : Int) := of_decide_eq_true (by first | (with_reducible assumption) | assumption)
                                      have q120 : x23_1 < (x4_2.length : Int) := of_decide_eq_true (by first | (with_reducible assumption) | assumption)
                                      obtain ⟨ad120, e120, hx120_0⟩ := Kd.at_int (Kd.R_reads' HO_4.out).2.2 x23_1 p120 q120
                                      cases e120
                                      replace p120 := eq_true p120
                                      replace q120 := eq_true q120
                                      have p53 : 0 ≤ (x23_1 : Int) := of_decide_eq_true (by first | (with_reducible assumption) | assumption)
                                      have q53 : (x23_1 : Int) < ((x4_2.length : Int) : Int) := of_decide_eq_true (by first | (with_reducible assumption) | assumption)
                                      obtain ⟨go53, co53, eo53, gb53, gl53, cl53, HG53⟩ := Kd.R_form HO_4.out (by omega)
                                      (first | cases eo53 | (injection eo53 with ea_ en_ ec_; (first | subst ea_ | (injection ea_ with ea_; subst ea_)); subst ec_; clear en_))
                                      have GB53 := Aside0.mk gb53
                                      have GG53 := Aside0.mk HG53
                                      clear gb53 gl53 HG53
                                      (first | simp only [add_plain] at hx120_0 | skip)
                                      obtain ⟨hx53_0, hf53_0⟩ := Kd.R_celln 0 HO_4.out (x23_1 : Int) p53 q53
                                      replace p53 := eq_true p53
                                      replace q53 := eq_true q53
                                      have HP56 := Kd.R_putg HO_4.out (x23_1 : Int) (wrap64 ((rd x4_2 x23_1) + 1))
                                      go_wp2_with (first | ((with_reducible refine gate_store (t := 3) (p := 80) rfl ?_); refine store_event (t := 3) (p := 80) (v := ?vo_w57) (w1 := (wr.setCell ⟨go53, (x23_1 : Int).toNat, none⟩ (.int .i64 (wrap64 ((rd x4_2 x23_1) + 1))))) ?hg ?ho ?hn ?hr ?_; (case ho => rfl); (case hg => rfl); (case hn => rfl); (case hr => first | (go_simp; done) | (go_simp; rfl)); intro w57 hw; have hg : wr.grownBy w57 (some go53) := (by rw [hw]; exact HP56.2); have hp_ : Kd.R (Kd.int .i64) 3 w57 w.heap.size (fun _ => True) (.slice (some ⟨go53, 0, none⟩) x4_2.length co55) y121 := (by rw [hw, Ny121.out]; exact HP56.1); clear HP56; have n0_ := Aside0.mk (Kd.R_over' (v := (.slice (some ⟨go53, 0, none⟩) x4_2.length co55)) (by (with_reducible repeat (first | apply Kd.R_alloc | apply Kd.R_drewN | apply Kd.R_drew)); exact HO_3.out) (Kd.R_typed HO_4.out) (by decide) hg); have n1_ := Aside0.mk (hp_); have n2_ := Aside0.mk (blk_grown (g := gb110) (o := .cells #[.int .i64 ((rd_T39 l0 x23_1).f0), .bool ((rd_T39 l0 x23_1).f1), .int .i64 ((rd_T39 l0 x23_1).f2), .string ((rd_T39 l0 x23_1).f3), .slice A109_4 ((rd_T39 l0 x23_1).f4).length c109_4, .slice A109_5 ((rd_T39 l0 x23_1).f5).length c109_5] 39 (0, 0)) (by (with_reducible repeat (first | refine blk_drewN ?_ _ | refine blk_drew ?_ | refine blk_alloc ?_ _)); exact BK110.out) hg (Kd.R_ne HO_4.out BK110.out (by decide))); have n3_ := Aside0.mk ((by rw [hw]; exact below_set (HB.out) GB53.out : Below w.heap.size w w57)); clear HO_3; clear HO_4; clear BK110; clear HB; have HO_3 := n0_; have HO_4 := n1_; have BK110 := n2_; have HB := n3_; clear n0_ n1_ n2_ n3_; clear hg hw hp_))
                                      go_roundg k2
                                      case measure => have := HK1.out; have := HK2.out; omega
                                      case rel => exact ⟨(x3_2), (y121), (wrap64 (x23_1 + 1)), (by first | rfl | (simp; done) | (simp [*]; done)), H', ⟨by have := HK1.out; have := HK2.out; omega⟩, ⟨by (with_reducible repeat (first | apply Kd.R_alloc | apply Kd.R_drewN | apply Kd.R_drew)); exact HO_3.out⟩, ⟨by (with_reducible repeat (first | apply Kd.R_alloc | apply Kd.R_drewN | apply Kd.R_drew)); exact HO_4.out⟩, ⟨by repeat (first | (with_reducible first | exact HB.out | apply below_alloc | apply pw_below_drewN | apply below_drew1 | refine below_set ?_ GE110.out) | exact HB.out)⟩⟩
                                    · rw [if_neg c52] at H
                                      exact absurd H (by simp)
                                  · rw [if_neg c51] at H
                                    exact absurd H (by simp)
                                · rw [if_neg c50] at H
                                  have c50b0 : (((rd_T39 l0 x23_1).f0) == 6) = false := beq_eq_false_iff_ne.mpr c50
                                  have c50b1 : (((rd_T39 l0 x23_1).f0) != 6) = true := bne_iff_ne.mpr c50
                                  have H' := Aside0.mk H
                                  clear H
                                  have hcz58_0 : wr.cell? ⟨gb110, 0, none⟩ = some (.int .i64 ((rd_T39 l0 x23_1).f0)) := (blk_cell BK110.out 0).trans rfl
                                  have hcz58_1 : wr.cell? ⟨gb110, 1, none⟩ = some (.bool ((rd_T39 l0 x23_1).f1)) := (blk_cell BK110.out 1).trans rfl
                                  have hcz58_2 : wr.cell? ⟨gb110, 2, none⟩ = some (.int .i64 ((rd_T39 l0 x23_1).f2)) := (blk_cell BK110.out 2).trans rfl
                                  have hcz58_3 : wr.cell? ⟨gb110, 3, none⟩ = some (.string ((rd_T39 l0 x23_1).f3)) := (blk_cell BK110.out 3).trans rfl
                                  have hcz58_4 : wr.cell? ⟨gb110, 4, none⟩ = some (.slice A109_4 ((rd_T39 l0 x23_1).f4).length c109_4) := (blk_cell BK110.out 4).trans rfl
                                  have hcz58_5 : wr.cell? ⟨gb110, 5, none⟩ = some (.slice A109_5 ((rd_T39 l0 x23_1).f5).length c109_5) := (blk_cell BK110.out 5).trans rfl
                                  have hfz58_0 := blk_frozen BK110.out 0
                                  have hfz58_1 := blk_frozen BK110.out 1
                                  have hfz58_2 := blk_frozen BK110.out 2
                                  have hfz58_3 := blk_frozen BK110.out 3
                                  have hfz58_4 := blk_frozen BK110.out 4
                                  have hfz58_5 := blk_frozen BK110.out 5
                                  go_wp2
                                  go_roundg k2
                                  case measure => have := HK1.out; have := HK2.out; omega
                                  case rel => exact ⟨(x3_2), (x4_2), (wrap64 (x23_1 + 1)), (by first | rfl | (simp; done) | (simp [*]; done)), H', ⟨by have := HK1.out; have := HK2.out; omega⟩, ⟨by (with_reducible repeat (first | apply Kd.R_alloc | apply Kd.R_drewN | apply Kd.R_drew)); exact HO_3.out⟩, ⟨by (with_reducible repeat (first | apply Kd.R_alloc | apply Kd.R_drewN | apply Kd.R_drew)); exact HO_4.out⟩, ⟨by repeat (first | (with_reducible first | exact HB.out | apply below_alloc | apply pw_below_drewN | apply below_drew1 | refine below_set ?_ GE110.out) | exact HB.out)⟩⟩
                      · replace c15 := Bool.eq_false_iff.mpr c15
                        subst c15
                        have H1 : (some 29) = some r := by rw [if_neg (show ¬ (false = true) by decide)] at H; exact H
                        clear H
                        have H := H1
                        clear H1
                        obtain rfl := Option.some.inj H
                        have p109 : 0 ≤ (x23_1 : Int) := of_decide_eq_true (by first | (with_reducible assumption) | assumption)
                        have q109 : x23_1 < (l0.length : Int) := of_decide_eq_true (by first | (with_reducible assumption) | assumption)
                        obtain ⟨ad109, A109_4, c109_4, A109_5, c109_5, e109, hx109_0, hx109_1, hx109_2, hx109_3, hx109_4, hx109_5, hl109_4, hi109_4, hl109_5, hi109_5⟩ := at_T39 HR0.out x23_1 p109 q109
                        cases e109
                        replace hx109_0 := (HB.out.cell (World.block_lt_of_cell? w _ hx109_0)).trans hx109_0
                        replace hx109_1 := (HB.out.cell (World.block_lt_of_cell? w _ hx109_1)).trans hx109_1
                        replace hx109_2 := (HB.out.cell (World.block_lt_of_cell? w _ hx109_2)).trans hx109_2
                        replace hx109_3 := (HB.out.cell (World.block_lt_of_cell? w _ hx109_3)).trans hx109_3
                        replace hx109_4 := (HB.out.cell (World.block_lt_of_cell? w _ hx109_4)).trans hx109_4
                        replace hx109_5 := (HB.out.cell (World.block_lt_of_cell? w _ hx109_5)).trans hx109_5
                        have HR109_4 := Aside0.mk hi109_4
                        have HC109_4 := Aside0.mk hl109_4
                        clear hi109_4 hl109_4
                        have HR109_5 := Aside0.mk hi109_5
                        have HC109_5 := Aside0.mk hl109_5
                        clear hi109_5 hl109_5
                        replace p109 := eq_true p109
                        replace q109 := eq_true q109
                        go_wp2_with (first | ((with_reducible refine gate_dst (N := 6) rfl ?_); refine box_event ?hg (N := 6) ?hd (cs := #[.int .i64 0, .bool false, .int .i64 0, .string (⟨#[]⟩ : ByteArray), .slice none 0 0, .slice none 0 0]) (t := 39) ?hr ?_; (case hd => rfl); (case hg => rfl); (case hr => first | (go_simp; done) | (go_simp; rfl)); intro gb110 hg w59 hbox hb; have n0_ := Aside0.mk (Kd.R_below (by (with_reducible repeat (first | apply Kd.R_alloc | apply Kd.R_drewN | apply Kd.R_drew)); exact HO_3.out) hb); have n1_ := Aside0.mk (Kd.R_below (by (with_reducible repeat (first | apply Kd.R_alloc | apply Kd.R_drewN | apply Kd.R_drew)); exact HO_4.out) hb); have n2_ := Aside0.mk (below_step (by repeat (first | (with_reducible first | exact HB.out | apply below_alloc | apply pw_below_drewN | apply below_drew1) | exact HB.out)) hb); have n3_ := Aside0.mk (hbox); have n4_ := Aside0.mk ((by rw [hg]; exact (below_size (by repeat (first | (with_reducible first | exact HB.out | apply below_alloc | apply pw_below_drewN | apply below_drew1) | exact HB.out))) : w.heap.size ≤ gb110)); have n5_ := Aside0.mk ((by rw [hg]; exact (below_size (by repeat (first | (with_reducible first | exact HB.out | apply below_alloc | apply pw_below_drewN | apply below_drew1) | exact HB.out))) : w.heap.size ≤ gb110)); clear HO_3; clear HO_4; clear HB; have HO_3 := n0_; have HO_4 := n1_; have HB := n2_; have BK110 := n3_; have GW110 := n4_; have GE110 := n5_; clear n0_ n1_ n2_ n3_ n4_ n5_; clear hb hbox hg; have hcz60_0 : w59.cell? ⟨gb110, 0, none⟩ = some (.int .i64 0) := (blk_cell BK110.out 0).trans rfl; have hcz60_1 : w59.cell? ⟨gb110, 1, none⟩ = some (.bool false) := (blk_cell BK110.out 1).trans rfl; have hcz60_2 : w59.cell? ⟨gb110, 2, none⟩ = some (.int .i64 0) := (blk_cell BK110.out 2).trans rfl; have hcz60_3 : w59.cell? ⟨gb110, 3, none⟩ = some (.string (⟨#[]⟩ : ByteArray)) := (blk_cell BK110.out 3).trans rfl; have hcz60_4 : w59.cell? ⟨gb110, 4, none⟩ = some (.slice none 0 0) := (blk_cell BK110.out 4).trans rfl; have hcz60_5 : w59.cell? ⟨gb110, 5, none⟩ = some (.slice none 0 0) := (blk_cell BK110.out 5).trans rfl; have hfz60_0 := blk_frozen BK110.out 0; have hfz60_1 := blk_frozen BK110.out 1; have hfz60_2 := blk_frozen BK110.out 2; have hfz60_3 := blk_frozen BK110.out 3; have hfz60_4 := blk_frozen BK110.out 4; have hfz60_5 := blk_frozen BK110.out 5) | ((with_reducible refine gate_callee (f := 22) rfl ?_); refine goesL_ (some 29) rfl rfl Tryd.func22 (by kernel_rfl) rfl #[.agg #[.int .i64 ((rd_T39 l0 x23_1).f0), .bool ((rd_T39 l0 x23_1).f1), .int .i64 ((rd_T39 l0 x23_1).f2), .string ((rd_T39 l0 x23_1).f3), .slice A109_4 ((rd_T39 l0 x23_1).f4).length c109_4, .slice A109_5 ((rd_T39 l0 x23_1).f5).length c109_5]] rfl (by (try simp only [List.map_toArray, List.map_cons, List.map_nil]); first | done | rfl | (simp only [List.length_drop, List.length_take]; rfl)) ?_; (with_reducible refine (show_plain.calls ((rd_T39 l0 x23_1).f0) ((rd_T39 l0 x23_1).f1) ((rd_T39 l0 x23_1).f2) ((rd_T39 l0 x23_1).f3) _ _ ((rd_T39 l0 x23_1).f4) _ _ ((rd_T39 l0 x23_1).f5) false _ ⟨by repeat (first | exact hG.out | exact hG.out.below (by repeat (first | (with_reducible first | exact HB.out | apply below_alloc | apply pw_below_drewN | apply below_drew1 | refine below_set ?_ GE110.out) | exact HB.out | exact Below.refl _ _)) | apply Glob.drewN | apply Glob.drew)⟩ ?side1 ?side2 ?side3 ?side4 A14.out).mono ?_); (case side1 => exact Kd.C_below HR109_4.out (by repeat (first | (with_reducible first | exact HB.out | apply below_alloc | apply pw_below_drewN | apply below_drew1 | refine below_set ?_ GE110.out) | exact HB.out))); (case side2 => exact HC109_4.out); (case side3 => exact Kd.C_below HR109_5.out (by repeat (first | (with_reducible first | exact HB.out | apply below_alloc | apply pw_below_drewN | apply below_drew1 | refine below_set ?_ GE110.out) | exact HB.out))); (case side4 => exact HC109_5.out); rintro e w61 ⟨rfl, hb⟩; refine ⟨_, rfl, ?_⟩; have n0_ := Aside0.mk (Kd.R_below (by (with_reducible repeat (first | apply Kd.R_alloc | apply Kd.R_drewN | apply Kd.R_drew)); exact (Kd.R_mono (Kd.R_far (p := ⟨gb110, 5, none⟩) (Kd.R_far (p := ⟨gb110, 4, none⟩) (Kd.R_far (p := ⟨gb110, 3, none⟩) (Kd.R_far (p := ⟨gb110, 2, none⟩) (Kd.R_far (p := ⟨gb110, 1, none⟩) (Kd.R_far (p := ⟨gb110, 0, none⟩) (Kd.R_types HO_3.out BK110.out (by decide)) (fun _ hk => hk.2) (.int .i64 ((rd_T39 l0 x23_1).f0))) (fun _ hk => hk.2) (.bool ((rd_T39 l0 x23_1).f1))) (fun _ hk => hk.2) (.int .i64 ((rd_T39 l0 x23_1).f2))) (fun _ hk => hk.2) (.string ((rd_T39 l0 x23_1).f3))) (fun _ hk => hk.2) (.slice A109_4 ((rd_T39 l0 x23_1).f4).length c109_4)) (fun _ hk => hk.2) (.slice A109_5 ((rd_T39 l0 x23_1).f5).length c109_5)) (fun _ h_ => h_.1))) hb); have n1_ := Aside0.mk (Kd.R_below (by (with_reducible repeat (first | apply Kd.R_alloc | apply Kd.R_drewN | apply Kd.R_drew)); exact (Kd.R_mono (Kd.R_far (p := ⟨gb110, 5, none⟩) (Kd.R_far (p := ⟨gb110, 4, none⟩) (Kd.R_far (p := ⟨gb110, 3, none⟩) (Kd.R_far (p := ⟨gb110, 2, none⟩) (Kd.R_far (p := ⟨gb110, 1, none⟩) (Kd.R_far (p := ⟨gb110, 0, none⟩) (Kd.R_types HO_4.out BK110.out (by decide)) (fun _ hk => hk.2) (.int .i64 ((rd_T39 l0 x23_1).f0))) (fun _ hk => hk.2) (.bool ((rd_T39 l0 x23_1).f1))) (fun _ hk => hk.2) (.int .i64 ((rd_T39 l0 x23_1).f2))) (fun _ hk => hk.2) (.string ((rd_T39 l0 x23_1).f3))) (fun _ hk => hk.2) (.slice A109_4 ((rd_T39 l0 x23_1).f4).length c109_4)) (fun _ hk => hk.2) (.slice A109_5 ((rd_T39 l0 x23_1).f5).length c109_5)) (fun _ h_ => h_.1))) hb); have n2_ := Aside0.mk (blk_below (g := gb110) (o := .cells #[.int .i64 ((rd_T39 l0 x23_1).f0), .bool ((rd_T39 l0 x23_1).f1), .int .i64 ((rd_T39 l0 x23_1).f2), .string ((rd_T39 l0 x23_1).f3), .slice A109_4 ((rd_T39 l0 x23_1).f4).length c109_4, .slice A109_5 ((rd_T39 l0 x23_1).f5).length c109_5] 39 (0, 0)) (by (with_reducible repeat (first | refine blk_drewN ?_ _ | refine blk_drew ?_ | refine blk_alloc ?_ _)); refine blk_put (cs := #[.int .i64 ((rd_T39 l0 x23_1).f0), .bool ((rd_T39 l0 x23_1).f1), .int .i64 ((rd_T39 l0 x23_1).f2), .string ((rd_T39 l0 x23_1).f3), .slice A109_4 ((rd_T39 l0 x23_1).f4).length c109_4, .slice none 0 0]) ?_ 5 _ rfl; (with_reducible repeat (first | refine blk_drewN ?_ _ | refine blk_drew ?_ | refine blk_alloc ?_ _)); refine blk_put (cs := #[.int .i64 ((rd_T39 l0 x23_1).f0), .bool ((rd_T39 l0 x23_1).f1), .int .i64 ((rd_T39 l0 x23_1).f2), .string ((rd_T39 l0 x23_1).f3), .slice none 0 0, .slice none 0 0]) ?_ 4 _ rfl; (with_reducible repeat (first | refine blk_drewN ?_ _ | refine blk_drew ?_ | refine blk_alloc ?_ _)); refine blk_put (cs := #[.int .i64 ((rd_T39 l0 x23_1).f0), .bool ((rd_T39 l0 x23_1).f1), .int .i64 ((rd_T39 l0 x23_1).f2), .string (⟨#[]⟩ : ByteArray), .slice none 0 0, .slice none 0 0]) ?_ 3 _ rfl; (with_reducible repeat (first | refine blk_drewN ?_ _ | refine blk_drew ?_ | refine blk_alloc ?_ _)); refine blk_put (cs := #[.int .i64 ((rd_T39 l0 x23_1).f0), .bool ((rd_T39 l0 x23_1).f1), .int .i64 0, .string (⟨#[]⟩ : ByteArray), .slice none 0 0, .slice none 0 0]) ?_ 2 _ rfl; (with_reducible repeat (first | refine blk_drewN ?_ _ | refine blk_drew ?_ | refine blk_alloc ?_ _)); refine blk_put (cs := #[.int .i64 ((rd_T39 l0 x23_1).f0), .bool false, .int .i64 0, .string (⟨#[]⟩ : ByteArray), .slice none 0 0, .slice none 0 0]) ?_ 1 _ rfl; (with_reducible repeat (first | refine blk_drewN ?_ _ | refine blk_drew ?_ | refine blk_alloc ?_ _)); refine blk_put (cs := #[.int .i64 0, .bool false, .int .i64 0, .string (⟨#[]⟩ : ByteArray), .slice none 0 0, .slice none 0 0]) ?_ 0 _ rfl; (with_reducible repeat (first | refine blk_drewN ?_ _ | refine blk_drew ?_ | refine blk_alloc ?_ _)); exact BK110.out) hb); have n3_ := Aside0.mk (below_step (by repeat (first | (with_reducible first | exact HB.out | apply below_alloc | apply pw_below_drewN | apply below_drew1 | refine below_set ?_ GE110.out) | exact HB.out)) hb); clear HO_3; clear HO_4; clear BK110; clear HB; have HO_3 := n0_; have HO_4 := n1_; have BK110 := n2_; have HB := n3_; clear n0_ n1_ n2_ n3_; (try clear hb); (try clear hb2); (try clear hk); (try clear hi)))
                        go_ret
                        exact ⟨by first | rfl | (simp [errW_none, errW_some] <;> rfl) | (simp [*, errW_none, errW_some] <;> rfl), by repeat (first | (with_reducible first | exact HB.out | apply below_alloc | apply pw_below_drewN | apply below_drew1 | refine below_set ?_ GE110.out) | exact HB.out)⟩
                    · rw [if_neg c13] at H
                      exact absurd H (by simp)
                  · rw [if_neg c12] at H
                    exact absurd H (by simp)
                · rw [if_neg c11] at H
                  have c11b0 : decide (x23_1 < (l0.length : Int)) = false := decide_eq_false c11
                  clear c11
                  obtain ⟨ji62, hji62⟩ : ∃ j_ : Int, (wrap64 ((l0.length : Int) - 1)) = j_ := ⟨_, rfl⟩
                  replace H : (if 0 ≤ (ji62) then (if (ji62) ≤ (x3_1.length : Int) then ((slices_Contains_bool_bool.f k1 (x3_1.take ((ji62) : Int).toNat) false).bind fun t126 => (if t126 = true then (some 29) else (if (ji62) < (x4_1.length : Int) then (if (rd x4_1 (ji62)) > 16 then (some 26) else (some 0)) else (none)))) else (none)) else (none)) = some r := by first | (rw [hji62] at H; exact H) | (simp only [hji62] at H ⊢; exact H)
                  have hji62w : (IntKind.i64.wrap ((l0.length : Int) - 1)) = ji62 := (i64_w _).trans hji62
                  by_cases c63 : 0 ≤ (ji62)
                  · rw [if_pos c63] at H
                    have c63b0 := eq_true c63
                    have c63b1 : decide (0 ≤ (ji62)) = true := decide_eq_true c63
                    clear c63
                    by_cases c64 : (ji62) ≤ (x3_1.length : Int)
                    · rw [if_pos c64] at H
                      have c64b0 := eq_true c64
                      have c64b1 : decide ((ji62) ≤ (x3_1.length : Int)) = true := decide_eq_true c64
                      clear c64
                      obtain ⟨y122, hy122⟩ : ∃ y_ : List Bool, y_ = (x3_1.take ((ji62) : Int).toNat) := ⟨_, rfl⟩
                      replace H : ((slices_Contains_bool_bool.f k1 y122 false).bind fun t126 => (if t126 = true then (some 29) else (if (ji62) < (x4_1.length : Int) then (if (rd x4_1 (ji62)) > 16 then (some 26) else (some 0)) else (none)))) = some r := by first | (rw [hy122]; with_reducible exact H) | (have H2_ := (Option.bind_some _ _).symm.trans H; rw [hy122]; with_reducible exact H2_) | (have H2_ := (Option.bind_some _ _).symm.trans H; with_reducible exact H2_) | with_reducible exact H | (rw [hy122]; exact H) | exact H
                      have Ny122 := Aside0.mk hy122
                      clear hy122
                      replace H := Option.bind_eq_some_iff.mp H
                      obtain ⟨t126, A650, H⟩ := H
                      replace H : (if t126 = true then (some 29) else (if (ji62) < (x4_1.length : Int) then (if (rd x4_1 (ji62)) > 16 then (some 26) else (some 0)) else (none))) = some r := H
                      have A65 := Aside0.mk A650
                      clear A650
                      by_cases c66 : t126 = true
                      · subst c66
                        have H1 : (some 29) = some r := by rw [if_pos rfl] at H; exact H
                        clear H
                        have H := H1
                        clear H1
                        obtain rfl := Option.some.inj H
                        obtain ⟨Ao68, co68, eo68⟩ := Kd.R_slice HO_3.out
                        subst eo68
                        have q67 : ((ji62) : Int) ≤ ((x3_1.length : Int) : Int) := of_decide_eq_true (by first | (with_reducible assumption) | assumption)
                        obtain ⟨i067, hi067, _, hsz67, _⟩ := info_parts info4
                        have hroom67 : x3_1.length ≤ co68 := (Kd.R_reads' HO_3.out).2.1
                        have hC67 : Kd.C Kd.bool _ Ao68 x3_1.length x3_1 := (Kd.R_reads' HO_3.out).2.2
                        have hcut67 := cut_to (P := Tryd.prog) 46 4 .i64 Tryd.underlying46 hi067 Ao68 x3_1.length co68 (ji62) (of_decide_eq_true (by first | (with_reducible assumption) | assumption)) q67 hroom67
                        have hr67 := Kd.C_take (m := ((ji62) : Int).toNat) hC67 (by omega)
                        have hy67 : y122.length = ((ji62) : Int).toNat := (by rw [Ny122.out, List.length_take]; omega)
                        rw [← Ny122.out] at hr67
                        rw [← hy67] at hcut67
                        have HR125 := Aside0.mk hr67
                        have HC125 := Aside0.mk (show y122.length ≤ co68 from by omega)
                        clear hr67 hC67 hroom67 hi067 hsz67
                        have KY67 := Aside0.mk hy67
                        clear hy67
                        have KL67 := Aside0.mk (show ((ji62) : Int).toNat ≤ x3_1.length from by omega)
                        replace q67 := eq_true q67
                        go_wp2_with (first | ((with_reducible refine gate_callee (f := 23) rfl ?_); refine goesL_ (some 87) rfl rfl Tryd.func23 (by kernel_rfl) rfl #[.slice Ao68 y122.length co68, .bool false] rfl (by (try simp only [List.map_toArray, List.map_cons, List.map_nil]); first | done | rfl | (simp only [List.length_drop, List.length_take]; rfl)) ?_; (with_reducible refine (slices_Contains_bool_bool.calls k1 _ _ y122 false true _ ⟨by repeat (first | exact hG.out | exact hG.out.below (by repeat (first | (with_reducible first | exact HB.out | apply below_alloc | apply pw_below_drewN | apply below_drew1) | exact HB.out | exact Below.refl _ _)) | apply Glob.drewN | apply Glob.drew)⟩ ?side1 ?side2 A65.out).mono ?_); (case side1 => repeat (first | exact (by repeat (first | (with_reducible exact HR125.out) | (with_reducible refine Kd.C_alloc ?_ _) | (with_reducible refine Kd.C_drewN ?_ _) | (with_reducible refine Kd.C_drew ?_) | exact HR125.out)) | (with_reducible refine Kd.C_alloc ?_ _) | (with_reducible refine Kd.C_drewN ?_ _) | (with_reducible refine Kd.C_drew ?_))); (case side2 => exact HC125.out); rintro e w' ⟨rfl, ⟨nd, rfl⟩⟩; refine ⟨_, rfl, ?_⟩))
                        go_ret
                        exact ⟨by first | rfl | (simp [errW_none, errW_some] <;> rfl) | (simp only [← hji62]; first | rfl | (simp [errW_none, errW_some] <;> rfl)) | (simp [*, errW_none, errW_some] <;> rfl), by repeat (first | (with_reducible first | exact HB.out | apply below_alloc | apply pw_below_drewN | apply below_drew1) | exact HB.out)⟩
                      · replace c66 := Bool.eq_false_iff.mpr c66
                        subst c66
                        have H1 : (if (ji62) < (x4_1.length : Int) then (if (rd x4_1 (ji62)) > 16 then (some 26) else (some 0)) else (none)) = some r := by rw [if_neg (show ¬ (false = true) by decide)] at H; exact H
                        clear H
                        have H := H1
                        clear H1
                        by_cases c69 : (ji62) < (x4_1.length : Int)
                        · rw [if_pos c69] at H
                          have c69b0 : decide ((ji62) < (x4_1.length : Int)) = true := decide_eq_true c69
                          clear c69
                          by_cases c70 : (rd x4_1 (ji62)) > 16
                          · rw [if_pos c70] at H
                            have c70b0 : decide (16 < (rd x4_1 (ji62))) = true := decide_eq_true c70
                            clear c70
                            obtain rfl := Option.some.inj H
                            obtain ⟨Ao72, co72, eo72⟩ := Kd.R_slice HO_3.out
                            subst eo72
                            have q71 : ((ji62) : Int) ≤ ((x3_1.length : Int) : Int) := of_decide_eq_true (by first | (with_reducible assumption) | assumption)
                            obtain ⟨i071, hi071, _, hsz71, _⟩ := info_parts info4
                            have hroom71 : x3_1.length ≤ co72 := (Kd.R_reads' HO_3.out).2.1
                            have hC71 : Kd.C Kd.bool _ Ao72 x3_1.length x3_1 := (Kd.R_reads' HO_3.out).2.2
                            have hcut71 := cut_to (P := Tryd.prog) 46 4 .i64 Tryd.underlying46 hi071 Ao72 x3_1.length co72 (ji62) (of_decide_eq_true (by first | (with_reducible assumption) | assumption)) q71 hroom71
                            have hr71 := Kd.C_take (m := ((ji62) : Int).toNat) hC71 (by omega)
                            have hy71 : y122.length = ((ji62) : Int).toNat := (by rw [Ny122.out, List.length_take]; omega)
                            rw [← Ny122.out] at hr71
                            rw [← hy71] at hcut71
                            have HR125 := Aside0.mk hr71
                            have HC125 := Aside0.mk (show y122.length ≤ co72 from by omega)
                            clear hr71 hC71 hroom71 hi071 hsz71
                            have KY71 := Aside0.mk hy71
                            clear hy71
                            have KL71 := Aside0.mk (show ((ji62) : Int).toNat ≤ x3_1.length from by omega)
                            replace q71 := eq_true q71
                            go_wp2_with (first | ((with_reducible refine gate_callee (f := 23) rfl ?_); refine goesL_ (some 87) rfl rfl Tryd.func23 (by kernel_rfl) rfl #[.slice Ao72 y122.length co72, .bool false] rfl (by (try simp only [List.map_toArray, List.map_cons, List.map_nil]); first | done | rfl | (simp only [List.length_drop, List.length_take]; rfl)) ?_; (with_reducible refine (slices_Contains_bool_bool.calls k1 _ _ y122 false false _ ⟨by repeat (first | exact hG.out | exact hG.out.below (by repeat (first | (with_reducible first | exact HB.out | apply below_alloc | apply pw_below_drewN | apply below_drew1) | exact HB.out | exact Below.refl _ _)) | apply Glob.drewN | apply Glob.drew)⟩ ?side1 ?side2 A65.out).mono ?_); (case side1 => repeat (first | exact (by repeat (first | (with_reducible exact HR125.out) | (with_reducible refine Kd.C_alloc ?_ _) | (with_reducible refine Kd.C_drewN ?_ _) | (with_reducible refine Kd.C_drew ?_) | exact HR125.out)) | (with_reducible refine Kd.C_alloc ?_ _) | (with_reducible refine Kd.C_drewN ?_ _) | (with_reducible refine Kd.C_drew ?_))); (case side2 => exact HC125.out); rintro e w' ⟨rfl, ⟨nd, rfl⟩⟩; refine ⟨_, rfl, ?_⟩; obtain ⟨Ao73, co73, eo73⟩ := Kd.R_slice HO_4.out; subst eo73; have p127 : 0 ≤ ((ji62) : Int) := of_decide_eq_true (by first | (with_reducible assumption) | assumption); have q127 : (ji62) < (x4_1.length : Int) := of_decide_eq_true (by first | (with_reducible assumption) | assumption); obtain ⟨ad127, e127, hx127_0⟩ := Kd.at_int (Kd.R_reads' HO_4.out).2.2 (ji62) p127 q127; cases e127; replace p127 := eq_true p127; replace q127 := eq_true q127))
                            go_ret
                            exact ⟨by first | rfl | (simp [errW_none, errW_some] <;> rfl) | (simp only [← hji62]; first | rfl | (simp [errW_none, errW_some] <;> rfl)) | (simp [*, errW_none, errW_some] <;> rfl), by repeat (first | (with_reducible first | exact HB.out | apply below_alloc | apply pw_below_drewN | apply below_drew1) | exact HB.out)⟩
                          · rw [if_neg c70] at H
                            have c70b0 : decide (16 < (rd x4_1 (ji62))) = false := decide_eq_false c70
                            clear c70
                            obtain rfl := Option.some.inj H
                            obtain ⟨Ao75, co75, eo75⟩ := Kd.R_slice HO_3.out
                            subst eo75
                            have q74 : ((ji62) : Int) ≤ ((x3_1.length : Int) : Int) := of_decide_eq_true (by first | (with_reducible assumption) | assumption)
                            obtain ⟨i074, hi074, _, hsz74, _⟩ := info_parts info4
                            have hroom74 : x3_1.length ≤ co75 := (Kd.R_reads' HO_3.out).2.1
                            have hC74 : Kd.C Kd.bool _ Ao75 x3_1.length x3_1 := (Kd.R_reads' HO_3.out).2.2
                            have hcut74 := cut_to (P := Tryd.prog) 46 4 .i64 Tryd.underlying46 hi074 Ao75 x3_1.length co75 (ji62) (of_decide_eq_true (by first | (with_reducible assumption) | assumption)) q74 hroom74
                            have hr74 := Kd.C_take (m := ((ji62) : Int).toNat) hC74 (by omega)
                            have hy74 : y122.length = ((ji62) : Int).toNat := (by rw [Ny122.out, List.length_take]; omega)
                            rw [← Ny122.out] at hr74
                            rw [← hy74] at hcut74
                            have HR125 := Aside0.mk hr74
                            have HC125 := Aside0.mk (show y122.length ≤ co75 from by omega)
                            clear hr74 hC74 hroom74 hi074 hsz74
                            have KY74 := Aside0.mk hy74
                            clear hy74
                            have KL74 := Aside0.mk (show ((ji62) : Int).toNat ≤ x3_1.length from by omega)
                            replace q74 := eq_true q74
                            go_wp2_with (first | ((with_reducible refine gate_callee (f := 23) rfl ?_); refine goesL_ (some 87) rfl rfl Tryd.func23 (by kernel_rfl) rfl #[.slice Ao75 y122.length co75, .bool false] rfl (by (try simp only [List.map_toArray, List.map_cons, List.map_nil]); first | done | rfl | (simp only [List.length_drop, List.length_take]; rfl)) ?_; (with_reducible refine (slices_Contains_bool_bool.calls k1 _ _ y122 false false _ ⟨by repeat (first | exact hG.out | exact hG.out.below (by repeat (first | (with_reducible first | exact HB.out | apply below_alloc | apply pw_below_drewN | apply below_drew1) | exact HB.out | exact Below.refl _ _)) | apply Glob.drewN | apply Glob.drew)⟩ ?side1 ?side2 A65.out).mono ?_); (case side1 => repeat (first | exact (by repeat (first | (with_reducible exact HR125.out) | (with_reducible refine Kd.C_alloc ?_ _) | (with_reducible refine Kd.C_drewN ?_ _) | (with_reducible refine Kd.C_drew ?_) | exact HR125.out)) | (with_reducible refine Kd.C_alloc ?_ _) | (with_reducible refine Kd.C_drewN ?_ _) | (with_reducible refine Kd.C_drew ?_))); (case side2 => exact HC125.out); rintro e w' ⟨rfl, ⟨nd, rfl⟩⟩; refine ⟨_, rfl, ?_⟩; obtain ⟨Ao76, co76, eo76⟩ := Kd.R_slice HO_4.out; subst eo76; have p127 : 0 ≤ ((ji62) : Int) := of_decide_eq_true (by first | (with_reducible assumption) | assumption); have q127 : (ji62) < (x4_1.length : Int) := of_decide_eq_true (by first | (with_reducible assumption) | assumption); obtain ⟨ad127, e127, hx127_0⟩ := Kd.at_int (Kd.R_reads' HO_4.out).2.2 (ji62) p127 q127; cases e127; replace p127 := eq_true p127; replace q127 := eq_true q127))
                            go_ret
                            exact ⟨by first | rfl | (simp [errW_none, errW_some] <;> rfl) | (simp only [← hji62]; first | rfl | (simp [errW_none, errW_some] <;> rfl)) | (simp [*, errW_none, errW_some] <;> rfl), by repeat (first | (with_reducible first | exact HB.out | apply below_alloc | apply pw_below_drewN | apply below_drew1) | exact HB.out)⟩
                        · rw [if_neg c69] at H
                          exact absurd H (by simp)
                    · rw [if_neg c64] at H
                      exact absurd H (by simp)
                  · rw [if_neg c63] at H
                    exact absurd H (by simp)
          · rw [if_neg c6] at H
            exact absurd H (by simp)
        · rw [if_neg c5] at H
          exact absurd H (by simp)
      · rw [if_neg c4] at H
        exact absurd H (by simp)
end Go.Proofs.YtldlkoncndlbhaaDoor.PSh
