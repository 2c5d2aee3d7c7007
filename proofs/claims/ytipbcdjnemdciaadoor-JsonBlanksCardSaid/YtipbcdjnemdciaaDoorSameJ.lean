/- The document's 'Same' walked over one tree that lies twice. -/
import Derived.Test.YtipbcdjnemdciaaDoorAwk
set_option linter.unusedVariables false
set_option linter.unusedSimpArgs false
namespace Go.Proofs.YtipbcdjnemdciaaDoor.Js
open Go.RowKit Go.Lib Go.Proofs.YtipbcdjnemdciaaDoor.PSh Go.Proofs.YtipbcdjnemdciaaDoor.Np Go.Proofs.YtipbcdjnemdciaaDoorW.PrintWords Go.Proofs.YtipbcdjnemdciaaDoorW.PrintLast Go.Proofs.YtipbcdjnemdciaaDoorW.PrintMore

theorem wrap_succ (q : Nat) (h : q < 9223372036854775807) : wrap64 ((q : Int) + 1) = (q : Int) + 1 := by unfold wrap64; omega
def same.T6 : Bool × List (List Nat × List Nat) := (true, [([], []), ([], []), ([0, 1], [0, 1]), ([2], [2]), ([], []), ([], []), ([4, 5], [4, 5]), ([6], [6]), ([], []), ([], []), ([8, 3, 0, 1, 2, 3, 8, 9], [3, 8]), ([9, 7, 10, 0, 1, 2, 3, 4, 5, 6, 7, 8, 9, 10], [7, 9])])
def same.B6 : List Nat := [0, 0, 3, 7, 0, 0, 48, 112, 0, 0, 783, 2047]
theorem same.tab6 : rtab .any (opsOf Tryd.f11 6) = same.T6 := by kernel_rfl
theorem same.bits6 : waitsOk same.T6.2 same.B6 = true := by kernel_rfl

set_option maxHeartbeats 8000000 in
set_option maxRecDepth 100000 in
theorem same_walk (l : List S39) (ga gb : Nat) (ca cb : Nat) (w : World) (ha : Kd.C k39 w (some ⟨ga, 0, none⟩) l.length l) (hb : Kd.C k39 w (some ⟨gb, 0, none⟩) l.length l) :
    Calls Tryd.prog 11 #[.slice (some ⟨ga, 0, none⟩) l.length ca, .slice (some ⟨gb, 0, none⟩) l.length cb] w fun e w' => e = .returned (.bool true) ∧ Below w.heap.size w w' := by
  go_enter Tryd.func11, Tryd.ntmps11
  go_wp2
  go_loopw [5] (fun i wr => ∃ j : Nat, j ≤ l.length ∧ i = .int .i64 j ∧ Below w.heap.size w wr) (fun i _ => l.length - (RowKit.intOf i).toNat)
  case atStart => exact ⟨0, Nat.zero_le _, rfl, Below.refl _ _⟩
  case round =>
    obtain ⟨j, hj, rfl, hbr⟩ := hrel
    by_cases hlt : j < l.length
    · have hll : ((j : Int) < (l.length : Int)) = True := eq_true (by omega)
      have HWJ := Aside0.mk (wrap_succ j (Nat.lt_of_lt_of_le hlt (Kd.C_max ha)))
      obtain ⟨ad, A4, c4, A5, c5, e0, hx0, hx1, hx2, hx3, hx4, hx5, hl4, hC4, hl5, hC5⟩ := at_T39 (Kd.C_below ha hbr) (j : Int) (by omega) (by omega)
      obtain ⟨bd, B4, d4, B5, d5, e1, hy0, hy1, hy2, hy3, hy4, hy5, hm4, hD4, hm5, hD5⟩ := at_T39 (Kd.C_below hb hbr) (j : Int) (by omega) (by omega)
      obtain rfl := Option.some.inj e0
      obtain rfl := Option.some.inj e1
      have ea : ∀ g : Nat, (⟨g, 0, none⟩ : Addr).add ((j : Int).toNat * 6) = ⟨g, j * 6, none⟩ := fun g => by rw [Int.toNat_natCast]; exact Go.Proofs.YtipbcdjnemdciaaDoorW.PrintWords.add_plain g (j * 6)
      rw [ea] at hx0 hx1 hx2 hx3 hx4 hx5 hy0 hy1 hy2 hy3 hy4 hy5
      dsimp only at hx1 hx2 hx3 hx4 hx5 hy1 hy2 hy3 hy4 hy5
      clear ea e0 e1
      generalize rd_T39 l (j : Int) = v at *
      obtain ⟨f0, f1, f2, f3, f4, f5⟩ := v
      dsimp only at *
      go_wp2
      refine start_ (n := 12) (S := fun w' => w'.cell? ⟨ga, j * 6, none⟩ = some (.int .i64 f0) ∧ w'.cell? ⟨ga, j * 6 + 1, none⟩ = some (.bool f1) ∧ w'.cell? ⟨ga, j * 6 + 2, none⟩ = some (.int .i64 f2) ∧ w'.cell? ⟨ga, j * 6 + 3, none⟩ = some (.string f3) ∧ w'.cell? ⟨ga, j * 6 + 4, none⟩ = some (.slice A4 f4.length c4) ∧ w'.cell? ⟨ga, j * 6 + 5, none⟩ = some (.slice A5 f5.length c5) ∧ w'.cell? ⟨gb, j * 6, none⟩ = some (.int .i64 f0) ∧ w'.cell? ⟨gb, j * 6 + 1, none⟩ = some (.bool f1) ∧ w'.cell? ⟨gb, j * 6 + 2, none⟩ = some (.int .i64 f2) ∧ w'.cell? ⟨gb, j * 6 + 3, none⟩ = some (.string f3) ∧ w'.cell? ⟨gb, j * 6 + 4, none⟩ = some (.slice B4 f4.length d4) ∧ w'.cell? ⟨gb, j * 6 + 5, none⟩ = some (.slice B5 f5.length d5)) (ds := [11]) #[false, false, false, false, false, false, false, false, false, false, false, false] (by kernel_rfl) rfl rfl ⟨hx0, hx1, hx2, hx3, hx4, hx5, hy0, hy1, hy2, hy3, hy4, hy5⟩ (fun hHeld => ?_)
      refine with_tabW same.tab6 same.bits6 (fun HT_ HW_ => ?_)
      have hbD : Below wr.heap.size wr wr.drew := below_drew (Below.refl _ _)
      have hxs := hHeld
      generalize wr.drew = W0 at *
      refine pure_ (i := 0) (N := some 21) (v := ?_) (a' := ?_) #[true, false, false, false, false, false, false, false, false, false, false, false] rfl rfl (any_of HT_.out (by kernel_rfl)) (fun _ _ _ h => h) (Or.inl ⟨by rfl, ?_⟩) ?_ ?_
      rotate_left
      · intro w'
        go_simp
        with_reducible rfl
      rotate_left
      · simp only [Act.put, List.setIfInBounds_toArray, List.set_cons_zero, List.set_cons_succ, i64_w, i32_w]
        rfl
      refine pure_ (i := 1) (N := some 22) (v := ?_) (a' := ?_) #[true, true, false, false, false, false, false, false, false, false, false, false] rfl rfl (any_of HT_.out (by kernel_rfl)) (fun _ _ _ h => h) (Or.inl ⟨by rfl, ?_⟩) ?_ ?_
      rotate_left
      · intro w'
        go_simp
        with_reducible rfl
      rotate_left
      · simp only [Act.put, List.setIfInBounds_toArray, List.set_cons_zero, List.set_cons_succ, i64_w, i32_w]
        rfl
      refine pure_ (i := 2) (N := some 23) (v := ?_) (a' := ?_) #[true, true, true, false, false, false, false, false, false, false, false, false] rfl rfl (any_of HT_.out (by kernel_rfl)) (fun _ _ _ h => h) (Or.inl ⟨by rfl, ?_⟩) ?_ ?_
      rotate_left
      · intro w'
        go_simp
        with_reducible rfl
      rotate_left
      · simp only [Act.put, List.setIfInBounds_toArray, List.set_cons_zero, List.set_cons_succ, i64_w, i32_w]
        rfl
      refine pure_ (i := 4) (N := some 25) (v := ?_) (a' := ?_) #[true, true, true, false, true, false, false, false, false, false, false, false] rfl rfl (any_of HT_.out (by kernel_rfl)) (fun _ _ _ h => h) (Or.inl ⟨by rfl, ?_⟩) ?_ ?_
      rotate_left
      · intro w'
        go_simp
        with_reducible rfl
      rotate_left
      · simp only [Act.put, List.setIfInBounds_toArray, List.set_cons_zero, List.set_cons_succ, i64_w, i32_w]
        rfl
      refine pure_ (i := 5) (N := some 26) (v := ?_) (a' := ?_) #[true, true, true, false, true, true, false, false, false, false, false, false] rfl rfl (any_of HT_.out (by kernel_rfl)) (fun _ _ _ h => h) (Or.inl ⟨by rfl, ?_⟩) ?_ ?_
      rotate_left
      · intro w'
        go_simp
        with_reducible rfl
      rotate_left
      · simp only [Act.put, List.setIfInBounds_toArray, List.set_cons_zero, List.set_cons_succ, i64_w, i32_w]
        rfl
      refine pure_ (i := 6) (N := some 27) (v := ?_) (a' := ?_) #[true, true, true, false, true, true, true, false, false, false, false, false] rfl rfl (any_of HT_.out (by kernel_rfl)) (fun _ _ _ h => h) (Or.inl ⟨by rfl, ?_⟩) ?_ ?_
      rotate_left
      · intro w'
        go_simp
        with_reducible rfl
      rotate_left
      · simp only [Act.put, List.setIfInBounds_toArray, List.set_cons_zero, List.set_cons_succ, i64_w, i32_w]
        rfl
      refine take_ (i := 3) (N := some 24) (v := ?_) (a' := ?_) #[true, true, true, true, true, true, true, false, false, false, false, false] rfl rfl (take_ofW HT_.out HW_.out (by kernel_rfl)) (fun _ _ _ h => h) (Or.inl ⟨by rfl, ?_⟩) hHeld ?_ ?_
      rotate_left
      · rintro w' ⟨s0, s1, s2, s3, s4, s5, s6, s7, s8, s9, s10, s11⟩
        go_simp
        with_reducible rfl
      rotate_left
      · simp only [Act.put, List.setIfInBounds_toArray, List.set_cons_zero, List.set_cons_succ, i64_w, i32_w]
        rfl
      refine take_ (i := 7) (N := some 28) (v := ?_) (a' := ?_) #[true, true, true, true, true, true, true, true, false, false, false, false] rfl rfl (take_ofW HT_.out HW_.out (by kernel_rfl)) (fun _ _ _ h => h) (Or.inl ⟨by rfl, ?_⟩) hHeld ?_ ?_
      rotate_left
      · rintro w' ⟨s0, s1, s2, s3, s4, s5, s6, s7, s8, s9, s10, s11⟩
        go_simp
        with_reducible rfl
      rotate_left
      · simp only [Act.put, List.setIfInBounds_toArray, List.set_cons_zero, List.set_cons_succ, i64_w, i32_w]
        rfl
      have hS : ∀ W, Below W0.heap.size W0 W → W.cell? ⟨ga, j * 6, none⟩ = some (.int .i64 f0) ∧ W.cell? ⟨ga, j * 6 + 1, none⟩ = some (.bool f1) ∧ W.cell? ⟨ga, j * 6 + 2, none⟩ = some (.int .i64 f2) ∧ W.cell? ⟨ga, j * 6 + 3, none⟩ = some (.string f3) ∧ W.cell? ⟨ga, j * 6 + 4, none⟩ = some (.slice A4 f4.length c4) ∧ W.cell? ⟨ga, j * 6 + 5, none⟩ = some (.slice A5 f5.length c5) ∧ W.cell? ⟨gb, j * 6, none⟩ = some (.int .i64 f0) ∧ W.cell? ⟨gb, j * 6 + 1, none⟩ = some (.bool f1) ∧ W.cell? ⟨gb, j * 6 + 2, none⟩ = some (.int .i64 f2) ∧ W.cell? ⟨gb, j * 6 + 3, none⟩ = some (.string f3) ∧ W.cell? ⟨gb, j * 6 + 4, none⟩ = some (.slice B4 f4.length d4) ∧ W.cell? ⟨gb, j * 6 + 5, none⟩ = some (.slice B5 f5.length d5) := fun W hW => by
        obtain ⟨s0, s1, s2, s3, s4, s5, s6, s7, s8, s9, s10, s11⟩ := hHeld
        exact ⟨pw_cell_below hW s0, pw_cell_below hW s1, pw_cell_below hW s2, pw_cell_below hW s3, pw_cell_below hW s4, pw_cell_below hW s5, pw_cell_below hW s6, pw_cell_below hW s7, pw_cell_below hW s8, pw_cell_below hW s9, pw_cell_below hW s10, pw_cell_below hW s11⟩
      refine join_ (σ := Nat × Nat) 2 #[true, true, true, true, true, true, true, true, true, true, false, false] (fun s => [(6, .pointer (some ⟨s.1, 0, none⟩)), (7, .pointer (some ⟨s.2, 0, none⟩))]) (fun s w' => s.1 ≠ s.2 ∧ W0.heap.size ≤ s.1 ∧ W0.heap.size ≤ s.2 ∧ Below W0.heap.size W0 w' ∧ w'.heap[s.1]? = some (.cells #[.int .i64 0, .bool false, .int .i64 0, .string ⟨#[]⟩, .slice none 0 0, .slice none 0 0] 39 (0, 0)) ∧ w'.heap[s.2]? = some (.cells #[.int .i64 0, .bool false, .int .i64 0, .string ⟨#[]⟩, .slice none 0 0, .slice none 0 0] 39 (0, 0))) ?cont ?orders
      case orders =>
        intro hjoin
        have hz1 : (W0.alloc (.cells #[.int .i64 0, .bool false, .int .i64 0, .string ⟨#[]⟩, .slice none 0 0, .slice none 0 0] 39)).heap.size = W0.heap.size + 1 := Array.size_push _
        have hB1 : Below W0.heap.size W0 (W0.alloc (.cells #[.int .i64 0, .bool false, .int .i64 0, .string ⟨#[]⟩, .slice none 0 0, .slice none 0 0] 39)) := below_alloc (Below.refl _ _) _
        have hn1 : (W0.alloc (.cells #[.int .i64 0, .bool false, .int .i64 0, .string ⟨#[]⟩, .slice none 0 0, .slice none 0 0] 39)).heap[W0.heap.size]? = some (.cells #[.int .i64 0, .bool false, .int .i64 0, .string ⟨#[]⟩, .slice none 0 0, .slice none 0 0] 39 (0, 0)) := blk_new _ _
        obtain ⟨W1, hW1⟩ : ∃ W1, W0.alloc (.cells #[.int .i64 0, .bool false, .int .i64 0, .string ⟨#[]⟩, .slice none 0 0, .slice none 0 0] 39) = W1 := ⟨_, rfl⟩
        rw [hW1] at hz1 hB1 hn1
        have hB2 : Below W0.heap.size W0 (W1.alloc (.cells #[.int .i64 0, .bool false, .int .i64 0, .string ⟨#[]⟩, .slice none 0 0, .slice none 0 0] 39)) := below_alloc hB1 _
        have hn2 : (W1.alloc (.cells #[.int .i64 0, .bool false, .int .i64 0, .string ⟨#[]⟩, .slice none 0 0, .slice none 0 0] 39)).heap[W1.heap.size]? = some (.cells #[.int .i64 0, .bool false, .int .i64 0, .string ⟨#[]⟩, .slice none 0 0, .slice none 0 0] 39 (0, 0)) := blk_new _ _
        have hn3 : (W1.alloc (.cells #[.int .i64 0, .bool false, .int .i64 0, .string ⟨#[]⟩, .slice none 0 0, .slice none 0 0] 39)).heap[W0.heap.size]? = some (.cells #[.int .i64 0, .bool false, .int .i64 0, .string ⟨#[]⟩, .slice none 0 0, .slice none 0 0] 39 (0, 0)) := blk_below hn1 (below_alloc (Below.refl _ _) _)
        refine two_ (i := 8) (j := 9) (Ni := some 6) (Nj := some 7) #[true, true, true, true, true, true, true, true, true, false, false, false] #[true, true, true, true, true, true, true, true, false, true, false, false] rfl rfl rfl rfl (two_of HT_.out (by kernel_rfl)) (by decide) (by decide) (fun K hK => ?_) (fun K hK => ?_)
        · refine value_ (v := .pointer (some ⟨W0.heap.size, 0, none⟩)) (w1 := W1) (by rfl) rfl (by rw [← hW1]; first | (go_simp; done) | (go_simp; rfl)) ?_
          refine hK.out _ _ (hS _ hB1) (fun hh => ?_)
          clear hK K
          refine one_ (i := 9) (N := some 7) #[true, true, true, true, true, true, true, true, true, true, false, false] rfl rfl (one_of HT_.out (by kernel_rfl)) (by decide) (fun K hK => ?_)
          refine value_ (v := .pointer (some ⟨W1.heap.size, 0, none⟩)) (w1 := W1.alloc (.cells #[.int .i64 0, .bool false, .int .i64 0, .string ⟨#[]⟩, .slice none 0 0, .slice none 0 0] 39)) (by rfl) rfl (by first | (go_simp; done) | (go_simp; rfl)) ?_
          refine hK.out _ _ (hS _ hB2) (fun hh2 => ?_)
          clear hK K
          exact hjoin (W0.heap.size, W1.heap.size) _ ⟨by show W0.heap.size ≠ W1.heap.size; omega, Nat.le_refl _, by show W0.heap.size ≤ W1.heap.size; omega, hB2, hn3, hn2⟩
        · refine value_ (v := .pointer (some ⟨W0.heap.size, 0, none⟩)) (w1 := W1) (by rfl) rfl (by rw [← hW1]; first | (go_simp; done) | (go_simp; rfl)) ?_
          refine hK.out _ _ (hS _ hB1) (fun hh => ?_)
          clear hK K
          refine one_ (i := 8) (N := some 6) #[true, true, true, true, true, true, true, true, true, true, false, false] rfl rfl (one_of HT_.out (by kernel_rfl)) (by decide) (fun K hK => ?_)
          refine value_ (v := .pointer (some ⟨W1.heap.size, 0, none⟩)) (w1 := W1.alloc (.cells #[.int .i64 0, .bool false, .int .i64 0, .string ⟨#[]⟩, .slice none 0 0, .slice none 0 0] 39)) (by rfl) rfl (by first | (go_simp; done) | (go_simp; rfl)) ?_
          refine hK.out _ _ (hS _ hB2) (fun hh2 => ?_)
          clear hK K
          exact hjoin (W1.heap.size, W0.heap.size) _ ⟨by show W1.heap.size ≠ W0.heap.size; omega, by show W0.heap.size ≤ W1.heap.size; omega, Nat.le_refl _, hB2, hn2, hn3⟩
      case cont =>
        rintro ⟨gx, gy⟩ W5 ⟨hne, hgx, hgy, hB5, hbx, hby⟩
        dsimp only at hne hgx hgy hbx hby
        refine norm_ (a' := ?_) ?_ ?_
        rotate_left
        · simp only [putAll, Act.put, List.setIfInBounds_toArray, List.set_cons_zero, List.set_cons_succ, i64_w, i32_w]
          rfl
        have cp0 := blk_cell hbx 0
        have zp0 := blk_frozen hbx 0
        have hp1 := blk_put hbx 0 (.int .i64 f0) rfl
        have op1 := blk_far hby (p := ⟨gx, 0, none⟩) (by show gy ≠ gx; omega) (.int .i64 f0)
        have Bp1 := below_set (j := 0) (v := .int .i64 f0) hB5 hgx
        have cp1 := blk_cell hp1 1
        have zp1 := blk_frozen hp1 1
        have hp2 := blk_put hp1 1 (.bool f1) rfl
        have op2 := blk_far op1 (p := ⟨gx, 1, none⟩) (by show gy ≠ gx; omega) (.bool f1)
        have Bp2 := below_set (j := 1) (v := .bool f1) Bp1 hgx
        have cp2 := blk_cell hp2 2
        have zp2 := blk_frozen hp2 2
        have hp3 := blk_put hp2 2 (.int .i64 f2) rfl
        have op3 := blk_far op2 (p := ⟨gx, 2, none⟩) (by show gy ≠ gx; omega) (.int .i64 f2)
        have Bp3 := below_set (j := 2) (v := .int .i64 f2) Bp2 hgx
        have cp3 := blk_cell hp3 3
        have zp3 := blk_frozen hp3 3
        have hp4 := blk_put hp3 3 (.string f3) rfl
        have op4 := blk_far op3 (p := ⟨gx, 3, none⟩) (by show gy ≠ gx; omega) (.string f3)
        have Bp4 := below_set (j := 3) (v := .string f3) Bp3 hgx
        have cp4 := blk_cell hp4 4
        have zp4 := blk_frozen hp4 4
        have hp5 := blk_put hp4 4 (.slice A4 f4.length c4) rfl
        have op5 := blk_far op4 (p := ⟨gx, 4, none⟩) (by show gy ≠ gx; omega) (.slice A4 f4.length c4)
        have Bp5 := below_set (j := 4) (v := .slice A4 f4.length c4) Bp4 hgx
        have cp5 := blk_cell hp5 5
        have zp5 := blk_frozen hp5 5
        have hp6 := blk_put hp5 5 (.slice A5 f5.length c5) rfl
        have op6 := blk_far op5 (p := ⟨gx, 5, none⟩) (by show gy ≠ gx; omega) (.slice A5 f5.length c5)
        have Bp6 := below_set (j := 5) (v := .slice A5 f5.length c5) Bp5 hgx
        refine one_ (i := 10) (N := none) #[true, true, true, true, true, true, true, true, true, true, true, false] rfl rfl (one_of HT_.out (by kernel_rfl)) (by decide) (fun K hK => ?_)
        refine skip_ (w1 := ((((((W5.setCell ⟨gx, 0, none⟩ (.int .i64 f0)).setCell ⟨gx, 1, none⟩ (.bool f1)).setCell ⟨gx, 2, none⟩ (.int .i64 f2)).setCell ⟨gx, 3, none⟩ (.string f3)).setCell ⟨gx, 4, none⟩ (.slice A4 f4.length c4)).setCell ⟨gx, 5, none⟩ (.slice A5 f5.length c5))) (by rfl) rfl (by go_simp; try rfl) ?_
        refine hK.out _ _ (hS _ Bp6) (fun hh => ?_)
        clear hK K
        have hbx6 := hp6
        have hby6 := op6
        have hB6 := Bp6
        clear cp0 zp0 hp1 op1 Bp1 cp1 zp1 hp2 op2 Bp2 cp2 zp2 hp3 op3 Bp3 cp3 zp3 hp4 op4 Bp4 cp4 zp4 hp5 op5 Bp5 cp5 zp5 hp6 op6 Bp6
        generalize ((((((W5.setCell ⟨gx, 0, none⟩ (.int .i64 f0)).setCell ⟨gx, 1, none⟩ (.bool f1)).setCell ⟨gx, 2, none⟩ (.int .i64 f2)).setCell ⟨gx, 3, none⟩ (.string f3)).setCell ⟨gx, 4, none⟩ (.slice A4 f4.length c4)).setCell ⟨gx, 5, none⟩ (.slice A5 f5.length c5)) = W6 at *
        have cq0 := blk_cell hby6 0
        have zq0 := blk_frozen hby6 0
        have hq1 := blk_put hby6 0 (.int .i64 f0) rfl
        have oq1 := blk_far hbx6 (p := ⟨gy, 0, none⟩) (by show gx ≠ gy; omega) (.int .i64 f0)
        have Bq1 := below_set (j := 0) (v := .int .i64 f0) hB6 hgy
        have cq1 := blk_cell hq1 1
        have zq1 := blk_frozen hq1 1
        have hq2 := blk_put hq1 1 (.bool f1) rfl
        have oq2 := blk_far oq1 (p := ⟨gy, 1, none⟩) (by show gx ≠ gy; omega) (.bool f1)
        have Bq2 := below_set (j := 1) (v := .bool f1) Bq1 hgy
        have cq2 := blk_cell hq2 2
        have zq2 := blk_frozen hq2 2
        have hq3 := blk_put hq2 2 (.int .i64 f2) rfl
        have oq3 := blk_far oq2 (p := ⟨gy, 2, none⟩) (by show gx ≠ gy; omega) (.int .i64 f2)
        have Bq3 := below_set (j := 2) (v := .int .i64 f2) Bq2 hgy
        have cq3 := blk_cell hq3 3
        have zq3 := blk_frozen hq3 3
        have hq4 := blk_put hq3 3 (.string f3) rfl
        have oq4 := blk_far oq3 (p := ⟨gy, 3, none⟩) (by show gx ≠ gy; omega) (.string f3)
        have Bq4 := below_set (j := 3) (v := .string f3) Bq3 hgy
        have cq4 := blk_cell hq4 4
        have zq4 := blk_frozen hq4 4
        have hq5 := blk_put hq4 4 (.slice B4 f4.length d4) rfl
        have oq5 := blk_far oq4 (p := ⟨gy, 4, none⟩) (by show gx ≠ gy; omega) (.slice B4 f4.length d4)
        have Bq5 := below_set (j := 4) (v := .slice B4 f4.length d4) Bq4 hgy
        have cq5 := blk_cell hq5 5
        have zq5 := blk_frozen hq5 5
        have hq6 := blk_put hq5 5 (.slice B5 f5.length d5) rfl
        have oq6 := blk_far oq5 (p := ⟨gy, 5, none⟩) (by show gx ≠ gy; omega) (.slice B5 f5.length d5)
        have Bq6 := below_set (j := 5) (v := .slice B5 f5.length d5) Bq5 hgy
        refine last_skip (i := 11) (w1 := ((((((W6.setCell ⟨gy, 0, none⟩ (.int .i64 f0)).setCell ⟨gy, 1, none⟩ (.bool f1)).setCell ⟨gy, 2, none⟩ (.int .i64 f2)).setCell ⟨gy, 3, none⟩ (.string f3)).setCell ⟨gy, 4, none⟩ (.slice B4 f4.length d4)).setCell ⟨gy, 5, none⟩ (.slice B5 f5.length d5))) #[true, true, true, true, true, true, true, true, true, true, true, true] rfl rfl (one_of HT_.out (by kernel_rfl)) (by decide) rfl (by go_simp; try rfl) ?_
        refine done_ (done_of HT_.out (by kernel_rfl)) ?_
        have hby7 := hq6
        have hbx7 := oq6
        have hB7 := Bq6
        clear cq0 zq0 hq1 oq1 Bq1 cq1 zq1 hq2 oq2 Bq2 cq2 zq2 hq3 oq3 Bq3 cq3 zq3 hq4 oq4 Bq4 cq4 zq4 hq5 oq5 Bq5 cq5 zq5 hq6 oq6 Bq6
        generalize ((((((W6.setCell ⟨gy, 0, none⟩ (.int .i64 f0)).setCell ⟨gy, 1, none⟩ (.bool f1)).setCell ⟨gy, 2, none⟩ (.int .i64 f2)).setCell ⟨gy, 3, none⟩ (.string f3)).setCell ⟨gy, 4, none⟩ (.slice B4 f4.length d4)).setCell ⟨gy, 5, none⟩ (.slice B5 f5.length d5)) = W7 at *
        have hW7 := hbD.trans (hB7.mono hbD.size)
        have x0 := blk_cell hbx7 0
        replace x0 : W7.cell? ⟨gx, 0, none⟩ = some (.int .i64 f0) := x0
        have x1 := blk_cell hbx7 1
        replace x1 : W7.cell? ⟨gx, 1, none⟩ = some (.bool f1) := x1
        have x2 := blk_cell hbx7 2
        replace x2 : W7.cell? ⟨gx, 2, none⟩ = some (.int .i64 f2) := x2
        have x3 := blk_cell hbx7 3
        replace x3 : W7.cell? ⟨gx, 3, none⟩ = some (.string f3) := x3
        have x4 := blk_cell hbx7 4
        replace x4 : W7.cell? ⟨gx, 4, none⟩ = some (.slice A4 f4.length c4) := x4
        have x5 := blk_cell hbx7 5
        replace x5 : W7.cell? ⟨gx, 5, none⟩ = some (.slice A5 f5.length c5) := x5
        have y0 := blk_cell hby7 0
        replace y0 : W7.cell? ⟨gy, 0, none⟩ = some (.int .i64 f0) := y0
        have y1 := blk_cell hby7 1
        replace y1 : W7.cell? ⟨gy, 1, none⟩ = some (.bool f1) := y1
        have y2 := blk_cell hby7 2
        replace y2 : W7.cell? ⟨gy, 2, none⟩ = some (.int .i64 f2) := y2
        have y3 := blk_cell hby7 3
        replace y3 : W7.cell? ⟨gy, 3, none⟩ = some (.string f3) := y3
        have y4 := blk_cell hby7 4
        replace y4 : W7.cell? ⟨gy, 4, none⟩ = some (.slice B4 f4.length d4) := y4
        have y5 := blk_cell hby7 5
        replace y5 : W7.cell? ⟨gy, 5, none⟩ = some (.slice B5 f5.length d5) := y5
        have hBw := hbr.trans (hW7.mono hbr.size)
        have x4' := x4; have x5' := x5; have y4' := y4; have y5' := y5
        have hC4' := Kd.C_below hC4 hW7
        have hD4' := Kd.C_below hD4 hW7
        have hC5' := Kd.C_below hC5 hW7
        have hD5' := Kd.C_below hD5 hW7
        clear hx0 hx1 hx2 hx3 hx4 hx5 hy0 hy1 hy2 hy3 hy4 hy5 hS hHeld hxs hC4 hD4 hC5 hD5 hbx hby hbx6 hby6 hbx7 hby7 HT_ HW_
        go_wp2
        go_loopw [8] (fun k wr2 => ∃ q : Nat, q ≤ f4.length ∧ k = .int .i64 q ∧ Below W7.heap.size W7 wr2) (fun k _ => f4.length - (RowKit.intOf k).toNat)
        case atStart => exact ⟨0, Nat.zero_le _, rfl, Below.refl _ _⟩
        case round =>
          obtain ⟨q, hq, rfl, hq7⟩ := hrel
          have x4 := pw_cell_below hq7 x4
          have x5 := pw_cell_below hq7 x5
          have y4 := pw_cell_below hq7 y4
          have y5 := pw_cell_below hq7 y5
          by_cases hql : q < f4.length
          · have hqq : ((q : Int) < (f4.length : Int)) = True := eq_true (by omega)
            have hq1 : (q < f4.length) = True := eq_true hql
            obtain ⟨ad4, rfl, hk4⟩ := Kd.at_string (Kd.C_below hC4' hq7) (q : Int) (by omega) (by omega)
            obtain ⟨bd4, rfl, hl4'⟩ := Kd.at_string (Kd.C_below hD4' hq7) (q : Int) (by omega) (by omega)
            rw [Int.toNat_natCast] at hk4 hl4'
            generalize rdOf ByteArray.empty f4 (q : Int) = nm at *
            have hw1 := wrap_succ q (Nat.lt_of_lt_of_le hql (Kd.C_max hC4'))
            go_wp2
            go_quiet (fail)
            go_wp2
            go_roundw
            case rel => exact ⟨q + 1, hql, congrArg (Value.int .i64) hw1, pw_below_drewN hq7 _⟩
            case measure => rw [hw1]; clear hw1; simp [RowKit.intOf]; omega
          · have hqq : ((q : Int) < (f4.length : Int)) = False := eq_false (by omega)
            go_wp2
            go_loopw [9] (fun k wr2 => ∃ q : Nat, q ≤ f5.length ∧ k = .int .i64 q ∧ Below W7.heap.size W7 wr2) (fun k _ => f5.length - (RowKit.intOf k).toNat)
            case atStart => exact ⟨0, Nat.zero_le _, rfl, hq7⟩
            case round =>
              obtain ⟨q2, hq2, rfl, hr7⟩ := hrel
              have z4 := pw_cell_below hr7 x4'
              have z5 := pw_cell_below hr7 x5'
              have u4' := pw_cell_below hr7 y4'
              have u5' := pw_cell_below hr7 y5'
              clear x4 x5 y4 y5
              by_cases hql2 : q2 < f5.length
              · have hqq2 : ((q2 : Int) < (f5.length : Int)) = True := eq_true (by omega)
                have hq12 : (q2 < f5.length) = True := eq_true hql2
                obtain ⟨ad5, rfl, hk5⟩ := Kd.at_int (Kd.C_below hC5' hr7) (q2 : Int) (by omega) (by omega)
                obtain ⟨bd5, rfl, hl5'⟩ := Kd.at_int (Kd.C_below hD5' hr7) (q2 : Int) (by omega) (by omega)
                rw [Int.toNat_natCast] at hk5 hl5'
                generalize rd f5 (q2 : Int) = kd at *
                have hw2 := wrap_succ q2 (Nat.lt_of_lt_of_le hql2 (Kd.C_max hC5'))
                go_wp2
                go_quiet (fail)
                go_wp2
                go_roundw
                case rel => exact ⟨q2 + 1, hql2, congrArg (Value.int .i64) hw2, pw_below_drewN hr7 _⟩
                case measure => rw [hw2]; clear hw2; simp [RowKit.intOf]; omega
              · have hqq2 : ((q2 : Int) < (f5.length : Int)) = False := eq_false (by omega)
                have hwj := HWJ.out
                go_wp2
                go_roundw
                case rel => exact ⟨j + 1, hlt, congrArg (Value.int .i64) hwj, hBw.trans (hr7.mono hBw.size)⟩
                case measure => rw [hwj]; clear hwj; simp [RowKit.intOf]; omega
    · have hll : ((j : Int) < (l.length : Int)) = False := eq_false (by omega)
      go_wp2
      go_ret
      exact ⟨rfl, hbr⟩

end Go.Proofs.YtipbcdjnemdciaaDoor.Js
