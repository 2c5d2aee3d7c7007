/- The closure that json.Parse defers: it takes a reader's stop, and tells its place and its number. -/
import Derived.Test.YtipbcdjnemdciaaDoorReader12
import Derived.Defers
import Derived.Recover
set_option linter.unusedVariables false
set_option linter.unusedSimpArgs false
namespace Go.Proofs.YtipbcdjnemdciaaDoor.Js
open Go.RowKit Go.Lib Go.Proofs.YtipbcdjnemdciaaDoor.PSh Go.Proofs.YtipbcdjnemdciaaDoor.Np Go.Proofs.YtipbcdjnemdciaaDoorW.PrintWords Go.Proofs.YtipbcdjnemdciaaDoorW.PrintLast Go.Proofs.YtipbcdjnemdciaaDoorW.PrintMore
def close.T5 : Bool × List (List Nat × List Nat) := (true, [([], []), ([0], [0]), ([], []), ([2], [2]), ([], []), ([1, 4, 0, 1, 4], [1]), ([3, 5, 0, 1, 2, 3, 4, 5], [3])])
def close.B5 : List Nat := [0, 1, 0, 4, 0, 19, 63]
theorem close.tab5 : rtab .any (opsOf Tryd.f16 5) = close.T5 := by kernel_rfl
theorem close.bits5 : waitsOk close.T5.2 close.B5 = true := by kernel_rfl

set_option maxHeartbeats 4000000 in
set_option maxRecDepth 100000 in
theorem close_idle (p q r : Addr) (w : World) :
    CallsD Tryd.prog 16 #[.pointer (some p), .pointer (some q), .pointer (some r)] .returning w fun e u' w' => e = .returned (.tuple #[]) ∧ u' = .returning ∧ w' = w := by
  refine callsD_of_wpS Tryd.func16 rfl fun c₀ cs hu => ?_
  apply wpS_seq
  apply wpS_region
  simp [wpOpsS, go_sem, recoverD, hu, Tryd.ntmps16, Exit.thenS]
  apply wpS_seq
  apply wpS_region
  simp [wpOpsS, go_sem, recoverD, hu, Exit.thenS, Array.replicate]
  refine wpS_cond (t := false) (by simp [Act.eval, Array.replicate]) ?_
  simp only [Bool.false_eq_true, if_false]
  refine wpS_of_wp (wp_skip ?_)
  cases c₀
  simp_all [bodyPostS, results, Tryd.results16]

set_option maxHeartbeats 4000000 in
set_option maxRecDepth 100000 in
theorem close_stopped (g : Nat) (tv : Value) (z y pp ee : Int) (older : List PanicEntry) (w : World)
    (hp : w.heap[g]? = some (.cells #[tv] 26 (0, 0))) (hq : w.heap[g + 1]? = some (.cells #[.int .i64 z] 3 (0, 0))) (hr : w.heap[g + 2]? = some (.cells #[.int .i64 y] 27 (0, 0))) :
    CallsD Tryd.prog 16 #[.pointer (some ⟨g, 0, none⟩), .pointer (some ⟨g + 1, 0, none⟩), .pointer (some ⟨g + 2, 0, none⟩)] (.panicking ({ v := .iface 45 (.agg #[.int .i64 pp, .int .i64 ee]), recovered := false } :: older)) w fun e u' w' =>
      e = .returned (.tuple #[]) ∧ u' = .panicking ({ v := .iface 45 (.agg #[.int .i64 pp, .int .i64 ee]), recovered := true } :: older) ∧ Below g w w' ∧ w'.cell? ⟨g, 0, none⟩ = some (.slice none 0 0) ∧ w'.cell? ⟨g + 1, 0, none⟩ = some (.int .i64 pp) ∧ w'.cell? ⟨g + 2, 0, none⟩ = some (.int .i64 ee) := by
  refine callsD_of_wpS Tryd.func16 rfl fun c₀ cs hu => ?_
  apply wpS_seq
  apply wpS_region
  simp [wpOpsS, go_sem, recoverD, hu, Tryd.ntmps16, Exit.thenS]
  apply wpS_seq
  apply wpS_region
  simp [wpOpsS, go_sem, recoverD, hu, Exit.thenS, Array.replicate]
  refine wpS_cond (t := true) (by simp [Act.eval, Array.replicate]) ?_
  simp only [if_true]
  refine wpS_of_wp ?_
  have hta : ∀ (v : Value) (W : World), (Instr.typeAssert (.iface 45 v) 20 45 true).run Tryd.prog W = .ok (.tuple #[v, .bool true]) W := fun v W => by
    have h1 := Tryd.underlying45
    simp [Instr.typeAssert, h1, go_sem]
  have hgl := blk_lt hr
  go_wp2
  have hB0 : Below w.heap.size w (w.alloc (.cells #[.int .i64 pp, .int .i64 ee] 45)).drew := below_drew (below_alloc (Below.refl _ _) _)
  have hb0 := blk_drew (blk_new w (.cells #[.int .i64 pp, .int .i64 ee] 45))
  go_wp2_with fail
  refine start_ (n := 7) (S := fun w' => w'.cell? ⟨w.heap.size, 0, none⟩ = some (.int .i64 pp) ∧ w'.cell? ⟨w.heap.size, 1, none⟩ = some (.int .i64 ee)) (ds := [6]) #[false, false, false, false, false, false, false] (by kernel_rfl) rfl rfl ⟨blk_cell hb0 0, blk_cell hb0 1⟩ (fun hHeld => ?_)
  refine with_tabW close.tab5 close.bits5 (fun HT_ HW_ => ?_)
  have hpw := blk_below hp hB0
  have hqw := blk_below hq hB0
  have hrw := blk_below hr hB0
  generalize (w.alloc (.cells #[.int .i64 pp, .int .i64 ee] 45)).drew = W0 at *
  have hfp := blk_frozen hpw 0
  have hcp := blk_cell hpw 0
  refine pure_ (i := 0) (N := some 17) (v := ?_) (a' := ?_) #[true, false, false, false, false, false, false] rfl rfl (any_of HT_.out (by kernel_rfl)) (fun _ _ _ h => h) (Or.inl ⟨by rfl, ?_⟩) ?_ ?_
  rotate_left
  · intro w'
    go_simp
    with_reducible rfl
  rotate_left
  · simp only [Act.put, List.setIfInBounds_toArray, List.set_cons_zero, List.set_cons_succ, i64_w, i32_w]
    rfl
  refine take_ (i := 1) (N := some 18) (v := ?_) (a' := ?_) #[true, true, false, false, false, false, false] rfl rfl (take_ofW HT_.out HW_.out (by kernel_rfl)) (fun _ _ _ h => h) (Or.inl ⟨by rfl, ?_⟩) hHeld ?_ ?_
  rotate_left
  · rintro w' ⟨s0, s1⟩
    go_simp
    with_reducible rfl
  rotate_left
  · simp only [Act.put, List.setIfInBounds_toArray, List.set_cons_zero, List.set_cons_succ, i64_w, i32_w]
    rfl
  refine pure_ (i := 2) (N := some 19) (v := ?_) (a' := ?_) #[true, true, true, false, false, false, false] rfl rfl (any_of HT_.out (by kernel_rfl)) (fun _ _ _ h => h) (Or.inl ⟨by rfl, ?_⟩) ?_ ?_
  rotate_left
  · intro w'
    go_simp
    with_reducible rfl
  rotate_left
  · simp only [Act.put, List.setIfInBounds_toArray, List.set_cons_zero, List.set_cons_succ, i64_w, i32_w]
    rfl
  refine take_ (i := 3) (N := some 20) (v := ?_) (a' := ?_) #[true, true, true, true, false, false, false] rfl rfl (take_ofW HT_.out HW_.out (by kernel_rfl)) (fun _ _ _ h => h) (Or.inl ⟨by rfl, ?_⟩) hHeld ?_ ?_
  rotate_left
  · rintro w' ⟨s0, s1⟩
    go_simp
    with_reducible rfl
  rotate_left
  · simp only [Act.put, List.setIfInBounds_toArray, List.set_cons_zero, List.set_cons_succ, i64_w, i32_w]
    rfl
  refine one_ (i := 4) (N := none) #[true, true, true, true, true, false, false] rfl rfl (one_of HT_.out (by kernel_rfl)) (by decide) (fun K hK => ?_)
  refine skip_ (w1 := W0.setCell ⟨g, 0, none⟩ (.slice none 0 0)) (by rfl) rfl (by go_simp; try rfl) ?_
  have hb1 := blk_far hb0 (p := ⟨g, 0, none⟩) (by show w.heap.size ≠ g; omega) (.slice none 0 0)
  have hq1 := blk_far hqw (p := ⟨g, 0, none⟩) (by show g + 1 ≠ g; omega) (.slice none 0 0)
  have hr1 := blk_far hrw (p := ⟨g, 0, none⟩) (by show g + 2 ≠ g; omega) (.slice none 0 0)
  have hp1 := blk_put hpw 0 (.slice none 0 0) rfl
  have hfq := blk_frozen hq1 0
  have hcq := blk_cell hq1 0
  refine hK.out _ _ ⟨blk_cell hb1 0, blk_cell hb1 1⟩ (fun hh => ?_)
  clear hK K
  refine one_ (i := 5) (N := none) #[true, true, true, true, true, true, false] rfl rfl (one_of HT_.out (by kernel_rfl)) (by decide) (fun K hK => ?_)
  refine skip_ (w1 := (W0.setCell ⟨g, 0, none⟩ (.slice none 0 0)).setCell ⟨g + 1, 0, none⟩ (.int .i64 pp)) (by rfl) rfl (by go_simp; try rfl) ?_
  have hb2 := blk_far hb1 (p := ⟨g + 1, 0, none⟩) (by show w.heap.size ≠ g + 1; omega) (.int .i64 pp)
  have hr2 := blk_far hr1 (p := ⟨g + 1, 0, none⟩) (by show g + 2 ≠ g + 1; omega) (.int .i64 pp)
  have hp2 := blk_far hp1 (p := ⟨g + 1, 0, none⟩) (by show g ≠ g + 1; omega) (.int .i64 pp)
  have hq2 := blk_put hq1 0 (.int .i64 pp) rfl
  have hfr := blk_frozen hr2 0
  have hcr := blk_cell hr2 0
  refine hK.out _ _ ⟨blk_cell hb2 0, blk_cell hb2 1⟩ (fun hh => ?_)
  clear hK K
  refine last_skip (i := 6) (w1 := (((W0.setCell ⟨g, 0, none⟩ (.slice none 0 0)).setCell ⟨g + 1, 0, none⟩ (.int .i64 pp)).setCell ⟨g + 2, 0, none⟩ (.int .i64 ee))) #[true, true, true, true, true, true, true] rfl rfl (one_of HT_.out (by kernel_rfl)) (by decide) rfl (by go_simp; try rfl) ?_
  refine done_ (done_of HT_.out (by kernel_rfl)) ?_
  -- behind the stores
  have hp3 := blk_far hp2 (p := ⟨g + 2, 0, none⟩) (by show g ≠ g + 2; omega) (.int .i64 ee)
  have hq3 := blk_far hq2 (p := ⟨g + 2, 0, none⟩) (by show g + 1 ≠ g + 2; omega) (.int .i64 ee)
  have hr3 := blk_put hr2 0 (.int .i64 ee) rfl
  have hBB := (((hB0.mono (show g ≤ w.heap.size by omega)).setCell (p := ⟨g, 0, none⟩) (Nat.le_refl _) (.slice none 0 0)).setCell (p := ⟨g + 1, 0, none⟩) (Nat.le_succ _) (.int .i64 pp)).setCell (p := ⟨g + 2, 0, none⟩) (by show g ≤ g + 2; omega) (.int .i64 ee)
  have HF := Aside0.mk (And.intro hBB (And.intro (blk_cell hp3 0) (And.intro (blk_cell hq3 0) (blk_cell hr3 0))))
  clear hp3 hq3 hr3 hBB hp2 hq2 hr2 hp1 hq1 hr1 hb1 hb2 hpw hqw hrw hb0 hB0 hfp hcp hfq hcq hfr hcr hta hp hq hr
  cases c₀
  simp +zetaDelta [bodyPostS, results, Tryd.results16]
  exact HF.out


end Go.Proofs.YtipbcdjnemdciaaDoor.Js
