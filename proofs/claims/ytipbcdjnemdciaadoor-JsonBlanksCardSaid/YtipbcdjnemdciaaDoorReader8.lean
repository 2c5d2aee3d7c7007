/- The reader's 'put' walked: a value more in the tree. -/
import Derived.Test.YtipbcdjnemdciaaDoorReader7
set_option linter.unusedVariables false
set_option linter.unusedSimpArgs false
namespace Go.Proofs.YtipbcdjnemdciaaDoor.Js
open Go.RowKit Go.Lib Go.Proofs.YtipbcdjnemdciaaDoor.PSh Go.Proofs.YtipbcdjnemdciaaDoorW.PrintWords Go.Proofs.YtipbcdjnemdciaaDoorW.PrintLast Go.Proofs.YtipbcdjnemdciaaDoorW.PrintMore

theorem infoVal : (Tryd.prog.info? 39).map (fun i => (i.zero, i.size, i.bytes)) = some (some (.agg #[(.int .i64 0), (.bool false), (.int .i64 0), (.string ⟨#[]⟩), (.slice none 0 0), (.slice none 0 0)]), 6, 88) := by kernel_rfl
/-- The reader, and the tree that it has so far; 'ok': where the tree's rows may lie. -/
def Rdr (w0 : World) (b : Nat) (s : ByteArray) (z : Int) (ok : Nat → Prop) (tv : Value) (t : List S39) (w : World) : Prop := At w0 b s z tv w ∧ Kd.R k39 39 w w0.heap.size (fun k => ok k ∧ k ≠ b) tv t
/-- Where the tree's row lies behind a call. -/
def Row (w : World) (tv tv' : Value) : Prop := tv'.ownBlock = tv.ownBlock ∨ ∃ k, tv'.ownBlock = some k ∧ w.heap.size ≤ k
section
variable {w0 w w' : World} {b : Nat} {s : ByteArray} {z : Int} {ok ok' : Nat → Prop} {tv tv' : Value} {t : List S39}
theorem Rdr.below (h : Rdr w0 b s z ok tv t w) (hb : Below w.heap.size w w') : Rdr w0 b s z ok tv t w' := ⟨h.1.below hb, Kd.R_below h.2 hb⟩
theorem Rdr.moved {z' : Int} (h : Rdr w0 b s z ok tv t w) (hA : At w0 b s z' tv w') (hk : KeepBut w w' b none) : Rdr w0 b s z' ok tv t w' := ⟨hA, Kd.R_keep h.2 hk (fun _ hk => hk.2)⟩
theorem Rdr.set1 (h : Rdr w0 b s z ok tv t w) (z' : Int) : Rdr w0 b s z' ok tv t (w.setCell ⟨b, 1, none⟩ (.int .i64 z')) := ⟨h.1.set1 _, Kd.R_far h.2 (fun _ hk => hk.2) _⟩
theorem Rdr.mono (h : Rdr w0 b s z ok tv t w) (hok : ∀ k, ok k → ok' k) : Rdr w0 b s z ok' tv t w := ⟨h.1, Kd.R_mono h.2 (fun k hk => ⟨hok k hk.1, hk.2⟩)⟩
theorem Rdr.bound (h : Rdr w0 b s z ok tv t w) : Rdr w0 b s z (fun k => ok k ∧ k < w.heap.size) tv t w := ⟨h.1, Kd.R_mono (Kd.R_bound h.2) (fun k hk => ⟨⟨hk.1.1, hk.2.2.1⟩, hk.1.2⟩)⟩
theorem Rdr.cast {z' : Int} (h : Rdr w0 b s z ok tv t w) (e : z = z') : Rdr w0 b s z' ok tv t w := e ▸ h
theorem Rdr.slice (h : Rdr w0 b s z ok tv t w) : ∃ A c, tv = .slice A t.length c := Kd.R_slice h.2
theorem Row.refl (w : World) (tv : Value) : Row w tv tv := .inl rfl
theorem Row.trans {tv'' : Value} (h : Row w tv tv') (h2 : Row w' tv' tv'') (hs : w.heap.size ≤ w'.heap.size) : Row w tv tv'' := by
  rcases h2 with h2 | ⟨k, h2, h3⟩
  · rcases h with h | ⟨k, h, h4⟩
    · exact .inl (h2.trans h)
    · exact .inr ⟨k, h2.trans h, h4⟩
  · exact .inr ⟨k, h2, Nat.le_trans hs h3⟩
/-- Frames, one behind the other. -/
theorem keep_trans {w'' : World} (h : KeepBut w w' b tv.ownBlock) (h2 : KeepBut w' w'' b tv'.ownBlock) (hr : Row w tv tv') : KeepBut w w'' b tv.ownBlock := h.trans h2 (by rcases hr with h | ⟨k, h, h1⟩; exact .inl h; exact .inr ⟨k, h, h1⟩)
theorem keep_none {row : Option Nat} (h : KeepBut w w' b none) : KeepBut w w' b row := ⟨h.1, fun i hi hb _ => h.2 i hi hb (by simp)⟩
/-- A store, one of the last. -/
theorem last_skip {P : Program} {ops : Array Oper} {Q : Exit → Act → World → Prop} {md : Region.Mode} {S : World → Prop} {ds : List Nat} {i : Nat} {oi : Oper} {fuel : Nat} {l : Array Bool} {a : Act} {w w1 : World} (l' : Array Bool) (hi : ops[i]? = some oi) (hN : oi.dst = none) (hc : readyB md ops l l' i = true) (hd : i ∈ ds) (hg : oi.guard = none)
    (hrun : (execOp a.eval oi).run P w = .ok .skip w1) (h : wpAnyLast P md ops Q S ds fuel l' a w1) : wpAnyLast P md ops Q S ds (fuel + 1) l a w :=
  last_ l' hi hN hc hd (fun K hK => skip_ (by unfold Region.wanted; rw [hg]) hN hrun (hK.out _ _ h))
end
def put.T3 : Bool × List (List Nat × List Nat) := (true, [([], []), ([], []), ([1], [1]), ([2], [2]), ([3], [3]), ([], []), ([5], [5]), ([4, 6], [4, 6]), ([0, 0, 1, 2, 3, 4, 5, 6, 7], [0]), ([8, 0, 1, 2, 3, 4, 5, 6, 7], [8]), ([9, 7, 7, 0, 1, 2, 3, 4, 5, 6, 7], [7, 9])])
def put.B3 : List Nat := [0, 0, 2, 6, 14, 0, 32, 126, 255, 511, 1023]
theorem put.tab3 : rtab .any (opsOf Tryd.f22 3) = put.T3 := by kernel_rfl
theorem put.bits3 : waitsOk put.T3.2 put.B3 = true := by kernel_rfl

/-- How 'put' ends. -/
def PutEnds (w0 : World) (b : Nat) (s : ByteArray) (z : Int) (ok : Nat → Prop) (tv : Value) (t : List S39) (x : S39) (fr : Nat) (w : World) : Ending → World → Prop := fun e w' =>
  if 8192 ≤ t.length then e = halted (fr : Int) 27 ∧ Below w0.heap.size w0 w' else e = .returned (.int .i64 (t.length : Int)) ∧ ∃ tv', Rdr w0 b s z ok tv' (t ++ [x]) w' ∧ KeepBut w w' b tv.ownBlock ∧ Row w tv tv'

set_option maxHeartbeats 16000000 in
set_option maxRecDepth 100000 in
theorem put_walk (w0 w : World) (b : Nat) (s : ByteArray) (z : Int) (ok okp : Nat → Prop) (tv : Value) (t : List S39) (x : S39) (v4 v5 : Value) (fr : Nat) (hR : Rdr w0 b s z ok tv t w) (hM : k39.M w w0.heap.size okp x [.int .i64 x.f0, .bool x.f1, .int .i64 x.f2, .string x.f3, v4, v5])
    (hokp : ∀ k, okp k → (ok k ∧ k ≠ b) ∧ some k ≠ tv.ownBlock) (hfresh : ∀ k, w.heap.size ≤ k → ok k) :
    Calls Tryd.prog 22 #[.pointer (some ⟨b, 0, none⟩), .agg #[.int .i64 x.f0, .bool x.f1, .int .i64 x.f2, .string x.f3, v4, v5], .int .i64 (fr : Int)] w (PutEnds w0 b s z ok tv t x fr w) := by
  unfold PutEnds
  have hbl := hR.1.lt
  obtain ⟨A, c, rfl⟩ := hR.slice
  obtain ⟨m4, m5, he, hr4, hr5⟩ := k39_openM hM
  simp only [List.cons.injEq, true_and, and_true] at he
  obtain ⟨rfl, rfl⟩ := he
  obtain ⟨A4, c4, e4⟩ := Kd.R_slice hr4
  obtain ⟨A5, c5, e5⟩ := Kd.R_slice hr5
  by_cases hbig : 8192 ≤ t.length
  · simp only [if_pos hbig]
    have c2 : decide ((8192 : Int) ≤ (t.length : Int)) = true := decide_eq_true (by omega)
    have c3 : decide (8192 ≤ t.length) = true := decide_eq_true hbig
    have hB := hR.below (below_alloc (Below.refl _ _) (.cells #[.int .i64 x.f0, .bool x.f1, .int .i64 x.f2, .string x.f3, v4, v5] 39))
    have hc2 := hR.1.c2
    have hc22 := hB.1.c2
    subst e4 e5
    go_enter Tryd.func22, Tryd.ntmps22
    go_wp2_with (go_at_call 19; refine (fail_walk _ _ _).mono ?_; rintro e w2 ⟨rfl, rfl⟩)
    exact ⟨rfl, rfl, hB.1.2.1⟩
  · simp only [if_neg hbig]
    have c2 : decide ((8192 : Int) ≤ (t.length : Int)) = false := decide_eq_false (by omega)
    have c3 : decide (8192 ≤ t.length) = false := decide_eq_false hbig
    have htl : t.length < 8192 := by omega
    have hB := hR.below (below_alloc (Below.refl _ _) (.cells #[.int .i64 x.f0, .bool x.f1, .int .i64 x.f2, .string x.f3, v4, v5] 39))
    have hc2 := hR.1.c2
    have hc22 := hB.1.c2
    have hpick : (⟨[.int .i64 x.f0, .bool x.f1, .int .i64 x.f2, .string x.f3, v4, v5]⟩ : Array Value) = #[.int .i64 x.f0, .bool x.f1, .int .i64 x.f2, .string x.f3, v4, v5] := rfl
    subst e4 e5
    have hbox : ∀ W, Below (w.alloc (.cells #[.int .i64 x.f0, .bool x.f1, .int .i64 x.f2, .string x.f3, .slice A4 x.f4.length c4, .slice A5 x.f5.length c5] 39)).heap.size (w.alloc (.cells #[.int .i64 x.f0, .bool x.f1, .int .i64 x.f2, .string x.f3, .slice A4 x.f4.length c4, .slice A5 x.f5.length c5] 39)) W →
        W.cell? ⟨b, 2, none⟩ = some (.slice A t.length c) ∧ W.cell? ⟨w.heap.size, 0, none⟩ = some (.int .i64 x.f0) ∧ W.cell? ⟨w.heap.size, 1, none⟩ = some (.bool x.f1) ∧ W.cell? ⟨w.heap.size, 2, none⟩ = some (.int .i64 x.f2) ∧ W.cell? ⟨w.heap.size, 3, none⟩ = some (.string x.f3) ∧ W.cell? ⟨w.heap.size, 4, none⟩ = some (.slice A4 x.f4.length c4) ∧ W.cell? ⟨w.heap.size, 5, none⟩ = some (.slice A5 x.f5.length c5) := fun W hW => by
      have h1 := blk_below (blk_new w (.cells #[.int .i64 x.f0, .bool x.f1, .int .i64 x.f2, .string x.f3, .slice A4 x.f4.length c4, .slice A5 x.f5.length c5] 39)) hW
      exact ⟨(hB.below hW).1.c2, blk_cell h1 0, blk_cell h1 1, blk_cell h1 2, blk_cell h1 3, blk_cell h1 4, blk_cell h1 5⟩
    have HBox := Aside0.mk hbox
    have hMB := Kd.M_below hM (below_alloc (Below.refl _ _) (.cells #[.int .i64 x.f0, .bool x.f1, .int .i64 x.f2, .string x.f3, .slice A4 x.f4.length c4, .slice A5 x.f5.length c5] 39))
    clear hbox hpick
    go_enter Tryd.func22, Tryd.ntmps22
    go_wp2_with fail
    refine start_ (n := 11) (S := fun w' => w'.cell? ⟨b, 2, none⟩ = some (.slice A t.length c) ∧ w'.cell? ⟨w.heap.size, 0, none⟩ = some (.int .i64 x.f0) ∧ w'.cell? ⟨w.heap.size, 1, none⟩ = some (.bool x.f1) ∧ w'.cell? ⟨w.heap.size, 2, none⟩ = some (.int .i64 x.f2) ∧ w'.cell? ⟨w.heap.size, 3, none⟩ = some (.string x.f3) ∧ w'.cell? ⟨w.heap.size, 4, none⟩ = some (.slice A4 x.f4.length c4) ∧ w'.cell? ⟨w.heap.size, 5, none⟩ = some (.slice A5 x.f5.length c5)) (ds := [10]) #[false, false, false, false, false, false, false, false, false, false, false] (by kernel_rfl) rfl rfl (HBox.out _ (below_drew (Below.refl _ _))) (fun hHeld => ?_)
    refine with_tabW put.tab3 put.bits3 (fun HT_ HW_ => ?_)
    have hBw := below_drew (below_alloc (Below.refl w.heap.size w) (.cells #[.int .i64 x.f0, .bool x.f1, .int .i64 x.f2, .string x.f3, .slice A4 x.f4.length c4, .slice A5 x.f5.length c5] 39))
    have hbx0 := blk_drew (blk_new w (.cells #[.int .i64 x.f0, .bool x.f1, .int .i64 x.f2, .string x.f3, .slice A4 x.f4.length c4, .slice A5 x.f5.length c5] 39))
    have hB0 := hB.below (below_drew (Below.refl _ _))
    have hM0 := Kd.M_below hMB (below_drew (Below.refl _ _))
    have hBd : Below (w.alloc (.cells #[.int .i64 x.f0, .bool x.f1, .int .i64 x.f2, .string x.f3, .slice A4 x.f4.length c4, .slice A5 x.f5.length c5] 39)).heap.size (w.alloc (.cells #[.int .i64 x.f0, .bool x.f1, .int .i64 x.f2, .string x.f3, .slice A4 x.f4.length c4, .slice A5 x.f5.length c5] 39)) _ := below_drew (Below.refl _ _)
    have hsz0 : w.heap.size < (w.alloc (.cells #[.int .i64 x.f0, .bool x.f1, .int .i64 x.f2, .string x.f3, .slice A4 x.f4.length c4, .slice A5 x.f5.length c5] 39)).drew.heap.size := by show w.heap.size < (w.heap.push _).size; rw [Array.size_push]; omega
    generalize (w.alloc (.cells #[.int .i64 x.f0, .bool x.f1, .int .i64 x.f2, .string x.f3, .slice A4 x.f4.length c4, .slice A5 x.f5.length c5] 39)).drew = W0 at *
    refine pure_ (i := 0) (N := some 15) (v := ?_) (a' := ?_) #[true, false, false, false, false, false, false, false, false, false, false] rfl rfl (any_of HT_.out (by kernel_rfl)) (fun _ _ _ h => h) (Or.inl ⟨by rfl, ?_⟩) ?_ ?_
    rotate_left
    · intro w'
      go_simp
      with_reducible rfl
    rotate_left
    · simp only [Act.put, List.setIfInBounds_toArray, List.set_cons_zero, List.set_cons_succ, i64_w, i32_w]
      rfl
    refine pure_ (i := 1) (N := some 16) (v := ?_) (a' := ?_) #[true, true, false, false, false, false, false, false, false, false, false] rfl rfl (any_of HT_.out (by kernel_rfl)) (fun _ _ _ h => h) (Or.inl ⟨by rfl, ?_⟩) ?_ ?_
    rotate_left
    · intro w'
      go_simp
      with_reducible rfl
    rotate_left
    · simp only [Act.put, List.setIfInBounds_toArray, List.set_cons_zero, List.set_cons_succ, i64_w, i32_w]
      rfl
    refine pure_ (i := 2) (N := some 17) (v := ?_) (a' := ?_) #[true, true, true, false, false, false, false, false, false, false, false] rfl rfl (any_of HT_.out (by kernel_rfl)) (fun _ _ _ h => h) (Or.inl ⟨by rfl, ?_⟩) ?_ ?_
    rotate_left
    · intro w'
      go_simp
      with_reducible rfl
    rotate_left
    · simp only [Act.put, List.setIfInBounds_toArray, List.set_cons_zero, List.set_cons_succ, i64_w, i32_w]
      rfl
    refine pure_ (i := 3) (N := some 18) (v := ?_) (a' := ?_) #[true, true, true, true, false, false, false, false, false, false, false] rfl rfl (any_of HT_.out (by kernel_rfl)) (fun _ _ _ h => h) (Or.inl ⟨by rfl, ?_⟩) ?_ ?_
    rotate_left
    · intro w'
      go_simp
      with_reducible rfl
    rotate_left
    · simp only [Act.put, List.setIfInBounds_toArray, List.set_cons_zero, List.set_cons_succ, i64_w, i32_w]
      rfl
    refine take_ (i := 4) (N := some 19) (v := ?_) (a' := ?_) #[true, true, true, true, true, false, false, false, false, false, false] rfl rfl (take_ofW HT_.out HW_.out (by kernel_rfl)) (fun _ _ _ h => h) (Or.inl ⟨by rfl, ?_⟩) hHeld ?_ ?_
    rotate_left
    · rintro w' ⟨s0, s1, s2, s3, s4, s5, s6⟩
      go_simp
      with_reducible rfl
    rotate_left
    · simp only [Act.put, List.setIfInBounds_toArray, List.set_cons_zero, List.set_cons_succ, i64_w, i32_w]
      rfl
    refine take_ (i := 5) (N := some 20) (v := ?_) (a' := ?_) #[true, true, true, true, true, true, false, false, false, false, false] rfl rfl (take_ofW HT_.out HW_.out (by kernel_rfl)) (fun _ _ _ h => h) (Or.inl ⟨by rfl, ?_⟩) hHeld ?_ ?_
    rotate_left
    · rintro w' ⟨s0, s1, s2, s3, s4, s5, s6⟩
      go_simp
      with_reducible rfl
    rotate_left
    · simp only [Act.put, List.setIfInBounds_toArray, List.set_cons_zero, List.set_cons_succ, i64_w, i32_w]
      rfl
    refine one_ (i := 6) (N := some 21) #[true, true, true, true, true, true, true, false, false, false, false] rfl rfl (one_of HT_.out (by kernel_rfl)) (by decide) (fun K hK => ?_)
    refine value_ (v := .slice (some ⟨W0.heap.size, 0, none⟩) 1 1) (w1 := W0.alloc (.cells #[.int .i64 x.f0, .bool x.f1, .int .i64 x.f2, .string x.f3, .slice A4 x.f4.length c4, .slice A5 x.f5.length c5] 39)) (by rfl) rfl (by first | (go_simp; done) | (go_simp; rfl)) ?_
    refine hK.out _ _ (HBox.out _ (below_alloc hBd _)) (fun hh => ?_)
    clear hK K
    refine one_ (i := 7) (N := some 22) #[true, true, true, true, true, true, true, true, false, false, false] rfl rfl (one_of HT_.out (by kernel_rfl)) (by decide) (fun K hK => ?_)
    refine Kd.R_append_step k39 (w0 := w0) (W := W0) w0.heap.size (by rfl) (.tmp 19) (.tmp 21) 26 39 _ 88 rfl Tryd.underlying26 infoVal rfl (by decide) (by decide) (.slice A t.length c) t x [.int .i64 x.f0, .bool x.f1, .int .i64 x.f2, .string x.f3, .slice A4 x.f4.length c4, .slice A5 x.f5.length c5] (fun k => ok k ∧ k ≠ b) okp rfl rfl hM0 hokp (fun k hk => ⟨hfresh k (by omega), by omega⟩) hB0.2 hB0.1.2.1 hB0.1.2.1.size (by omega) ?_
    intro v1 w1 hR1 hBl1 hg1 hat1
    obtain ⟨A', c', rfl⟩ := Kd.R_slice hR1
    have hA1 := hB0.1.grown hg1 (fun g hg => ⟨(hB0.2.1 g hg).2, Kd.R_base hB0.2 g hg⟩)
    have hbx1 := blk_grown hbx0 hg1 (fun e => by have := Kd.R_lt hR.2 _ e.symm; omega)
    refine hK.out _ _ ⟨hA1.c2, blk_cell hbx1 0, blk_cell hbx1 1, blk_cell hbx1 2, blk_cell hbx1 3, blk_cell hbx1 4, blk_cell hbx1 5⟩ (fun hh => ?_)
    clear hK K
    have hf2 := hA1.fr 2
    have hd2 := hA1.c2
    refine pure_ (i := 8) (N := some 23) (v := ?_) (a' := ?_) #[true, true, true, true, true, true, true, true, true, false, false] rfl rfl (any_of HT_.out (by kernel_rfl)) (fun _ _ _ h => h) (Or.inl ⟨by rfl, ?_⟩) ?_ ?_
    rotate_left
    · intro w'
      go_simp
      with_reducible rfl
    rotate_left
    · simp only [Act.put, List.setIfInBounds_toArray, List.set_cons_zero, List.set_cons_succ, i64_w, i32_w]
      rfl
    refine pure_ (i := 9) (N := some 24) (v := ?_) (a' := ?_) #[true, true, true, true, true, true, true, true, true, true, false] rfl rfl (any_of HT_.out (by kernel_rfl)) (fun _ _ _ h => h) (Or.inl ⟨by rfl, ?_⟩) ?_ ?_
    rotate_left
    · intro w'
      go_simp
      with_reducible rfl
    rotate_left
    · simp only [Act.put, List.setIfInBounds_toArray, List.set_cons_zero, List.set_cons_succ, i64_w, i32_w]
      rfl
    refine last_skip (i := 10) (w1 := w1.setCell ⟨b, 2, none⟩ (.slice A' (t ++ [x]).length c')) #[true, true, true, true, true, true, true, true, true, true, true] rfl rfl (one_of HT_.out (by kernel_rfl)) (by decide) rfl (by go_simp; try rfl) ?_
    refine done_ (done_of HT_.out (by kernel_rfl)) ?_
    have hA2 := hA1.set2 (.slice A' (t ++ [x]).length c')
    have hRR := Kd.R_far hR1 (p := ⟨b, 2, none⟩) (fun _ hk => hk.2) (.slice A' (t ++ [x]).length c')
    have hc3 := hA2.c2
    have hll : (t ++ [x]).length = t.length + 1 := by rw [List.length_append]; rfl
    have hrow : Row w (.slice A t.length c) (.slice A' (t ++ [x]).length c') := by
      rcases hat1 with h | ⟨k, h, h1⟩
      · exact .inl h
      · exact .inr ⟨k, h, by omega⟩
    have hkp : KeepBut w (w1.setCell ⟨b, 2, none⟩ (.slice A' (t ++ [x]).length c')) b (Value.slice A t.length c).ownBlock := by
      have k1 : KeepBut w W0 b (Value.slice A t.length c).ownBlock := KeepBut.of_below (hBw) b _
      have k2 : KeepBut W0 w1 b (Value.slice A t.length c).ownBlock := KeepBut.of_grown hg1 b
      exact (k1.trans k2 (.inl rfl)).set_ 2 _
    rw [hll] at hc3 hrow hkp hRR hA2
    have hRow := Aside0.mk hrow
    have hKp := Aside0.mk hkp
    have hRR2 := Aside0.mk hRR
    have hAA := Aside0.mk hA2
    clear hrow hkp hRR hat1 hg1
    rw [hll]
    go_wp2
    go_ret
    refine ⟨?_, _, ⟨hAA.out, hRR2.out⟩, hKp.out, hRow.out⟩
    first | rfl | (simp; omega)

end Go.Proofs.YtipbcdjnemdciaaDoor.Js
