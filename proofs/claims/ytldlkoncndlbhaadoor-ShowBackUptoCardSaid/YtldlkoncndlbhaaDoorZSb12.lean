/- YtldlkoncndlbhaaDoorZSb12: texts of the seat (Reader8, Reader9, Adv, Pl), one behind the other, without what this claim's theorem does not rest on. -/
import Derived.Test.YtldlkoncndlbhaaDoorZSb11
import Derived.Laws.RangeString

set_option linter.unusedVariables false
set_option linter.unusedSimpArgs false
namespace Go.Proofs.YtldlkoncndlbhaaDoor.Js
open Go.RowKit Go.Lib Go.Proofs.YtldlkoncndlbhaaDoor.PSh Go.Proofs.YtldlkoncndlbhaaDoorW.PrintWords Go.Proofs.YtldlkoncndlbhaaDoorW.PrintLast Go.Proofs.YtldlkoncndlbhaaDoorW.PrintMore
theorem infoVal : (Tryd.prog.info? 39).map (fun i => (i.zero, i.size, i.bytes)) = some (some (.agg #[(.int .i64 0), (.bool false), (.int .i64 0), (.string ⟨#[]⟩), (.slice none 0 0), (.slice none 0 0)]), 6, 88) := by kernel_rfl
/-- The reader, and the tree that it has so far; 'ok': where the tree's rows may lie. -/
def Rdr (w0 : World) (b : Nat) (s : ByteArray) (z : Int) (ok : Nat → Prop) (tv : Value) (t : List S39) (w : World) : Prop := At w0 b s z tv w ∧ Kd.R k39 39 w w0.heap.size (fun k => ok k ∧ k ≠ b) tv t
/-- Where the tree's row lies behind a call. -/
def Row (w : World) (tv tv' : Value) : Prop := tv'.ownBlock = tv.ownBlock ∨ ∃ k, tv'.ownBlock = some k ∧ w.heap.size ≤ k
section
variable {w0 w w' : World} {b : Nat} {s : ByteArray} {z : Int} {ok ok' : Nat → Prop} {tv tv' : Value} {t : List S39}
theorem Rdr.below (h : Rdr w0 b s z ok tv t w) (hb : Below w.heap.size w w') : Rdr w0 b s z ok tv t w' := ⟨h.1.below hb, Kd.R_below h.2 hb⟩
theorem Rdr.moved {z' : Int} (h : Rdr w0 b s z ok tv t w) (hA : At w0 b s z' tv w') (hk : KeepBut w w' b none) : Rdr w0 b s z' ok tv t w' := ⟨hA, Kd.R_keep h.2 hk (fun _ hk => hk.2)⟩
theorem Rdr.set1 (h : Rdr w0 b s z ok tv t w) (z' : Int) : Rdr w0 b s z' ok tv t (w.setCell ⟨b, 1, none⟩ (.int .i64 z')) := ⟨h.1.set1 _, Kd.R_far h.2 (fun _ hk => hk.2) _⟩
theorem Rdr.mono (h : Rdr w0 b s z ok tv t w) (hok : ∀ k, ok k → ok' k) : Rdr w0 b s z ok' tv t w := ⟨h.1, Kd.R_mono h.2 (fun k hk => ⟨hok k hk.1, hk.2⟩)⟩
theorem Rdr.cast {z' : Int} (h : Rdr w0 b s z ok tv t w) (e : z = z') : Rdr w0 b s z' ok tv t w := e ▸ h
theorem Rdr.slice (h : Rdr w0 b s z ok tv t w) : ∃ A c, tv = .slice A t.length c := Kd.R_slice h.2
theorem Row.refl (w : World) (tv : Value) : Row w tv tv := .inl rfl
theorem Row.trans {tv'' : Value} (h : Row w tv tv') (h2 : Row w' tv' tv'') (hs : w.heap.size ≤ w'.heap.size) : Row w tv tv'' := by
  rcases h2 with h2 | ⟨k, h2, h3⟩
  · rcases h with h | ⟨k, h, h4⟩
    · exact .inl (h2.trans h)
    · exact .inr ⟨k, h2.trans h, h4⟩
  · exact .inr ⟨k, h2, Nat.le_trans hs h3⟩
/-- Frames, one behind the other. -/
theorem keep_trans {w'' : World} (h : KeepBut w w' b tv.ownBlock) (h2 : KeepBut w' w'' b tv'.ownBlock) (hr : Row w tv tv') : KeepBut w w'' b tv.ownBlock := h.trans h2 (by rcases hr with h | ⟨k, h, h1⟩; exact .inl h; exact .inr ⟨k, h, h1⟩)
theorem keep_none {row : Option Nat} (h : KeepBut w w' b none) : KeepBut w w' b row := ⟨h.1, fun i hi hb _ => h.2 i hi hb (by simp)⟩
/-- A store, one of the last. -/
theorem last_skip {P : Program} {ops : Array Oper} {Q : Exit → Act → World → Prop} {md : Region.Mode} {S : World → Prop} {ds : List Nat} {i : Nat} {oi : Oper} {fuel : Nat} {l : Array Bool} {a : Act} {w w1 : World} (l' : Array Bool) (hi : ops[i]? = some oi) (hN : oi.dst = none) (hc : readyB md ops l l' i = true) (hd : i ∈ ds) (hg : oi.guard = none)
    (hrun : (execOp a.eval oi).run P w = .ok .skip w1) (h : wpAnyLast P md ops Q S ds fuel l' a w1) : wpAnyLast P md ops Q S ds (fuel + 1) l a w :=
  last_ l' hi hN hc hd (fun K hK => skip_ (by unfold Region.wanted; rw [hg]) hN hrun (hK.out _ _ h))
end
def put.T3 : Bool × List (List Nat × List Nat) := (true, [([], []), ([], []), ([1], [1]), ([2], [2]), ([3], [3]), ([], []), ([5], [5]), ([4, 6], [4, 6]), ([0, 0, 1, 2, 3, 4, 5, 6, 7], [0]), ([8, 0, 1, 2, 3, 4, 5, 6, 7], [8]), ([9, 7, 7, 0, 1, 2, 3, 4, 5, 6, 7], [7, 9])])
def put.B3 : List Nat := [0, 0, 2, 6, 14, 0, 32, 126, 255, 511, 1023]
theorem put.tab3 : rtab .any (opsOf Tryd.f47 3) = put.T3 := by kernel_rfl
theorem put.bits3 : waitsOk put.T3.2 put.B3 = true := by kernel_rfl
/-- How 'put' ends. -/
def PutEnds (w0 : World) (b : Nat) (s : ByteArray) (z : Int) (ok : Nat → Prop) (tv : Value) (t : List S39) (x : S39) (fr : Nat) (w : World) : Ending → World → Prop := fun e w' =>
  if 8192 ≤ t.length then e = halted (fr : Int) 27 ∧ Below w0.heap.size w0 w' else e = .returned (.int .i64 (t.length : Int)) ∧ ∃ tv', Rdr w0 b s z ok tv' (t ++ [x]) w' ∧ KeepBut w w' b tv.ownBlock ∧ Row w tv tv'
set_option maxHeartbeats 16000000 in
set_option maxRecDepth 100000 in
theorem put_walk (w0 w : World) (b : Nat) (s : ByteArray) (z : Int) (ok okp : Nat → Prop) (tv : Value) (t : List S39) (x : S39) (v4 v5 : Value) (fr : Nat) (hR : Rdr w0 b s z ok tv t w) (hM : k39.M w w0.heap.size okp x [.int .i64 x.f0, .bool x.f1, .int .i64 x.f2, .string x.f3, v4, v5])
    (hokp : ∀ k, okp k → (ok k ∧ k ≠ b) ∧ some k ≠ tv.ownBlock) (hfresh : ∀ k, w.heap.size ≤ k → ok k) :
    Calls Tryd.prog 47 #[.pointer (some ⟨b, 0, none⟩), .agg #[.int .i64 x.f0, .bool x.f1, .int .i64 x.f2, .string x.f3, v4, v5], .int .i64 (fr : Int)] w (PutEnds w0 b s z ok tv t x fr w) := by
  unfold PutEnds
  have hbl := hR.1.lt
  obtain ⟨A, c, rfl⟩ := hR.slice
  obtain ⟨m4, m5, he, hr4, hr5⟩ := k39_openM hM
  simp only [List.cons.injEq, true_and, and_true] at he
  obtain ⟨rfl, rfl⟩ := he
  obtain ⟨A4, c4, e4⟩ := Kd.R_slice hr4
  obtain ⟨A5, c5, e5⟩ := Kd.R_slice hr5
  by_cases hbig : 8192 ≤ t.length
  · simp only [if_pos hbig]
    have c2 : decide ((8192 : Int) ≤ (t.length : Int)) = true := decide_eq_true (by omega)
    have c3 : decide (8192 ≤ t.length) = true := decide_eq_true hbig
    have hB := hR.below (below_alloc (Below.refl _ _) (.cells #[.int .i64 x.f0, .bool x.f1, .int .i64 x.f2, .string x.f3, v4, v5] 39))
    have hc2 := hR.1.c2
    have hc22 := hB.1.c2
    subst e4 e5
    go_enter Tryd.func47, Tryd.ntmps47
    go_wp2_with (go_at_call 35; refine (fail_walk _ _ _).mono ?_; rintro e w2 ⟨rfl, rfl⟩)
    exact ⟨rfl, rfl, hB.1.2.1⟩
  · simp only [if_neg hbig]
    have c2 : decide ((8192 : Int) ≤ (t.length : Int)) = false := decide_eq_false (by omega)
    have c3 : decide (8192 ≤ t.length) = false := decide_eq_false hbig
    have htl : t.length < 8192 := by omega
    have hB := hR.below (below_alloc (Below.refl _ _) (.cells #[.int .i64 x.f0, .bool x.f1, .int .i64 x.f2, .string x.f3, v4, v5] 39))
    have hc2 := hR.1.c2
    have hc22 := hB.1.c2
    have hpick : (⟨[.int .i64 x.f0, .bool x.f1, .int .i64 x.f2, .string x.f3, v4, v5]⟩ : Array Value) = #[.int .i64 x.f0, .bool x.f1, .int .i64 x.f2, .string x.f3, v4, v5] := rfl
    subst e4 e5
    have hbox : ∀ W, Below (w.alloc (.cells #[.int .i64 x.f0, .bool x.f1, .int .i64 x.f2, .string x.f3, .slice A4 x.f4.length c4, .slice A5 x.f5.length c5] 39)).heap.size (w.alloc (.cells #[.int .i64 x.f0, .bool x.f1, .int .i64 x.f2, .string x.f3, .slice A4 x.f4.length c4, .slice A5 x.f5.length c5] 39)) W →
        W.cell? ⟨b, 2, none⟩ = some (.slice A t.length c) ∧ W.cell? ⟨w.heap.size, 0, none⟩ = some (.int .i64 x.f0) ∧ W.cell? ⟨w.heap.size, 1, none⟩ = some (.bool x.f1) ∧ W.cell? ⟨w.heap.size, 2, none⟩ = some (.int .i64 x.f2) ∧ W.cell? ⟨w.heap.size, 3, none⟩ = some (.string x.f3) ∧ W.cell? ⟨w.heap.size, 4, none⟩ = some (.slice A4 x.f4.length c4) ∧ W.cell? ⟨w.heap.size, 5, none⟩ = some (.slice A5 x.f5.length c5) := fun W hW => by
      have h1 := blk_below (blk_new w (.cells #[.int .i64 x.f0, .bool x.f1, .int .i64 x.f2, .string x.f3, .slice A4 x.f4.length c4, .slice A5 x.f5.length c5] 39)) hW
      exact ⟨(hB.below hW).1.c2, blk_cell h1 0, blk_cell h1 1, blk_cell h1 2, blk_cell h1 3, blk_cell h1 4, blk_cell h1 5⟩
    have HBox := Aside0.mk hbox
    have hMB := Kd.M_below hM (below_alloc (Below.refl _ _) (.cells #[.int .i64 x.f0, .bool x.f1, .int .i64 x.f2, .string x.f3, .slice A4 x.f4.length c4, .slice A5 x.f5.length c5] 39))
    clear hbox hpick
    go_enter Tryd.func47, Tryd.ntmps47
    go_wp2_with fail
    refine start_ (n := 11) (S := fun w' => w'.cell? ⟨b, 2, none⟩ = some (.slice A t.length c) ∧ w'.cell? ⟨w.heap.size, 0, none⟩ = some (.int .i64 x.f0) ∧ w'.cell? ⟨w.heap.size, 1, none⟩ = some (.bool x.f1) ∧ w'.cell? ⟨w.heap.size, 2, none⟩ = some (.int .i64 x.f2) ∧ w'.cell? ⟨w.heap.size, 3, none⟩ = some (.string x.f3) ∧ w'.cell? ⟨w.heap.size, 4, none⟩ = some (.slice A4 x.f4.length c4) ∧ w'.cell? ⟨w.heap.size, 5, none⟩ = some (.slice A5 x.f5.length c5)) (ds := [10]) #[false, false, false, false, false, false, false, false, false, false, false] (by kernel_rfl) rfl rfl (HBox.out _ (below_drew (Below.refl _ _))) (fun hHeld => ?_)
    refine with_tabW put.tab3 put.bits3 (fun HT_ HW_ => ?_)
    have hBw := below_drew (below_alloc (Below.refl w.heap.size w) (.cells #[.int .i64 x.f0, .bool x.f1, .int .i64 x.f2, .string x.f3, .slice A4 x.f4.length c4, .slice A5 x.f5.length c5] 39))
    have hbx0 := blk_drew (blk_new w (.cells #[.int .i64 x.f0, .bool x.f1, .int .i64 x.f2, .string x.f3, .slice A4 x.f4.length c4, .slice A5 x.f5.length c5] 39))
    have hB0 := hB.below (below_drew (Below.refl _ _))
    have hM0 := Kd.M_below hMB (below_drew (Below.refl _ _))
    have hBd : Below (w.alloc (.cells #[.int .i64 x.f0, .bool x.f1, .int .i64 x.f2, .string x.f3, .slice A4 x.f4.length c4, .slice A5 x.f5.length c5] 39)).heap.size (w.alloc (.cells #[.int .i64 x.f0, .bool x.f1, .int .i64 x.f2, .string x.f3, .slice A4 x.f4.length c4, .slice A5 x.f5.length c5] 39)) _ := below_drew (Below.refl _ _)
    have hsz0 : w.heap.size < (w.alloc (.cells #[.int .i64 x.f0, .bool x.f1, .int .i64 x.f2, .string x.f3, .slice A4 x.f4.length c4, .slice A5 x.f5.length c5] 39)).drew.heap.size := by show w.heap.size < (w.heap.push _).size; rw [Array.size_push]; omega
    generalize (w.alloc (.cells #[.int .i64 x.f0, .bool x.f1, .int .i64 x.f2, .string x.f3, .slice A4 x.f4.length c4, .slice A5 x.f5.length c5] 39)).drew = W0 at *
    refine pure_ (i := 0) (N := some 15) (v := ?_) (a' := ?_) #[true, false, false, false, false, false, false, false, false, false, false] rfl rfl (any_of HT_.out (by kernel_rfl)) (fun _ _ _ h => h) (Or.inl ⟨by rfl, ?_⟩) ?_ ?_
    rotate_left
    · intro w'
      go_simp
      with_reducible rfl
    rotate_left
    · simp only [Act.put, List.setIfInBounds_toArray, List.set_cons_zero, List.set_cons_succ, i64_w, i32_w]
      rfl
    refine pure_ (i := 1) (N := some 16) (v := ?_) (a' := ?_) #[true, true, false, false, false, false, false, false, false, false, false] rfl rfl (any_of HT_.out (by kernel_rfl)) (fun _ _ _ h => h) (Or.inl ⟨by rfl, ?_⟩) ?_ ?_
    rotate_left
    · intro w'
      go_simp
      with_reducible rfl
    rotate_left
    · simp only [Act.put, List.setIfInBounds_toArray, List.set_cons_zero, List.set_cons_succ, i64_w, i32_w]
      rfl
    refine pure_ (i := 2) (N := some 17) (v := ?_) (a' := ?_) #[true, true, true, false, false, false, false, false, false, false, false] rfl rfl (any_of HT_.out (by kernel_rfl)) (fun _ _ _ h => h) (Or.inl ⟨by rfl, ?_⟩) ?_ ?_
    rotate_left
    · intro w'
      go_simp
      with_reducible rfl
    rotate_left
    · simp only [Act.put, List.setIfInBounds_toArray, List.set_cons_zero, List.set_cons_succ, i64_w, i32_w]
      rfl
    refine pure_ (i := 3) (N := some 18) (v := ?_) (a' := ?_) #[true, true, true, true, false, false, false, false, false, false, false] rfl rfl (any_of HT_.out (by kernel_rfl)) (fun _ _ _ h => h) (Or.inl ⟨by rfl, ?_⟩) ?_ ?_
    rotate_left
    · intro w'
      go_simp
      with_reducible rfl
    rotate_left
    · simp only [Act.put, List.setIfInBounds_toArray, List.set_cons_zero, List.set_cons_succ, i64_w, i32_w]
      rfl
    refine take_ (i := 4) (N := some 19) (v := ?_) (a' := ?_) #[true, true, true, true, true, false, false, false, false, false, false] rfl rfl (take_ofW HT_.out HW_.out (by kernel_rfl)) (fun _ _ _ h => h) (Or.inl ⟨by rfl, ?_⟩) hHeld ?_ ?_
    rotate_left
    · rintro w' ⟨s0, s1, s2, s3, s4, s5, s6⟩
      go_simp
      with_reducible rfl
    rotate_left
    · simp only [Act.put, List.setIfInBounds_toArray, List.set_cons_zero, List.set_cons_succ, i64_w, i32_w]
      rfl
    refine take_ (i := 5) (N := some 20) (v := ?_) (a' := ?_) #[true, true, true, true, true, true, false, false, false, false, false] rfl rfl (take_ofW HT_.out HW_.out (by kernel_rfl)) (fun _ _ _ h => h) (Or.inl ⟨by rfl, ?_⟩) hHeld ?_ ?_
    rotate_left
    · rintro w' ⟨s0, s1, s2, s3, s4, s5, s6⟩
      go_simp
      with_reducible rfl
    rotate_left
    · simp only [Act.put, List.setIfInBounds_toArray, List.set_cons_zero, List.set_cons_succ, i64_w, i32_w]
      rfl
    refine one_ (i := 6) (N := some 21) #[true, true, true, true, true, true, true, false, false, false, false] rfl rfl (one_of HT_.out (by kernel_rfl)) (by decide) (fun K hK => ?_)
    refine value_ (v := .slice (some ⟨W0.heap.size, 0, none⟩) 1 1) (w1 := W0.alloc (.cells #[.int .i64 x.f0, .bool x.f1, .int .i64 x.f2, .string x.f3, .slice A4 x.f4.length c4, .slice A5 x.f5.length c5] 39)) (by rfl) rfl (by first | (go_simp; done) | (go_simp; rfl)) ?_
    refine hK.out _ _ (HBox.out _ (below_alloc hBd _)) (fun hh => ?_)
    clear hK K
    refine one_ (i := 7) (N := some 22) #[true, true, true, true, true, true, true, true, false, false, false] rfl rfl (one_of HT_.out (by kernel_rfl)) (by decide) (fun K hK => ?_)
    refine Kd.R_append_step k39 (w0 := w0) (W := W0) w0.heap.size (by rfl) (.tmp 19) (.tmp 21) 23 39 _ 88 rfl Tryd.underlying23 infoVal rfl (by decide) (by decide) (.slice A t.length c) t x [.int .i64 x.f0, .bool x.f1, .int .i64 x.f2, .string x.f3, .slice A4 x.f4.length c4, .slice A5 x.f5.length c5] (fun k => ok k ∧ k ≠ b) okp rfl rfl hM0 hokp (fun k hk => ⟨hfresh k (by omega), by omega⟩) hB0.2 hB0.1.2.1 hB0.1.2.1.size (by omega) ?_
    intro v1 w1 hR1 hBl1 hg1 hat1
    obtain ⟨A', c', rfl⟩ := Kd.R_slice hR1
    have hA1 := hB0.1.grown hg1 (fun g hg => ⟨(hB0.2.1 g hg).2, Kd.R_base hB0.2 g hg⟩)
    have hbx1 := blk_grown hbx0 hg1 (fun e => by have := Kd.R_lt hR.2 _ e.symm; omega)
    refine hK.out _ _ ⟨hA1.c2, blk_cell hbx1 0, blk_cell hbx1 1, blk_cell hbx1 2, blk_cell hbx1 3, blk_cell hbx1 4, blk_cell hbx1 5⟩ (fun hh => ?_)
    clear hK K
    have hf2 := hA1.fr 2
    have hd2 := hA1.c2
    refine pure_ (i := 8) (N := some 23) (v := ?_) (a' := ?_) #[true, true, true, true, true, true, true, true, true, false, false] rfl rfl (any_of HT_.out (by kernel_rfl)) (fun _ _ _ h => h) (Or.inl ⟨by rfl, ?_⟩) ?_ ?_
    rotate_left
    · intro w'
      go_simp
      with_reducible rfl
    rotate_left
    · simp only [Act.put, List.setIfInBounds_toArray, List.set_cons_zero, List.set_cons_succ, i64_w, i32_w]
      rfl
    refine pure_ (i := 9) (N := some 24) (v := ?_) (a' := ?_) #[true, true, true, true, true, true, true, true, true, true, false] rfl rfl (any_of HT_.out (by kernel_rfl)) (fun _ _ _ h => h) (Or.inl ⟨by rfl, ?_⟩) ?_ ?_
    rotate_left
    · intro w'
      go_simp
      with_reducible rfl
    rotate_left
    · simp only [Act.put, List.setIfInBounds_toArray, List.set_cons_zero, List.set_cons_succ, i64_w, i32_w]
      rfl
    refine last_skip (i := 10) (w1 := w1.setCell ⟨b, 2, none⟩ (.slice A' (t ++ [x]).length c')) #[true, true, true, true, true, true, true, true, true, true, true] rfl rfl (one_of HT_.out (by kernel_rfl)) (by decide) rfl (by go_simp; try rfl) ?_
    refine done_ (done_of HT_.out (by kernel_rfl)) ?_
    have hA2 := hA1.set2 (.slice A' (t ++ [x]).length c')
    have hRR := Kd.R_far hR1 (p := ⟨b, 2, none⟩) (fun _ hk => hk.2) (.slice A' (t ++ [x]).length c')
    have hc3 := hA2.c2
    have hll : (t ++ [x]).length = t.length + 1 := by rw [List.length_append]; rfl
    have hrow : Row w (.slice A t.length c) (.slice A' (t ++ [x]).length c') := by
      rcases hat1 with h | ⟨k, h, h1⟩
      · exact .inl h
      · exact .inr ⟨k, h, by omega⟩
    have hkp : KeepBut w (w1.setCell ⟨b, 2, none⟩ (.slice A' (t ++ [x]).length c')) b (Value.slice A t.length c).ownBlock := by
      have k1 : KeepBut w W0 b (Value.slice A t.length c).ownBlock := KeepBut.of_below (hBw) b _
      have k2 : KeepBut W0 w1 b (Value.slice A t.length c).ownBlock := KeepBut.of_grown hg1 b
      exact (k1.trans k2 (.inl rfl)).set_ 2 _
    rw [hll] at hc3 hrow hkp hRR hA2
    have hRow := Aside0.mk hrow
    have hKp := Aside0.mk hkp
    have hRR2 := Aside0.mk hRR
    have hAA := Aside0.mk hA2
    clear hrow hkp hRR hat1 hg1
    rw [hll]
    go_wp2
    go_ret
    refine ⟨?_, _, ⟨hAA.out, hRR2.out⟩, hKp.out, hRow.out⟩
    first | rfl | (simp; omega)
end Go.Proofs.YtldlkoncndlbhaaDoor.Js
set_option linter.unusedVariables false
set_option linter.unusedSimpArgs false
namespace Go.Proofs.YtldlkoncndlbhaaDoor.Js
open Go.RowKit Go.Lib Go.Proofs.YtldlkoncndlbhaaDoor.PSh Go.Proofs.YtldlkoncndlbhaaDoor.Np Go.Proofs.YtldlkoncndlbhaaDoorW.PrintWords Go.Proofs.YtldlkoncndlbhaaDoorW.PrintLast Go.Proofs.YtldlkoncndlbhaaDoorW.PrintMore
theorem here_adv (l : List UInt8) (p : Nat) (l' : List UInt8) (q : Nat) (c : UInt8) (h : here l p = .ok l' q c) : p ≤ q := by
  unfold here at h
  split at h
  · cases h
  · cases h
    exact Nat.le_add_right _ _
/-- How a call that may grow the tree ends. -/
def TreeEnds (w0 : World) (b : Nat) (s : ByteArray) (ok : Nat → Prop) (tv : Value) (w : World) (r : R (List S39 × Int)) : Ending → World → Prop := fun e w' => match r with
  | .ok l' p' v => e = .returned (.int .i64 v.2) ∧ l' = s.data.toList.drop p' ∧ p' ≤ s.size ∧ ∃ tv', Rdr w0 b s (p' : Int) ok tv' v.1 w' ∧ KeepBut w w' b tv.ownBlock ∧ Row w tv tv'
  | .no pp ee => e = halted (pp : Int) ee ∧ Below w0.heap.size w0 w'
/-- 'list' behind its bracket, and 'object' behind its brace. -/
def listF (f deep fr : Nat) (l : List UInt8) (p : Nat) (t : List S39) : R (List S39 × Int) := (here l p).bind fun l1 p1 c1 => if c1 = 93 then put t fr ⟨5, false, 0, ⟨#[]⟩, [], []⟩ l1.tail (p1 + 1) else list f deep fr [] l1 p1 t
def objectF (f deep fr : Nat) (l : List UInt8) (p : Nat) (t : List S39) : R (List S39 × Int) := (here l p).bind fun l1 p1 c1 => if c1 = 125 then put t fr ⟨6, false, 0, ⟨#[]⟩, [], []⟩ l1.tail (p1 + 1) else object f deep fr [] [] l1 p1 t
/-- What is handed on to each call: the reader, where new rows may lie, sizes. -/
structure Given (w0 : World) (b : Nat) (s : ByteArray) (p : Nat) (ok : Nat → Prop) (tv : Value) (t : List S39) (w : World) : Prop where
  rdr : Rdr w0 b s (p : Int) ok tv t w
  fresh : ∀ k, w.heap.size ≤ k → ok k
  place : p ≤ s.size
def VT (w0 : World) (b : Nat) (s : ByteArray) (f : Nat) : Prop := ∀ (deep p : Nat) (ok : Nat → Prop) (tv : Value) (t : List S39) (w : World), Given w0 b s p ok tv t w → deep ≤ 16 → 2 * (s.size - p) < f →
  Calls Tryd.prog 33 #[.pointer (some ⟨b, 0, none⟩), .int .i64 (deep : Int)] w (TreeEnds w0 b s ok tv w (value f deep (s.data.toList.drop p) p t))
def LT (w0 : World) (b : Nat) (s : ByteArray) (f : Nat) : Prop := ∀ (deep fr p : Nat) (ok : Nat → Prop) (tv : Value) (t : List S39) (w : World), Given w0 b s p ok tv t w → deep ≤ 15 → 2 * (s.size - p) + 1 < f →
  Calls Tryd.prog 50 #[.pointer (some ⟨b, 0, none⟩), .int .i64 (deep : Int), .int .i64 (fr : Int)] w (TreeEnds w0 b s ok tv w (listF f deep fr (s.data.toList.drop p) p t))
def OT (w0 : World) (b : Nat) (s : ByteArray) (f : Nat) : Prop := ∀ (deep fr p : Nat) (ok : Nat → Prop) (tv : Value) (t : List S39) (w : World), Given w0 b s p ok tv t w → deep ≤ 15 → 2 * (s.size - p) + 1 < f →
  Calls Tryd.prog 51 #[.pointer (some ⟨b, 0, none⟩), .int .i64 (deep : Int), .int .i64 (fr : Int)] w (TreeEnds w0 b s ok tv w (objectF f deep fr (s.data.toList.drop p) p t))
section
variable {w0 w w' : World} {b : Nat} {s : ByteArray} {p : Nat} {ok : Nat → Prop} {tv : Value} {t : List S39}
/-- The reader alone has moved. -/
theorem Given.moved {p' : Nat} (h : Given w0 b s p ok tv t w) (hA : At w0 b s (p' : Int) tv w') (hk : KeepBut w w' b none) (hp : p' ≤ s.size) : Given w0 b s p' ok tv t w' := ⟨h.rdr.moved hA hk, fun k hk' => h.fresh k (Nat.le_trans hk.1 hk'), hp⟩
/-- A value without rows. -/
theorem bare_M (w : World) (base : Nat) (f0 : Int) (f1 : Bool) (f2 : Int) (f3 : ByteArray) : k39.M w base (fun _ => False) ⟨f0, f1, f2, f3, [], []⟩ [.int .i64 f0, .bool f1, .int .i64 f2, .string f3, .slice none 0 0, .slice none 0 0] :=
  k39_mkM w base (fun _ => False) ⟨f0, f1, f2, f3, [], []⟩ (Kd.R_nil _ _ _ _ _) (Kd.R_nil _ _ _ _ _)
end
section
variable {w0 w w2 w3 : World} {b : Nat} {s : ByteArray} {p : Nat} {ok : Nat → Prop} {tv : Value} {t t' : List S39}
theorem put_no (h : Given w0 b s p ok tv t w) (hbig : 8192 ≤ t.length) (f0 : Int) (f1 : Bool) (f2 : Int) (f3 : ByteArray) (fr : Nat) :
    Calls Tryd.prog 47 #[.pointer (some ⟨b, 0, none⟩), .agg #[.int .i64 f0, .bool f1, .int .i64 f2, .string f3, .slice none 0 0, .slice none 0 0], .int .i64 (fr : Int)] w fun e w' => e = halted (fr : Int) 27 ∧ Below w0.heap.size w0 w' :=
  (put_walk w0 w b s (p : Int) ok (fun _ => False) tv t ⟨f0, f1, f2, f3, [], []⟩ (.slice none 0 0) (.slice none 0 0) fr h.rdr (bare_M _ _ _ _ _ _) (fun _ hk => hk.elim) h.fresh).mono fun e w' he => by
    unfold PutEnds at he
    rw [if_pos hbig] at he
    exact he
/-- What a call that has put a value leaves. -/
def Grew (w0 : World) (b : Nat) (s : ByteArray) (p : Nat) (ok : Nat → Prop) (tv : Value) (t' : List S39) (w w' : World) : Prop := ∃ tv', Rdr w0 b s (p : Int) ok tv' t' w' ∧ KeepBut w w' b tv.ownBlock ∧ Row w tv tv'
theorem put_ok (h : Given w0 b s p ok tv t w) (hbig : ¬ 8192 ≤ t.length) (f0 : Int) (f1 : Bool) (f2 : Int) (f3 : ByteArray) (fr : Nat) :
    Calls Tryd.prog 47 #[.pointer (some ⟨b, 0, none⟩), .agg #[.int .i64 f0, .bool f1, .int .i64 f2, .string f3, .slice none 0 0, .slice none 0 0], .int .i64 (fr : Int)] w fun e w' => e = .returned (.int .i64 (t.length : Int)) ∧ Grew w0 b s p ok tv (t ++ [⟨f0, f1, f2, f3, [], []⟩]) w w' :=
  (put_walk w0 w b s (p : Int) ok (fun _ => False) tv t ⟨f0, f1, f2, f3, [], []⟩ (.slice none 0 0) (.slice none 0 0) fr h.rdr (bare_M _ _ _ _ _ _) (fun _ hk => hk.elim) h.fresh).mono fun e w' he => by
    unfold PutEnds at he
    rw [if_neg hbig] at he
    exact he
theorem Given.step {q : Nat} (h : Given w0 b s q ok tv t w) (hq : q < s.size) : Given w0 b s (q + 1) ok tv t (w.setCell ⟨b, 1, none⟩ (.int .i64 ((q : Int) + 1))) :=
  ⟨(h.rdr.set1 _).cast (by omega), fun k hk => h.fresh k (by simpa [World.setCell] using hk), hq⟩
theorem Grew.from (h : Grew w0 b s p ok tv t' w2 w3) (hk : KeepBut w w2 b none) : Grew w0 b s p ok tv t' w w3 := by
  obtain ⟨tv', h4, h5, h6⟩ := h
  refine ⟨tv', h4, (keep_none hk).trans h5 (.inl rfl), ?_⟩
  rcases h6 with h6 | ⟨k, h6, h7⟩
  · exact .inl h6
  · exact .inr ⟨k, h6, Nat.le_trans hk.1 h7⟩
end
/-- A value, by the byte that stands there. -/
def valueOn (f deep : Nat) (t : List S39) (l : List UInt8) (p : Nat) (c : UInt8) : R (List S39 × Int) :=
    if c = 110 then (word [110, 117, 108, 108] l p).bind fun l1 p1 _ => put t p ⟨1, false, 0, ⟨#[]⟩, [], []⟩ l1 p1
    else if c = 116 then (word [116, 114, 117, 101] l p).bind fun l1 p1 _ => put t p ⟨2, true, 0, ⟨#[]⟩, [], []⟩ l1 p1
    else if c = 102 then (word [102, 97, 108, 115, 101] l p).bind fun l1 p1 _ => put t p ⟨2, false, 0, ⟨#[]⟩, [], []⟩ l1 p1
    else if c = 34 then (text l.tail (p + 1)).bind fun l1 p1 s => put t p ⟨4, false, 0, str s, [], []⟩ l1 p1
    else if c = 45 ∨ (48 ≤ c.toNat ∧ c.toNat ≤ 57) then (number l p).bind fun l1 p1 n => put t p ⟨3, false, n, ⟨#[]⟩, [], []⟩ l1 p1
    else if c = 91 ∨ c = 123 then
      if 16 ≤ deep then .no p 26
      else if c = 91 then listF f deep p l.tail (p + 1) t
      else objectF f deep p l.tail (p + 1) t
    else .no p 22
theorem value_succ (f deep : Nat) (l0 : List UInt8) (p0 : Nat) (t : List S39) : value (f + 1) deep l0 p0 t = (here l0 p0).bind (valueOn f deep t) := by
  rw [value]
  rfl
set_option maxHeartbeats 40000000 in
set_option maxRecDepth 100000 in
theorem value_step (w0 : World) (b : Nat) (s : ByteArray) (f : Nat) (hG : Aside0 (Glob w0)) (hGN : Aside0 (GlobN w0)) (hs : s.size ≤ 65536) (hL : LT w0 b s f) (hO : OT w0 b s f) : VT w0 b s (f + 1) := by
  intro deep p ok tv t w g hd hf
  have HLT := Aside0.mk hL
  have HOT := Aside0.mk hO
  clear hL hO
  have hh := here_walk w0 w b s p tv g.rdr.1 g.place hs
  have hok := here_ok (s.data.toList.drop p) p
  have hadv := here_adv (s.data.toList.drop p) p
  obtain ⟨res, hres⟩ : ∃ r, value (f + 1) deep (s.data.toList.drop p) p t = r := ⟨_, rfl⟩
  rw [hres]
  rw [value_succ] at hres
  generalize here (s.data.toList.drop p) p = r at *
  cases r with
  | no pp ee =>
    have hw2 : Calls Tryd.prog 45 #[.pointer (some ⟨b, 0, none⟩)] w fun e w' => e = halted (pp : Int) ee ∧ Below w0.heap.size w0 w' := hh
    have HRes := Aside0.mk (show R.no pp ee = res from hres)
    clear hh hok hadv hres
    go_enter Tryd.func33, Tryd.ntmps33
    go_wp2_with (go_at_call 45; refine hw2.mono ?_; rintro e w1 ⟨rfl, hB1⟩)
    rw [← HRes.out]
    exact ⟨rfl, rfl, hB1⟩
  | ok l q c =>
    have hlc := hok l q c rfl
    have hpq := hadv l q c rfl
    have hw2 : Calls Tryd.prog 45 #[.pointer (some ⟨b, 0, none⟩)] w fun e w' => e = .returned (.int .u8 (c.toNat : Int)) ∧ l = s.data.toList.drop q ∧ q ≤ s.size ∧ At w0 b s (q : Int) tv w' ∧ KeepBut w w' b none := hh
    clear hh hok hadv
    by_cases hq : l = s.data.toList.drop q ∧ q ≤ s.size
    rotate_left
    · have HQ := Aside0.mk hq
      clear hq hres
      go_enter Tryd.func33, Tryd.ntmps33
      go_wp2_with (go_at_call 45; refine hw2.mono ?_; rintro e w1 ⟨rfl, hl1, hq1, hA1, hk1⟩; exact absurd ⟨hl1, hq1⟩ HQ.out)
    obtain ⟨hlq, hqs⟩ := hq
    obtain ⟨hlt, htl⟩ := drop_tail hlc hlq
    have hw3 : Calls Tryd.prog 45 #[.pointer (some ⟨b, 0, none⟩)] w fun e w' => e = .returned (.int .u8 (c.toNat : Int)) ∧ At w0 b s (q : Int) tv w' ∧ KeepBut w w' b none := hw2.mono fun e w' h => ⟨h.1, h.2.2.2⟩
    clear hw2
    rw [R.bind_ok] at hres
    unfold valueOn at hres
    rw [htl] at hres
    rw [hlq] at hres
    clear hlc
    have hzq0 : (0 : Int) ≤ (q : Int) := by omega
    have hzq1 : (q : Int) ≤ 65536 := by omega
    have hcu := c.toNat_lt
    have hc110 : ((c.toNat : Int) == 110) = decide (c = 110) := byte_eq c 110
    have hc116 : ((c.toNat : Int) == 116) = decide (c = 116) := byte_eq c 116
    have hc102 : ((c.toNat : Int) == 102) = decide (c = 102) := byte_eq c 102
    have hc34 : ((c.toNat : Int) == 34) = decide (c = 34) := byte_eq c 34
    have hc45 : ((c.toNat : Int) == 45) = decide (c = 45) := byte_eq c 45
    have hc91 : ((c.toNat : Int) == 91) = decide (c = 91) := byte_eq c 91
    have hc123 : ((c.toNat : Int) == 123) = decide (c = 123) := byte_eq c 123
    obtain ⟨cn, hcn⟩ : ∃ cn : Int, (c.toNat : Int) = cn := ⟨_, rfl⟩
    rw [hcn] at hw3 hc110 hc116 hc102 hc34 hc45 hc91 hc123
    have hcn0 : 0 ≤ cn := by omega
    have hcn1 : cn < 256 := by omega
    by_cases h110 : c = 110
    · rw [if_pos h110] at hres
      have e110 : (cn == 110) = true := hc110.trans (decide_eq_true h110)
      have hcw := fun (w1 : World) (h : At w0 b s (q : Int) tv w1) => word_walk w0 w1 b s ⟨#[110, 117, 108, 108]⟩ q tv h hqs hs (by decide)
      generalize hrw : word [110, 117, 108, 108] (s.data.toList.drop q) q = rw1 at *
      clear hrw
      have HC := Aside0.mk hcw
      clear hcw
      cases rw1 with
      | no pp ee =>
        have HRes := Aside0.mk (show R.no pp ee = res from hres)
        clear hres hc110 hc116 hc102 hc34 hc45 hc91 hc123 hcn hlq htl
        go_enter Tryd.func33, Tryd.ntmps33
        go_wp2_with (first
          | (go_at_call 45; refine hw3.mono ?_; rintro e w1 ⟨rfl, hA1, hk1⟩; have hc1 := hA1.c1; have hf1 := hA1.fr 1; have hg1 := g.moved hA1 hk1 hqs)
          | (go_at_call 46; refine (HC.out w1 hA1).mono ?_; rintro e w2 ⟨rfl, hB2⟩))
        rw [← HRes.out]
        exact ⟨rfl, rfl, hB2⟩
      | ok l2 p2 a2 =>
        rw [R.bind_ok] at hres
        unfold put at hres
        by_cases hbig : 8192 ≤ t.length
        · rw [if_pos hbig] at hres
          have HRes := Aside0.mk hres
          clear hres hc110 hc116 hc102 hc34 hc45 hc91 hc123 hcn hlq htl
          go_enter Tryd.func33, Tryd.ntmps33
          go_wp2_with (first
            | (go_at_call 45; refine hw3.mono ?_; rintro e w1 ⟨rfl, hA1, hk1⟩; have hc1 := hA1.c1; have hf1 := hA1.fr 1; have hg1 := g.moved hA1 hk1 hqs)
            | (go_at_call 46; refine (HC.out w1 hA1).mono ?_; rintro e w2 ⟨rfl, hl2, hp2, hA2, hk2⟩; have HL2 := Aside0.mk hl2; clear hl2; have hg2 := hg1.moved hA2 hk2 hp2)
            | (go_at_call 47; refine (put_no hg2 hbig 1 false 0 ⟨#[]⟩ q).mono ?_; rintro e w3 ⟨rfl, hB3⟩))
          rw [← HRes.out]
          exact ⟨rfl, rfl, hB3⟩
        · rw [if_neg hbig] at hres
          have HRes := Aside0.mk hres
          clear hres hc110 hc116 hc102 hc34 hc45 hc91 hc123 hcn hlq htl
          go_enter Tryd.func33, Tryd.ntmps33
          go_wp2_with (first
            | (go_at_call 45; refine hw3.mono ?_; rintro e w1 ⟨rfl, hA1, hk1⟩; have hc1 := hA1.c1; have hf1 := hA1.fr 1; have hg1 := g.moved hA1 hk1 hqs)
            | (go_at_call 46; refine (HC.out w1 hA1).mono ?_; rintro e w2 ⟨rfl, hl2, hp2, hA2, hk2⟩; have HL2 := Aside0.mk hl2; clear hl2; have hg2 := hg1.moved hA2 hk2 hp2)
            | (go_at_call 47; refine (put_ok hg2 hbig 1 false 0 ⟨#[]⟩ q).mono ?_; rintro e w3 ⟨rfl, hR3⟩))
          go_ret
          rw [← HRes.out]
          exact ⟨rfl, HL2.out, hp2, hR3.from (hk1.trans hk2 (.inl rfl))⟩
    rw [if_neg h110] at hres
    have e110 : (cn == 110) = false := hc110.trans (decide_eq_false h110)
    by_cases h116 : c = 116
    · rw [if_pos h116] at hres
      have e116 : (cn == 116) = true := hc116.trans (decide_eq_true h116)
      have hcw := fun (w1 : World) (h : At w0 b s (q : Int) tv w1) => word_walk w0 w1 b s ⟨#[116, 114, 117, 101]⟩ q tv h hqs hs (by decide)
      generalize hrw : word [116, 114, 117, 101] (s.data.toList.drop q) q = rw1 at *
      clear hrw
      have HC := Aside0.mk hcw
      clear hcw
      cases rw1 with
      | no pp ee =>
        have HRes := Aside0.mk (show R.no pp ee = res from hres)
        clear hres hc110 hc116 hc102 hc34 hc45 hc91 hc123 hcn hlq htl
        go_enter Tryd.func33, Tryd.ntmps33
        go_wp2_with (first
          | (go_at_call 45; refine hw3.mono ?_; rintro e w1 ⟨rfl, hA1, hk1⟩; have hc1 := hA1.c1; have hf1 := hA1.fr 1; have hg1 := g.moved hA1 hk1 hqs)
          | (go_at_call 46; refine (HC.out w1 hA1).mono ?_; rintro e w2 ⟨rfl, hB2⟩))
        rw [← HRes.out]
        exact ⟨rfl, rfl, hB2⟩
      | ok l2 p2 a2 =>
        rw [R.bind_ok] at hres
        unfold put at hres
        by_cases hbig : 8192 ≤ t.length
        · rw [if_pos hbig] at hres
          have HRes := Aside0.mk hres
          clear hres hc110 hc116 hc102 hc34 hc45 hc91 hc123 hcn hlq htl
          go_enter Tryd.func33, Tryd.ntmps33
          go_wp2_with (first
            | (go_at_call 45; refine hw3.mono ?_; rintro e w1 ⟨rfl, hA1, hk1⟩; have hc1 := hA1.c1; have hf1 := hA1.fr 1; have hg1 := g.moved hA1 hk1 hqs)
            | (go_at_call 46; refine (HC.out w1 hA1).mono ?_; rintro e w2 ⟨rfl, hl2, hp2, hA2, hk2⟩; have HL2 := Aside0.mk hl2; clear hl2; have hg2 := hg1.moved hA2 hk2 hp2)
            | (go_at_call 47; refine (put_no hg2 hbig 2 true 0 ⟨#[]⟩ q).mono ?_; rintro e w3 ⟨rfl, hB3⟩))
          rw [← HRes.out]
          exact ⟨rfl, rfl, hB3⟩
        · rw [if_neg hbig] at hres
          have HRes := Aside0.mk hres
          clear hres hc110 hc116 hc102 hc34 hc45 hc91 hc123 hcn hlq htl
          go_enter Tryd.func33, Tryd.ntmps33
          go_wp2_with (first
            | (go_at_call 45; refine hw3.mono ?_; rintro e w1 ⟨rfl, hA1, hk1⟩; have hc1 := hA1.c1; have hf1 := hA1.fr 1; have hg1 := g.moved hA1 hk1 hqs)
            | (go_at_call 46; refine (HC.out w1 hA1).mono ?_; rintro e w2 ⟨rfl, hl2, hp2, hA2, hk2⟩; have HL2 := Aside0.mk hl2; clear hl2; have hg2 := hg1.moved hA2 hk2 hp2)
            | (go_at_call 47; refine (put_ok hg2 hbig 2 true 0 ⟨#[]⟩ q).mono ?_; rintro e w3 ⟨rfl, hR3⟩))
          go_ret
          rw [← HRes.out]
          exact ⟨rfl, HL2.out, hp2, hR3.from (hk1.trans hk2 (.inl rfl))⟩
    rw [if_neg h116] at hres
    have e116 : (cn == 116) = false := hc116.trans (decide_eq_false h116)
    by_cases h102 : c = 102
    · rw [if_pos h102] at hres
      have e102 : (cn == 102) = true := hc102.trans (decide_eq_true h102)
      have hcw := fun (w1 : World) (h : At w0 b s (q : Int) tv w1) => word_walk w0 w1 b s ⟨#[102, 97, 108, 115, 101]⟩ q tv h hqs hs (by decide)
      generalize hrw : word [102, 97, 108, 115, 101] (s.data.toList.drop q) q = rw1 at *
      clear hrw
      have HC := Aside0.mk hcw
      clear hcw
      cases rw1 with
      | no pp ee =>
        have HRes := Aside0.mk (show R.no pp ee = res from hres)
        clear hres hc110 hc116 hc102 hc34 hc45 hc91 hc123 hcn hlq htl
        go_enter Tryd.func33, Tryd.ntmps33
        go_wp2_with (first
          | (go_at_call 45; refine hw3.mono ?_; rintro e w1 ⟨rfl, hA1, hk1⟩; have hc1 := hA1.c1; have hf1 := hA1.fr 1; have hg1 := g.moved hA1 hk1 hqs)
          | (go_at_call 46; refine (HC.out w1 hA1).mono ?_; rintro e w2 ⟨rfl, hB2⟩))
        rw [← HRes.out]
        exact ⟨rfl, rfl, hB2⟩
      | ok l2 p2 a2 =>
        rw [R.bind_ok] at hres
        unfold put at hres
        by_cases hbig : 8192 ≤ t.length
        · rw [if_pos hbig] at hres
          have HRes := Aside0.mk hres
          clear hres hc110 hc116 hc102 hc34 hc45 hc91 hc123 hcn hlq htl
          go_enter Tryd.func33, Tryd.ntmps33
          go_wp2_with (first
            | (go_at_call 45; refine hw3.mono ?_; rintro e w1 ⟨rfl, hA1, hk1⟩; have hc1 := hA1.c1; have hf1 := hA1.fr 1; have hg1 := g.moved hA1 hk1 hqs)
            | (go_at_call 46; refine (HC.out w1 hA1).mono ?_; rintro e w2 ⟨rfl, hl2, hp2, hA2, hk2⟩; have HL2 := Aside0.mk hl2; clear hl2; have hg2 := hg1.moved hA2 hk2 hp2)
            | (go_at_call 47; refine (put_no hg2 hbig 2 false 0 ⟨#[]⟩ q).mono ?_; rintro e w3 ⟨rfl, hB3⟩))
          rw [← HRes.out]
          exact ⟨rfl, rfl, hB3⟩
        · rw [if_neg hbig] at hres
          have HRes := Aside0.mk hres
          clear hres hc110 hc116 hc102 hc34 hc45 hc91 hc123 hcn hlq htl
          go_enter Tryd.func33, Tryd.ntmps33
          go_wp2_with (first
            | (go_at_call 45; refine hw3.mono ?_; rintro e w1 ⟨rfl, hA1, hk1⟩; have hc1 := hA1.c1; have hf1 := hA1.fr 1; have hg1 := g.moved hA1 hk1 hqs)
            | (go_at_call 46; refine (HC.out w1 hA1).mono ?_; rintro e w2 ⟨rfl, hl2, hp2, hA2, hk2⟩; have HL2 := Aside0.mk hl2; clear hl2; have hg2 := hg1.moved hA2 hk2 hp2)
            | (go_at_call 47; refine (put_ok hg2 hbig 2 false 0 ⟨#[]⟩ q).mono ?_; rintro e w3 ⟨rfl, hR3⟩))
          go_ret
          rw [← HRes.out]
          exact ⟨rfl, HL2.out, hp2, hR3.from (hk1.trans hk2 (.inl rfl))⟩
    rw [if_neg h102] at hres
    have e102 : (cn == 102) = false := hc102.trans (decide_eq_false h102)
    by_cases h34 : c = 34
    · rw [if_pos h34] at hres
      have e34 : (cn == 34) = true := hc34.trans (decide_eq_true h34)
      have hcw := fun (w1 : World) (h : At w0 b s (q : Int) tv w1) => text_walk w0 w1 b s q tv hG h hlt hs
      generalize hrw : text (s.data.toList.drop (q + 1)) (q + 1) = rw1 at *
      clear hrw
      have HC := Aside0.mk hcw
      clear hcw
      cases rw1 with
      | no pp ee =>
        have HRes := Aside0.mk (show R.no pp ee = res from hres)
        clear hres hc110 hc116 hc102 hc34 hc45 hc91 hc123 hcn hlq htl
        go_enter Tryd.func33, Tryd.ntmps33
        go_wp2_with (first
          | (go_at_call 45; refine hw3.mono ?_; rintro e w1 ⟨rfl, hA1, hk1⟩; have hc1 := hA1.c1; have hf1 := hA1.fr 1; have hg1 := g.moved hA1 hk1 hqs)
          | (go_at_call 48; refine (HC.out w1 hA1).mono ?_; rintro e w2 ⟨rfl, hB2⟩))
        rw [← HRes.out]
        exact ⟨rfl, rfl, hB2⟩
      | ok l2 p2 a2 =>
        rw [R.bind_ok] at hres
        unfold put at hres
        by_cases hbig : 8192 ≤ t.length
        · rw [if_pos hbig] at hres
          have HRes := Aside0.mk hres
          clear hres hc110 hc116 hc102 hc34 hc45 hc91 hc123 hcn hlq htl
          go_enter Tryd.func33, Tryd.ntmps33
          go_wp2_with (first
            | (go_at_call 45; refine hw3.mono ?_; rintro e w1 ⟨rfl, hA1, hk1⟩; have hc1 := hA1.c1; have hf1 := hA1.fr 1; have hg1 := g.moved hA1 hk1 hqs)
            | (go_at_call 48; refine (HC.out w1 hA1).mono ?_; rintro e w2 ⟨rfl, hl2, hp2, hA2, hk2⟩; have HL2 := Aside0.mk hl2; clear hl2; have hg2 := hg1.moved hA2 hk2 hp2)
            | (go_at_call 47; refine (put_no hg2 hbig 4 false 0 (str a2) q).mono ?_; rintro e w3 ⟨rfl, hB3⟩))
          rw [← HRes.out]
          exact ⟨rfl, rfl, hB3⟩
        · rw [if_neg hbig] at hres
          have HRes := Aside0.mk hres
          clear hres hc110 hc116 hc102 hc34 hc45 hc91 hc123 hcn hlq htl
          go_enter Tryd.func33, Tryd.ntmps33
          go_wp2_with (first
            | (go_at_call 45; refine hw3.mono ?_; rintro e w1 ⟨rfl, hA1, hk1⟩; have hc1 := hA1.c1; have hf1 := hA1.fr 1; have hg1 := g.moved hA1 hk1 hqs)
            | (go_at_call 48; refine (HC.out w1 hA1).mono ?_; rintro e w2 ⟨rfl, hl2, hp2, hA2, hk2⟩; have HL2 := Aside0.mk hl2; clear hl2; have hg2 := hg1.moved hA2 hk2 hp2)
            | (go_at_call 47; refine (put_ok hg2 hbig 4 false 0 (str a2) q).mono ?_; rintro e w3 ⟨rfl, hR3⟩))
          go_ret
          rw [← HRes.out]
          exact ⟨rfl, HL2.out, hp2, hR3.from (hk1.trans hk2 (.inl rfl))⟩
    rw [if_neg h34] at hres
    have e34 : (cn == 34) = false := hc34.trans (decide_eq_false h34)
    by_cases hnum : c = 45 ∨ (48 ≤ c.toNat ∧ c.toNat ≤ 57)
    · rw [if_pos hnum] at hres
      rcases hnum with hnum | hnum
      · have e45 : (cn == 45) = true := hc45.trans (decide_eq_true hnum)
        have hcw := fun (w1 : World) (h : At w0 b s (q : Int) tv w1) => number_walk w0 w1 b s q tv hGN h hqs hs
        generalize hrw : number (s.data.toList.drop q) q = rw1 at *
        clear hrw
        have HC := Aside0.mk hcw
        clear hcw
        cases rw1 with
        | no pp ee =>
          have HRes := Aside0.mk (show R.no pp ee = res from hres)
          clear hres hc110 hc116 hc102 hc34 hc45 hc91 hc123 hcn hlq htl
          go_enter Tryd.func33, Tryd.ntmps33
          go_wp2_with (first
            | (go_at_call 45; refine hw3.mono ?_; rintro e w1 ⟨rfl, hA1, hk1⟩; have hc1 := hA1.c1; have hf1 := hA1.fr 1; have hg1 := g.moved hA1 hk1 hqs)
            | (go_at_call 49; refine (HC.out w1 hA1).mono ?_; rintro e w2 ⟨rfl, hB2⟩))
          rw [← HRes.out]
          exact ⟨rfl, rfl, hB2⟩
        | ok l2 p2 a2 =>
          rw [R.bind_ok] at hres
          unfold put at hres
          by_cases hbig : 8192 ≤ t.length
          · rw [if_pos hbig] at hres
            have HRes := Aside0.mk hres
            clear hres hc110 hc116 hc102 hc34 hc45 hc91 hc123 hcn hlq htl
            go_enter Tryd.func33, Tryd.ntmps33
            go_wp2_with (first
              | (go_at_call 45; refine hw3.mono ?_; rintro e w1 ⟨rfl, hA1, hk1⟩; have hc1 := hA1.c1; have hf1 := hA1.fr 1; have hg1 := g.moved hA1 hk1 hqs)
              | (go_at_call 49; refine (HC.out w1 hA1).mono ?_; rintro e w2 ⟨rfl, hl2, hp2, hA2, hk2⟩; have HL2 := Aside0.mk hl2; clear hl2; have hg2 := hg1.moved hA2 hk2 hp2)
              | (go_at_call 47; refine (put_no hg2 hbig 3 false a2 ⟨#[]⟩ q).mono ?_; rintro e w3 ⟨rfl, hB3⟩))
            rw [← HRes.out]
            exact ⟨rfl, rfl, hB3⟩
          · rw [if_neg hbig] at hres
            have HRes := Aside0.mk hres
            clear hres hc110 hc116 hc102 hc34 hc45 hc91 hc123 hcn hlq htl
            go_enter Tryd.func33, Tryd.ntmps33
            go_wp2_with (first
              | (go_at_call 45; refine hw3.mono ?_; rintro e w1 ⟨rfl, hA1, hk1⟩; have hc1 := hA1.c1; have hf1 := hA1.fr 1; have hg1 := g.moved hA1 hk1 hqs)
              | (go_at_call 49; refine (HC.out w1 hA1).mono ?_; rintro e w2 ⟨rfl, hl2, hp2, hA2, hk2⟩; have HL2 := Aside0.mk hl2; clear hl2; have hg2 := hg1.moved hA2 hk2 hp2)
              | (go_at_call 47; refine (put_ok hg2 hbig 3 false a2 ⟨#[]⟩ q).mono ?_; rintro e w3 ⟨rfl, hR3⟩))
            go_ret
            rw [← HRes.out]
            exact ⟨rfl, HL2.out, hp2, hR3.from (hk1.trans hk2 (.inl rfl))⟩
      · have e45 : (cn == 45) = false := hc45.trans (decide_eq_false (fun e => by rw [e] at hnum; revert hnum; decide))
        have e48 : decide (48 ≤ cn) = true := decide_eq_true (by omega)
        have e57 : decide (cn ≤ 57) = true := decide_eq_true (by omega)
        have hcw := fun (w1 : World) (h : At w0 b s (q : Int) tv w1) => number_walk w0 w1 b s q tv hGN h hqs hs
        generalize hrw : number (s.data.toList.drop q) q = rw1 at *
        clear hrw
        have HC := Aside0.mk hcw
        clear hcw
        cases rw1 with
        | no pp ee =>
          have HRes := Aside0.mk (show R.no pp ee = res from hres)
          clear hres hc110 hc116 hc102 hc34 hc45 hc91 hc123 hcn hlq htl
          go_enter Tryd.func33, Tryd.ntmps33
          go_wp2_with (first
            | (go_at_call 45; refine hw3.mono ?_; rintro e w1 ⟨rfl, hA1, hk1⟩; have hc1 := hA1.c1; have hf1 := hA1.fr 1; have hg1 := g.moved hA1 hk1 hqs)
            | (go_at_call 49; refine (HC.out w1 hA1).mono ?_; rintro e w2 ⟨rfl, hB2⟩))
          rw [← HRes.out]
          exact ⟨rfl, rfl, hB2⟩
        | ok l2 p2 a2 =>
          rw [R.bind_ok] at hres
          unfold put at hres
          by_cases hbig : 8192 ≤ t.length
          · rw [if_pos hbig] at hres
            have HRes := Aside0.mk hres
            clear hres hc110 hc116 hc102 hc34 hc45 hc91 hc123 hcn hlq htl
            go_enter Tryd.func33, Tryd.ntmps33
            go_wp2_with (first
              | (go_at_call 45; refine hw3.mono ?_; rintro e w1 ⟨rfl, hA1, hk1⟩; have hc1 := hA1.c1; have hf1 := hA1.fr 1; have hg1 := g.moved hA1 hk1 hqs)
              | (go_at_call 49; refine (HC.out w1 hA1).mono ?_; rintro e w2 ⟨rfl, hl2, hp2, hA2, hk2⟩; have HL2 := Aside0.mk hl2; clear hl2; have hg2 := hg1.moved hA2 hk2 hp2)
              | (go_at_call 47; refine (put_no hg2 hbig 3 false a2 ⟨#[]⟩ q).mono ?_; rintro e w3 ⟨rfl, hB3⟩))
            rw [← HRes.out]
            exact ⟨rfl, rfl, hB3⟩
          · rw [if_neg hbig] at hres
            have HRes := Aside0.mk hres
            clear hres hc110 hc116 hc102 hc34 hc45 hc91 hc123 hcn hlq htl
            go_enter Tryd.func33, Tryd.ntmps33
            go_wp2_with (first
              | (go_at_call 45; refine hw3.mono ?_; rintro e w1 ⟨rfl, hA1, hk1⟩; have hc1 := hA1.c1; have hf1 := hA1.fr 1; have hg1 := g.moved hA1 hk1 hqs)
              | (go_at_call 49; refine (HC.out w1 hA1).mono ?_; rintro e w2 ⟨rfl, hl2, hp2, hA2, hk2⟩; have HL2 := Aside0.mk hl2; clear hl2; have hg2 := hg1.moved hA2 hk2 hp2)
              | (go_at_call 47; refine (put_ok hg2 hbig 3 false a2 ⟨#[]⟩ q).mono ?_; rintro e w3 ⟨rfl, hR3⟩))
            go_ret
            rw [← HRes.out]
            exact ⟨rfl, HL2.out, hp2, hR3.from (hk1.trans hk2 (.inl rfl))⟩
    rw [if_neg hnum] at hres
    have e45 : (cn == 45) = false := hc45.trans (decide_eq_false (fun e => hnum (.inl e)))
    have hn2 : decide (48 ≤ cn) = false ∨ (decide (48 ≤ cn) = true ∧ decide (cn ≤ 57) = false) := by
      by_cases h1 : 48 ≤ cn
      · exact .inr ⟨decide_eq_true h1, decide_eq_false (fun h2 => hnum (.inr ⟨by omega, by omega⟩))⟩
      · exact .inl (decide_eq_false h1)
    rcases hn2 with e48 | ⟨e48, e57⟩
    · by_cases hbr : c = 91 ∨ c = 123
      · rw [if_pos hbr] at hres
        by_cases hdp : 16 ≤ deep
        · rw [if_pos hdp] at hres
          have d1 : decide ((16 : Int) ≤ (deep : Int)) = true := decide_eq_true (by omega)
          have d2 : decide (16 ≤ deep) = true := decide_eq_true hdp
          have HRes := Aside0.mk hres
          rcases hbr with hbr | hbr
          · have e91 : (cn == 91) = true := hc91.trans (decide_eq_true hbr)
            clear hbr
            clear hres hc110 hc116 hc102 hc34 hc45 hc91 hc123 hcn hlq htl
            go_enter Tryd.func33, Tryd.ntmps33
            go_wp2_with (first
              | (go_at_call 45; refine hw3.mono ?_; rintro e w1 ⟨rfl, hA1, hk1⟩; have hc1 := hA1.c1; have hf1 := hA1.fr 1; have hg1 := g.moved hA1 hk1 hqs)
              | (go_at_call 35; refine (fail_walk _ _ _).mono ?_; rintro e w2 ⟨rfl, rfl⟩))
            rw [← HRes.out]
            exact ⟨rfl, rfl, hA1.2.1⟩
          · have e91 : (cn == 91) = false := hc91.trans (decide_eq_false (fun e => by rw [e] at hbr; revert hbr; decide))
            have e123 : (cn == 123) = true := hc123.trans (decide_eq_true hbr)
            clear hbr
            clear hres hc110 hc116 hc102 hc34 hc45 hc91 hc123 hcn hlq htl
            go_enter Tryd.func33, Tryd.ntmps33
            go_wp2_with (first
              | (go_at_call 45; refine hw3.mono ?_; rintro e w1 ⟨rfl, hA1, hk1⟩; have hc1 := hA1.c1; have hf1 := hA1.fr 1; have hg1 := g.moved hA1 hk1 hqs)
              | (go_at_call 35; refine (fail_walk _ _ _).mono ?_; rintro e w2 ⟨rfl, rfl⟩))
            rw [← HRes.out]
            exact ⟨rfl, rfl, hA1.2.1⟩
        · rw [if_neg hdp] at hres
          have d1 : decide ((16 : Int) ≤ (deep : Int)) = false := decide_eq_false (by omega)
          have d2 : decide (16 ≤ deep) = false := decide_eq_false hdp
          have hd15 : deep ≤ 15 := by omega
          have hfu : 2 * (s.size - (q + 1)) + 1 < f := by omega
          by_cases hbl : c = 91
          · rw [if_pos hbl] at hres
            have e91 : (cn == 91) = true := hc91.trans (decide_eq_true hbl)
            clear hbr hbl
            have hcw := fun (w1 : World) (h : Given w0 b s (q + 1) ok tv t w1) => HLT.out deep q (q + 1) ok tv t w1 h hd15 hfu
            generalize hrw : listF f deep q (s.data.toList.drop (q + 1)) (q + 1) t = rw1 at *
            clear hrw
            have HC := Aside0.mk hcw
            have HRes := Aside0.mk hres
            clear hcw
            cases rw1 with
            | no pp ee =>
              clear hres hc110 hc116 hc102 hc34 hc45 hc91 hc123 hcn hlq htl
              go_enter Tryd.func33, Tryd.ntmps33
              go_wp2_with (first
                | (go_at_call 45; refine hw3.mono ?_; rintro e w1 ⟨rfl, hA1, hk1⟩; have hc1 := hA1.c1; have hf1 := hA1.fr 1; have hg1 := g.moved hA1 hk1 hqs)
                | (go_at_call 50; refine (HC.out _ (hg1.step hlt)).mono ?_; rintro e w2 ⟨rfl, hB2⟩))
              rw [← HRes.out]
              exact ⟨rfl, rfl, hB2⟩
            | ok l2 p2 v2 =>
              clear hres hc110 hc116 hc102 hc34 hc45 hc91 hc123 hcn hlq htl
              go_enter Tryd.func33, Tryd.ntmps33
              go_wp2_with (first
                | (go_at_call 45; refine hw3.mono ?_; rintro e w1 ⟨rfl, hA1, hk1⟩; have hc1 := hA1.c1; have hf1 := hA1.fr 1; have hg1 := g.moved hA1 hk1 hqs)
                | (go_at_call 50; refine (HC.out _ (hg1.step hlt)).mono ?_; rintro e w2 ⟨rfl, hl2, hp2, hR2⟩; have HL2 := Aside0.mk hl2; clear hl2; have hR3 : Grew w0 b s p2 ok tv v2.1 _ w2 := hR2; clear hR2))
              go_ret
              rw [← HRes.out]
              exact ⟨rfl, HL2.out, hp2, hR3.from (hk1.set_ 1 _)⟩
          · rw [if_neg hbl] at hres
            have e91 : (cn == 91) = false := hc91.trans (decide_eq_false hbl)
            have e123 : (cn == 123) = true := hc123.trans (decide_eq_true (hbr.resolve_left hbl))
            clear hbr hbl
            have hcw := fun (w1 : World) (h : Given w0 b s (q + 1) ok tv t w1) => HOT.out deep q (q + 1) ok tv t w1 h hd15 hfu
            generalize hrw : objectF f deep q (s.data.toList.drop (q + 1)) (q + 1) t = rw1 at *
            clear hrw
            have HC := Aside0.mk hcw
            have HRes := Aside0.mk hres
            clear hcw
            cases rw1 with
            | no pp ee =>
              clear hres hc110 hc116 hc102 hc34 hc45 hc91 hc123 hcn hlq htl
              go_enter Tryd.func33, Tryd.ntmps33
              go_wp2_with (first
                | (go_at_call 45; refine hw3.mono ?_; rintro e w1 ⟨rfl, hA1, hk1⟩; have hc1 := hA1.c1; have hf1 := hA1.fr 1; have hg1 := g.moved hA1 hk1 hqs)
                | (go_at_call 51; refine (HC.out _ (hg1.step hlt)).mono ?_; rintro e w2 ⟨rfl, hB2⟩))
              rw [← HRes.out]
              exact ⟨rfl, rfl, hB2⟩
            | ok l2 p2 v2 =>
              clear hres hc110 hc116 hc102 hc34 hc45 hc91 hc123 hcn hlq htl
              go_enter Tryd.func33, Tryd.ntmps33
              go_wp2_with (first
                | (go_at_call 45; refine hw3.mono ?_; rintro e w1 ⟨rfl, hA1, hk1⟩; have hc1 := hA1.c1; have hf1 := hA1.fr 1; have hg1 := g.moved hA1 hk1 hqs)
                | (go_at_call 51; refine (HC.out _ (hg1.step hlt)).mono ?_; rintro e w2 ⟨rfl, hl2, hp2, hR2⟩; have HL2 := Aside0.mk hl2; clear hl2; have hR3 : Grew w0 b s p2 ok tv v2.1 _ w2 := hR2; clear hR2))
              go_ret
              rw [← HRes.out]
              exact ⟨rfl, HL2.out, hp2, hR3.from (hk1.set_ 1 _)⟩
      · rw [if_neg hbr] at hres
        have e91 : (cn == 91) = false := hc91.trans (decide_eq_false (fun e => hbr (.inl e)))
        have e123 : (cn == 123) = false := hc123.trans (decide_eq_false (fun e => hbr (.inr e)))
        have HRes := Aside0.mk hres
        clear hbr
        clear hres hc110 hc116 hc102 hc34 hc45 hc91 hc123 hcn hlq htl
        go_enter Tryd.func33, Tryd.ntmps33
        go_wp2_with (first
          | (go_at_call 45; refine hw3.mono ?_; rintro e w1 ⟨rfl, hA1, hk1⟩; have hc1 := hA1.c1; have hf1 := hA1.fr 1; have hg1 := g.moved hA1 hk1 hqs)
          | (go_at_call 35; refine (fail_walk _ _ _).mono ?_; rintro e w2 ⟨rfl, rfl⟩))
        rw [← HRes.out]
        exact ⟨rfl, rfl, hA1.2.1⟩
    · by_cases hbr : c = 91 ∨ c = 123
      · rw [if_pos hbr] at hres
        by_cases hdp : 16 ≤ deep
        · rw [if_pos hdp] at hres
          have d1 : decide ((16 : Int) ≤ (deep : Int)) = true := decide_eq_true (by omega)
          have d2 : decide (16 ≤ deep) = true := decide_eq_true hdp
          have HRes := Aside0.mk hres
          rcases hbr with hbr | hbr
          · have e91 : (cn == 91) = true := hc91.trans (decide_eq_true hbr)
            clear hbr
            clear hres hc110 hc116 hc102 hc34 hc45 hc91 hc123 hcn hlq htl
            go_enter Tryd.func33, Tryd.ntmps33
            go_wp2_with (first
              | (go_at_call 45; refine hw3.mono ?_; rintro e w1 ⟨rfl, hA1, hk1⟩; have hc1 := hA1.c1; have hf1 := hA1.fr 1; have hg1 := g.moved hA1 hk1 hqs)
              | (go_at_call 35; refine (fail_walk _ _ _).mono ?_; rintro e w2 ⟨rfl, rfl⟩))
            rw [← HRes.out]
            exact ⟨rfl, rfl, hA1.2.1⟩
          · have e91 : (cn == 91) = false := hc91.trans (decide_eq_false (fun e => by rw [e] at hbr; revert hbr; decide))
            have e123 : (cn == 123) = true := hc123.trans (decide_eq_true hbr)
            clear hbr
            clear hres hc110 hc116 hc102 hc34 hc45 hc91 hc123 hcn hlq htl
            go_enter Tryd.func33, Tryd.ntmps33
            go_wp2_with (first
              | (go_at_call 45; refine hw3.mono ?_; rintro e w1 ⟨rfl, hA1, hk1⟩; have hc1 := hA1.c1; have hf1 := hA1.fr 1; have hg1 := g.moved hA1 hk1 hqs)
              | (go_at_call 35; refine (fail_walk _ _ _).mono ?_; rintro e w2 ⟨rfl, rfl⟩))
            rw [← HRes.out]
            exact ⟨rfl, rfl, hA1.2.1⟩
        · rw [if_neg hdp] at hres
          have d1 : decide ((16 : Int) ≤ (deep : Int)) = false := decide_eq_false (by omega)
          have d2 : decide (16 ≤ deep) = false := decide_eq_false hdp
          have hd15 : deep ≤ 15 := by omega
          have hfu : 2 * (s.size - (q + 1)) + 1 < f := by omega
          by_cases hbl : c = 91
          · rw [if_pos hbl] at hres
            have e91 : (cn == 91) = true := hc91.trans (decide_eq_true hbl)
            clear hbr hbl
            have hcw := fun (w1 : World) (h : Given w0 b s (q + 1) ok tv t w1) => HLT.out deep q (q + 1) ok tv t w1 h hd15 hfu
            generalize hrw : listF f deep q (s.data.toList.drop (q + 1)) (q + 1) t = rw1 at *
            clear hrw
            have HC := Aside0.mk hcw
            have HRes := Aside0.mk hres
            clear hcw
            cases rw1 with
            | no pp ee =>
              clear hres hc110 hc116 hc102 hc34 hc45 hc91 hc123 hcn hlq htl
              go_enter Tryd.func33, Tryd.ntmps33
              go_wp2_with (first
                | (go_at_call 45; refine hw3.mono ?_; rintro e w1 ⟨rfl, hA1, hk1⟩; have hc1 := hA1.c1; have hf1 := hA1.fr 1; have hg1 := g.moved hA1 hk1 hqs)
                | (go_at_call 50; refine (HC.out _ (hg1.step hlt)).mono ?_; rintro e w2 ⟨rfl, hB2⟩))
              rw [← HRes.out]
              exact ⟨rfl, rfl, hB2⟩
            | ok l2 p2 v2 =>
              clear hres hc110 hc116 hc102 hc34 hc45 hc91 hc123 hcn hlq htl
              go_enter Tryd.func33, Tryd.ntmps33
              go_wp2_with (first
                | (go_at_call 45; refine hw3.mono ?_; rintro e w1 ⟨rfl, hA1, hk1⟩; have hc1 := hA1.c1; have hf1 := hA1.fr 1; have hg1 := g.moved hA1 hk1 hqs)
                | (go_at_call 50; refine (HC.out _ (hg1.step hlt)).mono ?_; rintro e w2 ⟨rfl, hl2, hp2, hR2⟩; have HL2 := Aside0.mk hl2; clear hl2; have hR3 : Grew w0 b s p2 ok tv v2.1 _ w2 := hR2; clear hR2))
              go_ret
              rw [← HRes.out]
              exact ⟨rfl, HL2.out, hp2, hR3.from (hk1.set_ 1 _)⟩
          · rw [if_neg hbl] at hres
            have e91 : (cn == 91) = false := hc91.trans (decide_eq_false hbl)
            have e123 : (cn == 123) = true := hc123.trans (decide_eq_true (hbr.resolve_left hbl))
            clear hbr hbl
            have hcw := fun (w1 : World) (h : Given w0 b s (q + 1) ok tv t w1) => HOT.out deep q (q + 1) ok tv t w1 h hd15 hfu
            generalize hrw : objectF f deep q (s.data.toList.drop (q + 1)) (q + 1) t = rw1 at *
            clear hrw
            have HC := Aside0.mk hcw
            have HRes := Aside0.mk hres
            clear hcw
            cases rw1 with
            | no pp ee =>
              clear hres hc110 hc116 hc102 hc34 hc45 hc91 hc123 hcn hlq htl
              go_enter Tryd.func33, Tryd.ntmps33
              go_wp2_with (first
                | (go_at_call 45; refine hw3.mono ?_; rintro e w1 ⟨rfl, hA1, hk1⟩; have hc1 := hA1.c1; have hf1 := hA1.fr 1; have hg1 := g.moved hA1 hk1 hqs)
                | (go_at_call 51; refine (HC.out _ (hg1.step hlt)).mono ?_; rintro e w2 ⟨rfl, hB2⟩))
              rw [← HRes.out]
              exact ⟨rfl, rfl, hB2⟩
            | ok l2 p2 v2 =>
              clear hres hc110 hc116 hc102 hc34 hc45 hc91 hc123 hcn hlq htl
              go_enter Tryd.func33, Tryd.ntmps33
              go_wp2_with (first
                | (go_at_call 45; refine hw3.mono ?_; rintro e w1 ⟨rfl, hA1, hk1⟩; have hc1 := hA1.c1; have hf1 := hA1.fr 1; have hg1 := g.moved hA1 hk1 hqs)
                | (go_at_call 51; refine (HC.out _ (hg1.step hlt)).mono ?_; rintro e w2 ⟨rfl, hl2, hp2, hR2⟩; have HL2 := Aside0.mk hl2; clear hl2; have hR3 : Grew w0 b s p2 ok tv v2.1 _ w2 := hR2; clear hR2))
              go_ret
              rw [← HRes.out]
              exact ⟨rfl, HL2.out, hp2, hR3.from (hk1.set_ 1 _)⟩
      · rw [if_neg hbr] at hres
        have e91 : (cn == 91) = false := hc91.trans (decide_eq_false (fun e => hbr (.inl e)))
        have e123 : (cn == 123) = false := hc123.trans (decide_eq_false (fun e => hbr (.inr e)))
        have HRes := Aside0.mk hres
        clear hbr
        clear hres hc110 hc116 hc102 hc34 hc45 hc91 hc123 hcn hlq htl
        go_enter Tryd.func33, Tryd.ntmps33
        go_wp2_with (first
          | (go_at_call 45; refine hw3.mono ?_; rintro e w1 ⟨rfl, hA1, hk1⟩; have hc1 := hA1.c1; have hf1 := hA1.fr 1; have hg1 := g.moved hA1 hk1 hqs)
          | (go_at_call 35; refine (fail_walk _ _ _).mono ?_; rintro e w2 ⟨rfl, rfl⟩))
        rw [← HRes.out]
        exact ⟨rfl, rfl, hA1.2.1⟩
end Go.Proofs.YtldlkoncndlbhaaDoor.Js
set_option linter.unusedVariables false
set_option linter.unusedSimpArgs false
namespace Go.Proofs.YtldlkoncndlbhaaDoor.Js
open Go.RowKit Go.Lib Go.Proofs.YtldlkoncndlbhaaDoor.PSh
/-- What is read ends no earlier than it began. -/
def Adv {α : Type} (p : Nat) (r : R α) : Prop := ∀ l' p' v, r = .ok l' p' v → p ≤ p'
theorem Adv.no {α : Type} (p q : Nat) (e : Int) : Adv p (.no q e : R α) := fun _ _ _ h => by cases h
theorem Adv.ok {α : Type} {p q : Nat} (l : List UInt8) (v : α) (h : p ≤ q) : Adv p (.ok l q v) := fun _ _ _ e => by cases e; exact h
theorem Adv.bind {α β : Type} {p : Nat} {r : R α} {g : List UInt8 → Nat → α → R β} (h : Adv p r) (hg : ∀ l q v, r = .ok l q v → p ≤ q → Adv p (g l q v)) : Adv p (r.bind g) := by
  cases r with
  | no q e => exact Adv.no _ _ _
  | ok l q v => exact hg l q v rfl (h l q v rfl)
theorem Adv.weaken {α : Type} {p q : Nat} {r : R α} (h : Adv q r) (hp : p ≤ q) : Adv p r := fun l' p' v e => Nat.le_trans hp (h l' p' v e)
theorem Adv.ite {α : Type} {p : Nat} {c : Prop} [Decidable c] {x y : R α} (hx : Adv p x) (hy : Adv p y) : Adv p (if c then x else y) := by split; exact hx; exact hy
theorem adv_here (l : List UInt8) (p : Nat) : Adv p (here l p) := fun l' q c h => here_adv l p l' q c h
theorem adv_word : ∀ (v l : List UInt8) (p : Nat), Adv p (word v l p)
  | [], l, p => Adv.ok _ _ (Nat.le_refl _)
  | c :: v, [], p => Adv.no _ _ _
  | c :: v, x :: l, p => by
    rw [word_cons]
    exact Adv.ite ((adv_word v l (p + 1)).weaken (Nat.le_succ _)) (Adv.no _ _ _)
theorem adv_number (l : List UInt8) (p : Nat) : Adv p (number l p) := by
  unfold number
  exact Adv.ite (Adv.ok _ _ (Nat.le_add_right _ _)) (Adv.no _ _ _)
theorem adv_textGo : ∀ (f : Nat) (l : List UInt8) (p : Nat) (out : List UInt8), Adv p (textGo f l p out)
  | 0, l, p, out => Adv.no _ _ _
  | f + 1, [], p, out => Adv.no _ _ _
  | f + 1, c :: r, p, out => by
    rw [textGo_cons]
    refine Adv.ite (Adv.ok _ _ (Nat.le_succ _)) (Adv.ite (Adv.no _ _ _) (Adv.ite ?_ (Adv.ite (Adv.no _ _ _) ?_)))
    · exact Adv.bind (fun l' p' m h => by have := escape_adv _ _ _ _ _ h; omega) fun l q v h hq => (adv_textGo f l q _).weaken hq
    · exact (adv_textGo f _ _ _).weaken (Nat.le_add_right _ _)
theorem adv_text (l : List UInt8) (p : Nat) : Adv p (text l p) := adv_textGo _ _ _ _
theorem adv_put (t : List S39) (fr : Nat) (v : S39) (l : List UInt8) (p : Nat) : Adv p (put t fr v l p) := by
  unfold put
  exact Adv.ite (Adv.no _ _ _) (Adv.ok _ _ (Nat.le_refl _))
theorem adv_more (fin : UInt8) (l : List UInt8) (p : Nat) : Adv (p + 1) (more fin l p) := by
  unfold more
  intro l' p' v h
  have h1 := adv_here l p
  generalize here l p = r at *
  cases r with
  | no q e => cases h
  | ok l1 q c =>
    have := h1 l1 q c rfl
    rw [R.bind_ok] at h
    split at h
    · cases h; omega
    · cases h
theorem list_succ (f deep fr : Nat) (kids : List Int) (l : List UInt8) (p : Nat) (t : List S39) : list (f + 1) deep fr kids l p t = (value f (deep + 1) l p t).bind fun l1 p1 v => (more 93 l1 p1).bind fun l2 p2 done =>
    if done = true then put v.1 fr ⟨5, false, 0, ⟨#[]⟩, [], kids ++ [v.2]⟩ l2 p2 else list f deep fr (kids ++ [v.2]) l2 p2 v.1 := by rw [list]
theorem object_succ (f deep fr : Nat) (names : List ByteArray) (kids : List Int) (l0 : List UInt8) (p0 : Nat) (t : List S39) : object (f + 1) deep fr names kids l0 p0 t = (here l0 p0).bind fun l p c =>
    if c = 34 then (text l.tail (p + 1)).bind fun l1 p1 s =>
      if containsS names (str s) = true then .no p 28
      else (here l1 p1).bind fun l2 p2 c2 =>
        if c2 = 58 then (value f (deep + 1) l2.tail (p2 + 1) t).bind fun l3 p3 v => (more 125 l3 p3).bind fun l4 p4 done =>
          if done = true then put v.1 fr ⟨6, false, 0, ⟨#[]⟩, names ++ [str s], kids ++ [v.2]⟩ l4 p4 else object f deep fr (names ++ [str s]) (kids ++ [v.2]) l4 p4 v.1
        else .no p2 22
    else .no p 22 := by rw [object]
theorem adv_all : ∀ f, (∀ deep l p t, Adv p (value f deep l p t)) ∧ (∀ deep fr kids l p t, Adv p (list f deep fr kids l p t)) ∧ (∀ deep fr names kids l p t, Adv p (object f deep fr names kids l p t))
  | 0 => ⟨fun _ _ _ _ => by rw [value]; exact Adv.no _ _ _, fun _ _ _ _ _ _ => by rw [list]; exact Adv.no _ _ _, fun _ _ _ _ _ _ _ => by rw [object]; exact Adv.no _ _ _⟩
  | f + 1 => by
    obtain ⟨hv, hl, ho⟩ := adv_all f
    refine ⟨fun deep l p t => ?_, fun deep fr kids l p t => ?_, fun deep fr names kids l p t => ?_⟩
    · rw [value_succ]
      refine Adv.bind (adv_here l p) fun l1 q c _ hq => ?_
      unfold valueOn
      refine Adv.ite ?_ (Adv.ite ?_ (Adv.ite ?_ (Adv.ite ?_ (Adv.ite ?_ (Adv.ite (Adv.ite (Adv.no _ _ _) (Adv.ite ?_ ?_)) (Adv.no _ _ _))))))
      · exact Adv.bind ((adv_word _ _ _).weaken hq) fun _ _ _ _ h => (adv_put _ _ _ _ _).weaken h
      · exact Adv.bind ((adv_word _ _ _).weaken hq) fun _ _ _ _ h => (adv_put _ _ _ _ _).weaken h
      · exact Adv.bind ((adv_word _ _ _).weaken hq) fun _ _ _ _ h => (adv_put _ _ _ _ _).weaken h
      · exact Adv.bind ((adv_text _ _).weaken (by omega)) fun _ _ _ _ h => (adv_put _ _ _ _ _).weaken h
      · exact Adv.bind ((adv_number _ _).weaken hq) fun _ _ _ _ h => (adv_put _ _ _ _ _).weaken h
      · unfold listF
        exact Adv.bind ((adv_here _ _).weaken (by omega)) fun _ _ _ _ h => Adv.ite ((adv_put _ _ _ _ _).weaken (by omega)) ((hl _ _ _ _ _ _).weaken h)
      · unfold objectF
        exact Adv.bind ((adv_here _ _).weaken (by omega)) fun _ _ _ _ h => Adv.ite ((adv_put _ _ _ _ _).weaken (by omega)) ((ho _ _ _ _ _ _ _).weaken h)
    · rw [list_succ]
      refine Adv.bind (hv _ _ _ _) fun _ _ _ _ h => Adv.bind ((adv_more _ _ _).weaken (by omega)) fun _ _ _ _ h2 => Adv.ite ((adv_put _ _ _ _ _).weaken h2) ((hl _ _ _ _ _ _).weaken h2)
    · rw [object_succ]
      refine Adv.bind (adv_here _ _) fun _ _ _ _ h => Adv.ite (Adv.bind ((adv_text _ _).weaken (by omega)) fun _ _ _ _ h2 => Adv.ite (Adv.no _ _ _) (Adv.bind ((adv_here _ _).weaken h2) fun _ _ _ _ h3 => Adv.ite (Adv.bind ((hv _ _ _ _).weaken (by omega)) fun _ _ _ _ h4 => Adv.bind ((adv_more _ _ _).weaken (by omega)) fun _ _ _ _ h5 => Adv.ite ((adv_put _ _ _ _ _).weaken h5) ((ho _ _ _ _ _ _ _).weaken h5)) (Adv.no _ _ _))) (Adv.no _ _ _)
end Go.Proofs.YtldlkoncndlbhaaDoor.Js
set_option linter.unusedVariables false
set_option linter.unusedSimpArgs false
namespace Go.Proofs.YtldlkoncndlbhaaDoor.Js
open Go.RowKit Go.Lib Go.Proofs.YtldlkoncndlbhaaDoor.PSh
theorem here_cons {c : UInt8} (h : blank c = false) (r : List UInt8) (p : Nat) : here (c :: r) p = .ok (c :: r) p c := by
  unfold here
  rw [show gapLen (c :: r) = 0 by rw [gapLen, h]; rfl]
  rfl
theorem value_cons {c : UInt8} (h : blank c = false) (f deep : Nat) (r : List UInt8) (p : Nat) (t : List S39) : value (f + 1) deep (c :: r) p t = valueOn f deep t (c :: r) p c := by
  rw [value_succ, here_cons h, R.bind_ok]
theorem value_list (f deep : Nat) (r : List UInt8) (p : Nat) (t : List S39) (hd : ¬ 16 ≤ deep) : value (f + 1) deep (91 :: r) p t = listF f deep p r (p + 1) t := by
  rw [value_cons rfl]
  unfold valueOn
  rw [if_neg (by decide), if_neg (by decide), if_neg (by decide), if_neg (by decide), if_neg (by decide), if_pos (by decide), if_neg hd, if_pos rfl]
  rfl
theorem value_object (f deep : Nat) (r : List UInt8) (p : Nat) (t : List S39) (hd : ¬ 16 ≤ deep) : value (f + 1) deep (123 :: r) p t = objectF f deep p r (p + 1) t := by
  rw [value_cons rfl]
  unfold valueOn
  rw [if_neg (by decide), if_neg (by decide), if_neg (by decide), if_neg (by decide), if_neg (by decide), if_pos (by decide), if_neg hd, if_neg (by decide)]
  rfl
theorem value_number {c : UInt8} (hc : c = 45 ∨ (48 ≤ c.toNat ∧ c.toNat ≤ 57)) (f deep : Nat) (r : List UInt8) (p : Nat) (t : List S39) :
    value (f + 1) deep (c :: r) p t = (number (c :: r) p).bind fun l1 p1 n => put t p ⟨3, false, n, ⟨#[]⟩, [], []⟩ l1 p1 := by
  have hn : ∀ k : UInt8, k.toNat ≠ 45 → (k.toNat < 48 ∨ 57 < k.toNat) → c ≠ k := by
    rintro k h1 h2 rfl
    rcases hc with rfl | h
    · exact h1 rfl
    · omega
  rw [value_cons (by
    unfold blank
    rw [beq_false_of_ne (hn 32 (by decide) (by decide)), beq_false_of_ne (hn 9 (by decide) (by decide)), beq_false_of_ne (hn 10 (by decide) (by decide)), beq_false_of_ne (hn 13 (by decide) (by decide))]
    rfl)]
  unfold valueOn
  rw [if_neg (hn 110 (by decide) (by decide)), if_neg (hn 116 (by decide) (by decide)), if_neg (hn 102 (by decide) (by decide)), if_neg (hn 34 (by decide) (by decide)), if_pos hc]
theorem listF_end (f deep fr : Nat) (r : List UInt8) (p : Nat) (t : List S39) : listF f deep fr (93 :: r) p t = put t fr ⟨5, false, 0, ⟨#[]⟩, [], []⟩ r (p + 1) := by
  unfold listF
  rw [here_cons rfl, R.bind_ok, if_pos rfl]
  rfl
theorem listF_on {c : UInt8} (hb : blank c = false) (hc : c ≠ 93) (f deep fr : Nat) (r : List UInt8) (p : Nat) (t : List S39) : listF f deep fr (c :: r) p t = list f deep fr [] (c :: r) p t := by
  unfold listF
  rw [here_cons hb, R.bind_ok, if_neg hc]
theorem objectF_on {c : UInt8} (hb : blank c = false) (hc : c ≠ 125) (f deep fr : Nat) (r : List UInt8) (p : Nat) (t : List S39) : objectF f deep fr (c :: r) p t = object f deep fr [] [] (c :: r) p t := by
  unfold objectF
  rw [here_cons hb, R.bind_ok, if_neg hc]
theorem more_end {fin : UInt8} (hb : blank fin = false) (r : List UInt8) (p : Nat) : more fin (fin :: r) p = .ok r (p + 1) true := by
  unfold more
  rw [here_cons hb, R.bind_ok, if_pos (.inr rfl)]
  simp
theorem more_comma {fin : UInt8} (hf : fin ≠ 44) (r : List UInt8) (p : Nat) : more fin (44 :: r) p = .ok r (p + 1) false := by
  unfold more
  rw [here_cons rfl, R.bind_ok, if_pos (.inl rfl)]
  rw [show ((44 : UInt8) == fin) = false from beq_false_of_ne (Ne.symm hf)]
  rfl
theorem put_small {t : List S39} (h : t.length < 8192) (fr : Nat) (v : S39) (l : List UInt8) (p : Nat) : put t fr v l p = .ok l p (t ++ [v], (t.length : Int)) := by
  unfold put
  rw [if_neg (by omega)]
theorem textGo_end (f : Nat) (r : List UInt8) (p : Nat) (out : List UInt8) : textGo (f + 1) (34 :: r) p out = .ok r (p + 1) out := by
  rw [textGo_cons, if_pos rfl]
/-! Brackets in brackets -/
/-- What opens the bracket that has so many within, itself counted. -/
def piece (obj : Bool) (m : Nat) : List UInt8 := if obj = true ∧ 1 < m then [123, 34, 107, 34, 58] else [91]
def fin (obj : Bool) (m : Nat) : UInt8 := if obj = true ∧ 1 < m then 125 else 93
def pre (obj : Bool) : Nat → List UInt8
  | 0 => []
  | m + 1 => piece obj (m + 1) ++ pre obj m
def suf (obj : Bool) : Nat → List UInt8
  | 0 => []
  | m + 1 => suf obj m ++ [fin obj (m + 1)]
def bw (obj : Bool) : Nat := if obj = true then 5 else 1
/-! The texts as the loop lays them: so many rounds done. -/
def sI (obj : Bool) (n : Nat) : Nat → List UInt8
  | 0 => []
  | i + 1 => sI obj n i ++ piece obj (n - i)
def eI (obj : Bool) (n : Nat) : Nat → List UInt8
  | 0 => []
  | i + 1 => fin obj (n - i) :: eI obj n i
end Go.Proofs.YtldlkoncndlbhaaDoor.Js
