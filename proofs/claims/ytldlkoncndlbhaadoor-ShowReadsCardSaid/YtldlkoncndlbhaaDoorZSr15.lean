/- YtldlkoncndlbhaaDoorZSr15: texts of the seat (Reader12, Close, Json, Rw, BytesOf, SameJ, SameE, ShowReads), one behind the other, without what this claim's theorem does not rest on. -/
import Derived.Test.YtldlkoncndlbhaaDoorZSr14
import Derived.Defers
import Derived.Recover
import Derived.BigQuiet
import Derived.Lib.OthersKept
import Derived.Lib.AppendStr
import Derived.Lib.BufferWrite
import Derived.Maps.AppendAt
import Derived.Laws.OwnMore
import Derived.Test.YtldlkoncndlbhaaDoorRows
import Derived.ChangeSlices

set_option linter.unusedVariables false
namespace Go.Proofs.YtldlkoncndlbhaaDoor.Js
open Go.RowKit Go.Lib Go.Proofs.YtldlkoncndlbhaaDoor.PSh Go.Proofs.YtldlkoncndlbhaaDoor.Np Go.Proofs.YtldlkoncndlbhaaDoorW.PrintWords
theorem value_below (w0 : World) (b : Nat) (s : ByteArray) (hG : Aside0 (Glob w0)) (hGN : Aside0 (GlobN w0)) (hs : s.size ≤ 65536) : ∀ f g, g < f → VT w0 b s g
  | 0, g, h => absurd h (Nat.not_lt_zero _)
  | f + 1, 0, _ => fun _ _ _ _ _ _ _ _ hf => absurd hf (Nat.not_lt_zero _)
  | f + 1, g + 1, h => value_step w0 b s g hG hGN hs
      (list_step w0 b s g hs (fun k hk => value_below w0 b s hG hGN hs f k (by omega)))
      (object_step w0 b s g hG hs (fun k hk => value_below w0 b s hG hGN hs f k (by omega)))
theorem value_walk (w0 : World) (b : Nat) (s : ByteArray) (hG : Aside0 (Glob w0)) (hGN : Aside0 (GlobN w0)) (hs : s.size ≤ 65536) (f : Nat) : VT w0 b s f := value_below w0 b s hG hGN hs (f + 1) f (Nat.lt_succ_self f)
end Go.Proofs.YtldlkoncndlbhaaDoor.Js
set_option linter.unusedVariables false
set_option linter.unusedSimpArgs false
namespace Go.Proofs.YtldlkoncndlbhaaDoor.Js
open Go.RowKit Go.Lib Go.Proofs.YtldlkoncndlbhaaDoor.PSh Go.Proofs.YtldlkoncndlbhaaDoor.Np Go.Proofs.YtldlkoncndlbhaaDoorW.PrintWords Go.Proofs.YtldlkoncndlbhaaDoorW.PrintLast Go.Proofs.YtldlkoncndlbhaaDoorW.PrintMore
def close.T5 : Bool × List (List Nat × List Nat) := (true, [([], []), ([0], [0]), ([], []), ([2], [2]), ([], []), ([1, 4, 0, 1, 4], [1]), ([3, 5, 0, 1, 2, 3, 4, 5], [3])])
def close.B5 : List Nat := [0, 1, 0, 4, 0, 19, 63]
theorem close.tab5 : rtab .any (opsOf Tryd.f32 5) = close.T5 := by kernel_rfl
theorem close.bits5 : waitsOk close.T5.2 close.B5 = true := by kernel_rfl
set_option maxHeartbeats 4000000 in
set_option maxRecDepth 100000 in
theorem close_idle (p q r : Addr) (w : World) :
    CallsD Tryd.prog 32 #[.pointer (some p), .pointer (some q), .pointer (some r)] .returning w fun e u' w' => e = .returned (.tuple #[]) ∧ u' = .returning ∧ w' = w := by
  refine callsD_of_wpS Tryd.func32 rfl fun c₀ cs hu => ?_
  apply wpS_seq
  apply wpS_region
  simp [wpOpsS, go_sem, recoverD, hu, Tryd.ntmps32, Exit.thenS]
  apply wpS_seq
  apply wpS_region
  simp [wpOpsS, go_sem, recoverD, hu, Exit.thenS, Array.replicate]
  refine wpS_cond (t := false) (by simp [Act.eval, Array.replicate]) ?_
  simp only [Bool.false_eq_true, if_false]
  refine wpS_of_wp (wp_skip ?_)
  cases c₀
  simp_all [bodyPostS, results, Tryd.results32]
set_option maxHeartbeats 4000000 in
set_option maxRecDepth 100000 in
theorem close_stopped (g : Nat) (tv : Value) (z y pp ee : Int) (older : List PanicEntry) (w : World)
    (hp : w.heap[g]? = some (.cells #[tv] 23 (0, 0))) (hq : w.heap[g + 1]? = some (.cells #[.int .i64 z] 3 (0, 0))) (hr : w.heap[g + 2]? = some (.cells #[.int .i64 y] 25 (0, 0))) :
    CallsD Tryd.prog 32 #[.pointer (some ⟨g, 0, none⟩), .pointer (some ⟨g + 1, 0, none⟩), .pointer (some ⟨g + 2, 0, none⟩)] (.panicking ({ v := .iface 67 (.agg #[.int .i64 pp, .int .i64 ee]), recovered := false } :: older)) w fun e u' w' =>
      e = .returned (.tuple #[]) ∧ u' = .panicking ({ v := .iface 67 (.agg #[.int .i64 pp, .int .i64 ee]), recovered := true } :: older) ∧ Below g w w' ∧ w'.cell? ⟨g, 0, none⟩ = some (.slice none 0 0) ∧ w'.cell? ⟨g + 1, 0, none⟩ = some (.int .i64 pp) ∧ w'.cell? ⟨g + 2, 0, none⟩ = some (.int .i64 ee) := by
  refine callsD_of_wpS Tryd.func32 rfl fun c₀ cs hu => ?_
  apply wpS_seq
  apply wpS_region
  simp [wpOpsS, go_sem, recoverD, hu, Tryd.ntmps32, Exit.thenS]
  apply wpS_seq
  apply wpS_region
  simp [wpOpsS, go_sem, recoverD, hu, Exit.thenS, Array.replicate]
  refine wpS_cond (t := true) (by simp [Act.eval, Array.replicate]) ?_
  simp only [if_true]
  refine wpS_of_wp ?_
  have hta : ∀ (v : Value) (W : World), (Instr.typeAssert (.iface 67 v) 20 67 true).run Tryd.prog W = .ok (.tuple #[v, .bool true]) W := fun v W => by
    have h1 := Tryd.underlying67
    simp [Instr.typeAssert, h1, go_sem]
  have hgl := blk_lt hr
  go_wp2
  have hB0 : Below w.heap.size w (w.alloc (.cells #[.int .i64 pp, .int .i64 ee] 67)).drew := below_drew (below_alloc (Below.refl _ _) _)
  have hb0 := blk_drew (blk_new w (.cells #[.int .i64 pp, .int .i64 ee] 67))
  go_wp2_with fail
  refine start_ (n := 7) (S := fun w' => w'.cell? ⟨w.heap.size, 0, none⟩ = some (.int .i64 pp) ∧ w'.cell? ⟨w.heap.size, 1, none⟩ = some (.int .i64 ee)) (ds := [6]) #[false, false, false, false, false, false, false] (by kernel_rfl) rfl rfl ⟨blk_cell hb0 0, blk_cell hb0 1⟩ (fun hHeld => ?_)
  refine with_tabW close.tab5 close.bits5 (fun HT_ HW_ => ?_)
  have hpw := blk_below hp hB0
  have hqw := blk_below hq hB0
  have hrw := blk_below hr hB0
  generalize (w.alloc (.cells #[.int .i64 pp, .int .i64 ee] 67)).drew = W0 at *
  have hfp := blk_frozen hpw 0
  have hcp := blk_cell hpw 0
  refine pure_ (i := 0) (N := some 17) (v := ?_) (a' := ?_) #[true, false, false, false, false, false, false] rfl rfl (any_of HT_.out (by kernel_rfl)) (fun _ _ _ h => h) (Or.inl ⟨by rfl, ?_⟩) ?_ ?_
  rotate_left
  · intro w'
    go_simp
    with_reducible rfl
  rotate_left
  · simp only [Act.put, List.setIfInBounds_toArray, List.set_cons_zero, List.set_cons_succ, i64_w, i32_w]
    rfl
  refine take_ (i := 1) (N := some 18) (v := ?_) (a' := ?_) #[true, true, false, false, false, false, false] rfl rfl (take_ofW HT_.out HW_.out (by kernel_rfl)) (fun _ _ _ h => h) (Or.inl ⟨by rfl, ?_⟩) hHeld ?_ ?_
  rotate_left
  · rintro w' ⟨s0, s1⟩
    go_simp
    with_reducible rfl
  rotate_left
  · simp only [Act.put, List.setIfInBounds_toArray, List.set_cons_zero, List.set_cons_succ, i64_w, i32_w]
    rfl
  refine pure_ (i := 2) (N := some 19) (v := ?_) (a' := ?_) #[true, true, true, false, false, false, false] rfl rfl (any_of HT_.out (by kernel_rfl)) (fun _ _ _ h => h) (Or.inl ⟨by rfl, ?_⟩) ?_ ?_
  rotate_left
  · intro w'
    go_simp
    with_reducible rfl
  rotate_left
  · simp only [Act.put, List.setIfInBounds_toArray, List.set_cons_zero, List.set_cons_succ, i64_w, i32_w]
    rfl
  refine take_ (i := 3) (N := some 20) (v := ?_) (a' := ?_) #[true, true, true, true, false, false, false] rfl rfl (take_ofW HT_.out HW_.out (by kernel_rfl)) (fun _ _ _ h => h) (Or.inl ⟨by rfl, ?_⟩) hHeld ?_ ?_
  rotate_left
  · rintro w' ⟨s0, s1⟩
    go_simp
    with_reducible rfl
  rotate_left
  · simp only [Act.put, List.setIfInBounds_toArray, List.set_cons_zero, List.set_cons_succ, i64_w, i32_w]
    rfl
  refine one_ (i := 4) (N := none) #[true, true, true, true, true, false, false] rfl rfl (one_of HT_.out (by kernel_rfl)) (by decide) (fun K hK => ?_)
  refine skip_ (w1 := W0.setCell ⟨g, 0, none⟩ (.slice none 0 0)) (by rfl) rfl (by go_simp; try rfl) ?_
  have hb1 := blk_far hb0 (p := ⟨g, 0, none⟩) (by show w.heap.size ≠ g; omega) (.slice none 0 0)
  have hq1 := blk_far hqw (p := ⟨g, 0, none⟩) (by show g + 1 ≠ g; omega) (.slice none 0 0)
  have hr1 := blk_far hrw (p := ⟨g, 0, none⟩) (by show g + 2 ≠ g; omega) (.slice none 0 0)
  have hp1 := blk_put hpw 0 (.slice none 0 0) rfl
  have hfq := blk_frozen hq1 0
  have hcq := blk_cell hq1 0
  refine hK.out _ _ ⟨blk_cell hb1 0, blk_cell hb1 1⟩ (fun hh => ?_)
  clear hK K
  refine one_ (i := 5) (N := none) #[true, true, true, true, true, true, false] rfl rfl (one_of HT_.out (by kernel_rfl)) (by decide) (fun K hK => ?_)
  refine skip_ (w1 := (W0.setCell ⟨g, 0, none⟩ (.slice none 0 0)).setCell ⟨g + 1, 0, none⟩ (.int .i64 pp)) (by rfl) rfl (by go_simp; try rfl) ?_
  have hb2 := blk_far hb1 (p := ⟨g + 1, 0, none⟩) (by show w.heap.size ≠ g + 1; omega) (.int .i64 pp)
  have hr2 := blk_far hr1 (p := ⟨g + 1, 0, none⟩) (by show g + 2 ≠ g + 1; omega) (.int .i64 pp)
  have hp2 := blk_far hp1 (p := ⟨g + 1, 0, none⟩) (by show g ≠ g + 1; omega) (.int .i64 pp)
  have hq2 := blk_put hq1 0 (.int .i64 pp) rfl
  have hfr := blk_frozen hr2 0
  have hcr := blk_cell hr2 0
  refine hK.out _ _ ⟨blk_cell hb2 0, blk_cell hb2 1⟩ (fun hh => ?_)
  clear hK K
  refine last_skip (i := 6) (w1 := (((W0.setCell ⟨g, 0, none⟩ (.slice none 0 0)).setCell ⟨g + 1, 0, none⟩ (.int .i64 pp)).setCell ⟨g + 2, 0, none⟩ (.int .i64 ee))) #[true, true, true, true, true, true, true] rfl rfl (one_of HT_.out (by kernel_rfl)) (by decide) rfl (by go_simp; try rfl) ?_
  refine done_ (done_of HT_.out (by kernel_rfl)) ?_
  -- behind the stores
  have hp3 := blk_far hp2 (p := ⟨g + 2, 0, none⟩) (by show g ≠ g + 2; omega) (.int .i64 ee)
  have hq3 := blk_far hq2 (p := ⟨g + 2, 0, none⟩) (by show g + 1 ≠ g + 2; omega) (.int .i64 ee)
  have hr3 := blk_put hr2 0 (.int .i64 ee) rfl
  have hBB := (((hB0.mono (show g ≤ w.heap.size by omega)).setCell (p := ⟨g, 0, none⟩) (Nat.le_refl _) (.slice none 0 0)).setCell (p := ⟨g + 1, 0, none⟩) (Nat.le_succ _) (.int .i64 pp)).setCell (p := ⟨g + 2, 0, none⟩) (by show g ≤ g + 2; omega) (.int .i64 ee)
  have HF := Aside0.mk (And.intro hBB (And.intro (blk_cell hp3 0) (And.intro (blk_cell hq3 0) (blk_cell hr3 0))))
  clear hp3 hq3 hr3 hBB hp2 hq2 hr2 hp1 hq1 hr1 hb1 hb2 hpw hqw hrw hb0 hB0 hfp hcp hfq hcq hfr hcr hta hp hq hr
  cases c₀
  simp +zetaDelta [bodyPostS, results, Tryd.results32]
  exact HF.out
end Go.Proofs.YtldlkoncndlbhaaDoor.Js
set_option linter.unusedVariables false
set_option linter.unusedSimpArgs false
namespace Go.Proofs.YtldlkoncndlbhaaDoor.Js
open Go.RowKit Go.Lib Go.Proofs.YtldlkoncndlbhaaDoor.PSh Go.Proofs.YtldlkoncndlbhaaDoor.Np Go.Proofs.YtldlkoncndlbhaaDoorW.PrintWords Go.Proofs.YtldlkoncndlbhaaDoorW.PrintLast Go.Proofs.YtldlkoncndlbhaaDoorW.PrintMore
/-- What json.Parse leaves: a tree in a row of its own, place 0, number 0; or no tree, the place and the number. -/
def ParseEnds (w : World) (r : R (List S39)) : Ending → World → Prop := fun e w' => Below w.heap.size w w' ∧ match r with
  | .ok _ _ t => ∃ tv, e = .returned (.tuple #[tv, .int .i64 0, .int .i64 0]) ∧ Kd.R k39 39 w' w.heap.size (fun _ => True) tv t
  | .no p n => e = .returned (.tuple #[.slice none 0 0, .int .i64 (p : Int), .int .i64 n])
set_option maxHeartbeats 8000000 in
set_option maxRecDepth 100000 in
theorem parse_walk (w : World) (A : Option Addr) (c : Nat) (s : ByteArray) (hG : Glob w) (hGN : GlobN w) (hs : s.size ≤ 65536) (hr : ReadsInt w .u8 A s.size (bytesOf s)) :
    Calls Tryd.prog 19 #[.slice A s.size c] w (ParseEnds w (parse s.data.toList)) := by
  have hln := data_length s
  unfold parse
  rw [if_neg (by omega)]
  have hmf : ∀ (fn : Fn) (first cap : Array Value) (w : World), (Instr.makeFunc fn first cap).run Tryd.prog w = .ok (.func fn first cap) w := fun _ _ _ _ => rfl
  have h1 : decide ((65536 : Int) < (s.size : Int)) = false := decide_eq_false (by omega)
  have hB := below_alloc (below_alloc (below_alloc (Below.refl w.heap.size w) (.cells #[.slice none 0 0] 23)) (.cells #[.int .i64 0] 3)) (.cells #[.int .i64 0] 25)
  have hcv : ∀ W, Below w.heap.size w W → (convert 30 9 (.slice A s.size c)).run Tryd.prog W = .ok (.string s) W := fun W hW => by
    have := string_of_reads (P := Tryd.prog) (src := 30) (dst := 9) (e := 5) (c := c) Tryd.underlying30 Tryd.underlying5 Tryd.underlying9 (hr.below hW)
    rw [this]
    unfold bytesOf
    rw [strOfNums_bytes]
  have hcv1 := hcv _ hB
  obtain ⟨W3, hW3⟩ : ∃ W3, ((w.alloc (.cells #[.slice none 0 0] 23)).alloc (.cells #[.int .i64 0] 3)).alloc (.cells #[.int .i64 0] 25) = W3 := ⟨_, rfl⟩
  have hsz : W3.heap.size = w.heap.size + 1 + 1 + 1 := by rw [← hW3]; simp
  rw [hW3] at hB hcv1
  have hAt : At W3 W3.heap.size s ((0 : Nat) : Int) (.slice none 0 0) (W3.alloc (.cells #[.string s, .int .i64 0, .slice none 0 0] 65)) := ⟨Nat.le_refl _, below_alloc (Below.refl _ _) _, blk_new _ _⟩
  have hGv : Given W3 W3.heap.size s 0 (fun _ => True) (.slice none 0 0) [] (W3.alloc (.cells #[.string s, .int .i64 0, .slice none 0 0] 65)) := ⟨⟨hAt, Kd.R_nil _ _ _ _ _⟩, fun _ _ => trivial, Nat.zero_le _⟩
  have hvw := value_walk W3 W3.heap.size s ⟨hG.below hB⟩ ⟨hGN.below hB⟩ hs (2 * s.data.toList.length + 2) 0 0 _ _ _ _ hGv (by omega) (by omega)
  have hb0 : W3.heap[w.heap.size]? = some (.cells #[.slice none 0 0] 23 (0, 0)) := by rw [← hW3]; exact blk_below (blk_below (blk_new _ _) (below_alloc (Below.refl _ _) _)) (below_alloc (Below.refl _ _) _)
  have hb1 : W3.heap[w.heap.size + 1]? = some (.cells #[.int .i64 0] 3 (0, 0)) := by
    rw [← hW3]
    have h := blk_new (w.alloc (.cells #[.slice none 0 0] 23)) (.cells #[.int .i64 0] 3)
    have e : (w.alloc (.cells #[.slice none 0 0] 23)).heap.size = w.heap.size + 1 := by simp
    rw [e] at h
    exact blk_below h (below_alloc (Below.refl _ _) _)
  have hb2 : W3.heap[w.heap.size + 2]? = some (.cells #[.int .i64 0] 25 (0, 0)) := by
    rw [← hW3]
    have h := blk_new ((w.alloc (.cells #[.slice none 0 0] 23)).alloc (.cells #[.int .i64 0] 3)) (.cells #[.int .i64 0] 25)
    have e : ((w.alloc (.cells #[.slice none 0 0] 23)).alloc (.cells #[.int .i64 0] 3)).heap.size = w.heap.size + 2 := by simp
    rw [e] at h
    exact h
  rw [List.drop_zero, hsz] at hvw
  generalize value (2 * s.data.toList.length + 2) 0 s.data.toList 0 [] = rv at *
  cases rv with
  | no pp ee =>
    rw [R.bind_no]
    clear hcv
    go_enter_defers Tryd.func19, Tryd.ntmps19
    go_wp2_with (go_at_call 33; refine hvw.mono ?_; rintro e w4 ⟨rfl, hB4⟩)
    refine leaves_cons (f := 32) (args := #[.pointer (some ⟨w.heap.size, 0, none⟩), .pointer (some ⟨w.heap.size + 1, 0, none⟩), .pointer (some ⟨w.heap.size + 1 + 1, 0, none⟩)]) (by simp) (by simp [go_sem]) ?_
    refine (close_stopped w.heap.size (.slice none 0 0) 0 0 (pp : Int) ee [] w4 ((hB4.block _ (blk_lt hb0)).trans hb0) ((hB4.block _ (blk_lt hb1)).trans hb1) ((hB4.block _ (blk_lt hb2)).trans hb2)).mono ?_
    rintro e u' w5 ⟨rfl, rfl, hB5, hc0, hc1, hc2⟩
    simp [Leaves, settle, results, Tryd.results19, go_sem, hc0, hc1, hc2]
    exact ⟨(below_then hB hB.size hB4).trans hB5, rfl⟩
  | ok l p v =>
    rw [R.bind_ok]
    clear hcv
    by_cases hq : l = s.data.toList.drop p ∧ p ≤ s.size
    rotate_left
    · have HQ := Aside0.mk hq
      clear hq
      go_enter_defers Tryd.func19, Tryd.ntmps19
      go_wp2_with (go_at_call 33; refine hvw.mono ?_; rintro e w4 ⟨rfl, hl4, hp4, hR4⟩; exact absurd ⟨hl4, hp4⟩ HQ.out)
    obtain ⟨hl, hps⟩ := hq
    subst hl
    have hgp : (s.data.toList.drop p).drop (gapLen (s.data.toList.drop p)) = s.data.toList.drop (p + gapLen (s.data.toList.drop p)) := List.drop_drop
    rw [hgp]
    have hgw := fun (W : World) (tv : Value) (h : At W3 (w.heap.size + 1 + 1 + 1) s (p : Int) tv W) => gap_walk W3 W (w.heap.size + 1 + 1 + 1) s p tv h hps hs
    have hgle : p + gapLen (s.data.toList.drop p) ≤ s.size := by
      have h1 := gap_le (s.data.toList.drop p)
      rw [List.length_drop, hln] at h1
      omega
    clear hgp
    generalize p + gapLen (s.data.toList.drop p) = q at *
    have HGW := Aside0.mk hgw
    clear hgw
    by_cases hend : s.data.toList.drop q = []
    rotate_left
    · rw [if_neg hend]
      have hql : q < s.size := by
        rcases Nat.lt_or_ge q s.size with h | h
        · exact h
        · exact absurd (List.drop_eq_nil_of_le (by omega)) hend
      have hd : decide ((q : Int) < (s.size : Int)) = true := decide_eq_true (by omega)
      have hd2 : decide (q < s.size) = true := decide_eq_true hql
      have HE := Aside0.mk hend
      clear hend
      go_enter_defers Tryd.func19, Tryd.ntmps19
      go_wp2_with (first
        | (go_at_call 33; refine hvw.mono ?_; rintro e w4 ⟨rfl, -, -, tv', hR4, hk4, hrw4⟩)
        | (go_at_call 34; refine (HGW.out w4 tv' hR4.1).mono ?_; rintro e w5 ⟨rfl, hA5, hk5⟩; have hc0 := hA5.c0; have hc1 := hA5.c1))
      go_quiet (fail)
      go_wp2_with (go_at_call 35; refine (fail_walk _ _ _).mono ?_; rintro e w6 ⟨rfl, rfl⟩)
      have hB6 : ∀ n, Below W3.heap.size W3 (w5.drewN n) := fun n => (hA5.drewN n).2.1
      refine leaves_cons (f := 32) (args := #[.pointer (some ⟨w.heap.size, 0, none⟩), .pointer (some ⟨w.heap.size + 1, 0, none⟩), .pointer (some ⟨w.heap.size + 1 + 1, 0, none⟩)]) (by simp) (by simp [go_sem]) ?_
      refine (close_stopped w.heap.size (.slice none 0 0) 0 0 (q : Int) 22 [] _ (((hB6 _).block _ (blk_lt hb0)).trans hb0) (((hB6 _).block _ (blk_lt hb1)).trans hb1) (((hB6 _).block _ (blk_lt hb2)).trans hb2)).mono ?_
      rintro e u' w7 ⟨rfl, rfl, hB7, hc70, hc71, hc72⟩
      simp [Leaves, settle, results, Tryd.results19, go_sem, hc70, hc71, hc72]
      exact ⟨(below_then hB hB.size (hB6 _)).trans hB7, rfl⟩
    · rw [if_pos hend]
      have hql : s.size ≤ q := by
        have := List.drop_eq_nil_iff.1 hend
        omega
      have hd : decide ((q : Int) < (s.size : Int)) = false := decide_eq_false (by omega)
      have hd2 : decide (q < s.size) = false := decide_eq_false (by omega)
      have HE := Aside0.mk hend
      clear hend
      go_enter_defers Tryd.func19, Tryd.ntmps19
      go_wp2_with (first
        | (go_at_call 33; refine hvw.mono ?_; rintro e w4 ⟨rfl, -, -, tv', hR4, hk4, hrw4⟩)
        | (go_at_call 34; refine (HGW.out w4 tv' hR4.1).mono ?_; rintro e w5 ⟨rfl, hA5, hk5⟩; have hc0 := hA5.c0; have hc1 := hA5.c1; have hc2 := hA5.c2; have hR5 := hR4.moved hA5 hk5))
      have hp5 := (hA5.2.1.block _ (blk_lt hb0)).trans hb0
      have hq5 := (hA5.2.1.block _ (blk_lt hb1)).trans hb1
      have hr5 := (hA5.2.1.block _ (blk_lt hb2)).trans hb2
      obtain ⟨A', c', rfl⟩ := hR5.slice
      have hfp := blk_frozen hp5 0
      have hcp := blk_cell hp5 0
      have hfq := blk_frozen hq5 0
      have hcq := blk_cell hq5 0
      have hfr := blk_frozen hr5 0
      have hcr := blk_cell hr5 0
      go_quiet (fail)
      go_wp2
      have hdr : Below w5.heap.size w5 (w5.drewN nq) := pw_below_drewN (Below.refl _ _) _
      have hA6 := hA5.drewN nq
      have hR6 := hR5.below hdr
      have hp6 := blk_below hp5 hdr
      have hq6 := blk_below hq5 hdr
      have hr6 := blk_below hr5 hdr
      generalize w5.drewN nq = W6 at *
      have e0 := blk_cell (blk_far (blk_far (blk_put hp6 0 (.slice A' v.1.length c') rfl) (p := ⟨w.heap.size + 1, 0, none⟩) (by show w.heap.size ≠ w.heap.size + 1; omega) (.int .i64 0)) (p := ⟨w.heap.size + 1 + 1, 0, none⟩) (by show w.heap.size ≠ w.heap.size + 1 + 1; omega) (.int .i64 0)) 0
      have e1 := blk_cell (blk_far (blk_put (blk_far hq6 (p := ⟨w.heap.size, 0, none⟩) (by show w.heap.size + 1 ≠ w.heap.size; omega) (.slice A' v.1.length c')) 0 (.int .i64 0) rfl) (p := ⟨w.heap.size + 1 + 1, 0, none⟩) (by show w.heap.size + 1 ≠ w.heap.size + 1 + 1; omega) (.int .i64 0)) 0
      have e2 := blk_cell (blk_put (blk_far (blk_far hr6 (p := ⟨w.heap.size, 0, none⟩) (by show w.heap.size + 2 ≠ w.heap.size; omega) (.slice A' v.1.length c')) (p := ⟨w.heap.size + 1, 0, none⟩) (by show w.heap.size + 2 ≠ w.heap.size + 1; omega) (.int .i64 0)) 0 (.int .i64 0) rfl) 0
      have hBf : Below w.heap.size w (((W6.setCell ⟨w.heap.size, 0, none⟩ (.slice A' v.1.length c')).setCell ⟨w.heap.size + 1, 0, none⟩ (.int .i64 0)).setCell ⟨w.heap.size + 1 + 1, 0, none⟩ (.int .i64 0)) :=
        (((below_then hB hB.size hA6.2.1).setCell (p := ⟨w.heap.size, 0, none⟩) (Nat.le_refl _) _).setCell (p := ⟨w.heap.size + 1, 0, none⟩) (Nat.le_succ _) _).setCell (p := ⟨w.heap.size + 1 + 1, 0, none⟩) (by show w.heap.size ≤ w.heap.size + 1 + 1; omega) _
      have hRf := Kd.R_far (Kd.R_far (Kd.R_far (Kd.R_bound hR6.2) (p := ⟨w.heap.size, 0, none⟩) (fun k hk => by have := hk.2.1; show k ≠ w.heap.size; omega) (.slice A' v.1.length c')) (p := ⟨w.heap.size + 1, 0, none⟩) (fun k hk => by have := hk.2.1; show k ≠ w.heap.size + 1; omega) (.int .i64 0)) (p := ⟨w.heap.size + 1 + 1, 0, none⟩) (fun k hk => by have := hk.2.1; show k ≠ w.heap.size + 1 + 1; omega) (.int .i64 0)
      have HF := Aside0.mk (And.intro hBf (Kd.R_lower (Kd.R_mono (ok' := fun _ => True) hRf (fun _ _ => trivial)) (show w.heap.size ≤ W3.heap.size by omega)))
      clear hBf hRf
      refine leaves_cons (f := 32) (args := #[.pointer (some ⟨w.heap.size, 0, none⟩), .pointer (some ⟨w.heap.size + 1, 0, none⟩), .pointer (some ⟨w.heap.size + 1 + 1, 0, none⟩)]) (by simp) (by simp [go_sem]) ?_
      refine (close_idle _ _ _ _).mono ?_
      rintro e u' w7 ⟨rfl, rfl, rfl⟩
      generalize ((W6.setCell ⟨w.heap.size, 0, none⟩ (.slice A' v.1.length c')).setCell ⟨w.heap.size + 1, 0, none⟩ (.int .i64 0)).setCell ⟨w.heap.size + 1 + 1, 0, none⟩ (.int .i64 0) = W9 at *
      simp [Leaves, settle, results, Tryd.results19, go_sem, e0, e1, e2]
      exact ⟨HF.out.1, _, rfl, HF.out.2⟩
end Go.Proofs.YtldlkoncndlbhaaDoor.Js
set_option linter.unusedVariables false
set_option linter.unusedSimpArgs false
namespace Go.Proofs.YtldlkoncndlbhaaDoor.Js
open Go.RowKit Go.Lib Go.Proofs.YtldlkoncndlbhaaDoorW.PrintWords Go.Proofs.YtldlkoncndlbhaaDoorW.PrintLast Go.Proofs.YtldlkoncndlbhaaDoorW.PrintMore
def numsOf (t : List UInt8) : List Int := t.map fun b => (b.toNat : Int)
theorem numsOf_length (t : List UInt8) : (numsOf t).length = t.length := List.length_map _
/-- A row of bytes of the call's own; nothing below has turned; of what stood in 'a' only rows of bytes have. -/
def Rw (w0 a : World) (v : Value) (out : List UInt8) (w : World) : Prop :=
  w.ownsRow w0.heap.size 5 1 v out.length (byteCells out) ∧ Below w0.heap.size w0 w ∧ OthersKept 5 none a w
section
variable {w0 a0 w w' : World} {v : Value} {out : List UInt8}
theorem Rw.lt (h : Rw w0 a0 v out w) : ∀ k, v.ownBlock = some k → w0.heap.size ≤ k ∧ k < w.heap.size := h.1.lt
theorem own_kind (h : w.ownsRow w0.heap.size 5 1 v out.length (byteCells out)) : ∀ g, v.ownBlock = some g → ∃ c fz, w.heap[g]? = some (.cells c 5 fz) := fun g hg => by
  rcases h.2 with ⟨rfl, _⟩ | ⟨g', cap, cur, rfl, _, hh, _⟩
  · simp [Value.ownBlock] at hg
  · simp [Value.ownBlock] at hg
    subst hg
    exact ⟨_, _, hh⟩
theorem byteCells_length (a : List UInt8) : (byteCells a).length = a.length := List.length_map _
section
variable {ops : Array Oper} {rest : List Oper} {o : Oper} {a : Act} {Q : Exit → Act → World → Prop} {K : Act → World → Prop}
/-- append(out, bytes...). -/
theorem app_law (hgd : o.guard = none) (s x : Operand) (ho : o.op = .call { callee := .builtin .append, args := #[s, x], argTypes := #[30, 30] })
    (hR : Rw w0 a0 v out w) (t : List UInt8) (ad : Addr) (m c : Nat) (hm : t.length = m) (hs : a.eval s = v) (hx : a.eval x = .slice (some ad) m c)
    (hcell : ∀ j u, (byteCells t)[j]? = some u → w.cell? (ad.add j) = some u) (hlen : out.length + m ≤ 140737488355328)
    (h : ∀ v1 w1, Rw w0 a0 v1 (out ++ t) w1 → w.grownBy w1 v.ownBlock → (v1.ownBlock = v.ownBlock ∨ v1.ownBlock = some w.heap.size) → wpList Tryd.prog ops Q rest (a.put o.dst v1) w1) :
    wpList Tryd.prog ops Q (o :: rest) a w := by
  subst hm
  obtain ⟨i0, hi, hz0, hz1, hz2⟩ := info_parts infoByte
  refine wpList_append_own_at w hgd s x 30 ho w0.heap.size 5 i0 (.int .u8 0) 1 1 Tryd.underlying30 hi hz0 hz1 hz2 rfl (by decide) v out.length (byteCells out) hs hR.1 ad t.length c (byteCells t) hx (by rw [byteCells_length, Nat.mul_one]) hcell (byteCells_one t) (by unfold maxLen; omega) (by omega) hR.2.1.size ?_
  intro v1 w1 hown hg _ hat
  exact h v1 w1 ⟨by rw [List.length_append, byteCells_append]; exact hown, hR.2.1.grown hg hR.2.1.size (fun k hk => (hR.lt k hk).1), hR.2.2.grown hg (own_kind hR.1)⟩ hg hat
end
end
theorem Rw.reads {w0 a w : World} {v : Value} {out : List UInt8} (h : Rw w0 a v out w) (hm : out.length ≤ 140737488355328) : ∃ A c, v = .slice A out.length c ∧ ReadsInt w .u8 A out.length (numsOf out) := by
  have hl := numsOf_length out
  rcases Nat.eq_zero_or_pos out.length with h0 | h0
  · rcases h.1.2 with ⟨rfl, _⟩ | ⟨g, cap, cur, rfl, _⟩
    · refine ⟨none, 0, by rw [h0], ?_⟩
      exact ⟨hl, by omega, fun e => by omega⟩
    · exact ⟨_, _, rfl, hl, by omega, fun e => by omega⟩
  · obtain ⟨g, cap, rfl, _, _⟩ := h.1.form h0
    have hc := h.1.cells (g := g) rfl
    refine ⟨_, _, rfl, hl, by omega, fun _ => ⟨⟨g, 0, none⟩, rfl, fun j hj => ?_⟩⟩
    refine hc j _ ?_
    unfold byteCells numsOf
    rw [List.getElem?_map, List.getD_eq_getElem?_getD, List.getElem?_map, List.getElem?_eq_getElem hj]
    rfl
/-- A literal's row is the call's own. -/
theorem Rw.lit (w0 a w : World) (hb : Below w0.heap.size w0 w) (hk : OthersKept 5 none a w) (t : List UInt8) (cs : Array Value) (hc : cs.toList = byteCells t) (hs : t.length ≤ 1000) :
    Rw w0 a (.slice (some ⟨w.heap.size, 0, none⟩) t.length t.length) t (w.alloc (.cells cs 5)) := by
  have hsz : cs.size = t.length := by rw [← Array.length_toList, hc, byteCells_length]
  refine ⟨?_, below_alloc hb _, fun k x hk' h1 h2 => ?_⟩
  · have h := World.ownsRow_lit (e := 5) (size := 1) w cs t.length hb.size (by unfold maxLen; omega) (by omega)
    rw [hc] at h
    exact h
  · have hw := hk k x hk' h1 h2
    exact ((below_alloc (Below.refl w.heap.size w) _).block k (Array.getElem?_eq_some_iff.1 hw).1).trans hw
theorem Rw.reads' {w0 a w : World} {v : Value} {out : List UInt8} (h : Rw w0 a v out w) (hm : out.length ≤ 140737488355328) : ∃ A c, v = .slice A (str out).size c ∧ ReadsInt w .u8 A (str out).size (bytesOf (str out)) := by
  obtain ⟨A, c, rfl, hr⟩ := h.reads hm
  exact ⟨A, c, rfl, hr⟩
section
variable {w0 a0 w : World} {v : Value} {out : List UInt8} {ops : Array Oper} {rest : List Oper} {o1 o2 : Oper} {a : Act} {Q : Exit → Act → World → Prop}
end
end Go.Proofs.YtldlkoncndlbhaaDoor.Js
set_option linter.unusedVariables false
set_option linter.unusedSimpArgs false
namespace Go.Proofs.YtldlkoncndlbhaaDoor.Js
open Go.ChangeShapes Go.WideShapes Go.RowKit Go.Lib Go.Proofs.YtldlkoncndlbhaaDoorW.PrintWords Go.Proofs.YtldlkoncndlbhaaDoorW.PrintLast Go.Proofs.YtldlkoncndlbhaaDoorW.PrintMore
/-- A slice that was given: bytes that lie there; it has an address if it has a byte, or it is nil. -/
def Gvn (w : World) (A : Option Addr) (xs : List UInt8) (c : Nat) : Prop := xs.length ≤ c ∧ c ≤ 9223372036854775807 ∧ ReadsInt w .u8 A xs.length (bytesOf (str xs)) ∧ (A = none → c = 0)
theorem Gvn.below {w w' : World} {A : Option Addr} {xs : List UInt8} {c : Nat} (h : Gvn w A xs c) (hb : Below w.heap.size w w') : Gvn w' A xs c := ⟨h.1, h.2.1, h.2.2.1.below hb, h.2.2.2⟩
theorem bytes_of {H : Type} {enc : TypeId × Value → H} {W : World} {base : Nat} {spare : Nat → Bool} {held : Bool} {fuel : Nat} {cs : List Value} {x : DataW H × List MemPlace} (h : DataW.trod enc Tryd.prog W base spare held fuel 30 cs = some x) :
    ∃ (A : Option Addr) (c : Nat) (xs : List UInt8), cs = [.slice A xs.length c] ∧ Gvn W A xs c := by
  rcases open_ints Tryd.underlying30 Tryd.underlying5 (by kernel_rfl) h with ⟨rfl, rfl⟩ | ⟨a, len, cap, zs, rfl, _, hl, hm, hlen, rfl, hcell, hwf⟩
  · exact ⟨none, 0, [], rfl, Nat.le_refl _, by decide, ⟨rfl, by decide, fun h => absurd h (Nat.lt_irrefl 0)⟩, fun _ => rfl⟩
  · have hls : len ≤ zs.length := by rw [hlen]; split <;> omega
    have hlt : ((zs.take len).map fun z => UInt8.ofNat z.toNat).length = len := by rw [List.length_map, List.length_take]; omega
    have hm' : cap ≤ 9223372036854775807 := hm
    refine ⟨some a, cap, (zs.take len).map fun z => UInt8.ofNat z.toNat, by rw [hlt], by rw [hlt]; exact hl, hm', ?_, fun h => by cases h⟩
    rw [hlt]
    have hb : bytesOf (str ((zs.take len).map fun z => UInt8.ofNat z.toNat)) = (zs.take len) := by
      show List.map (fun b : UInt8 => (b.toNat : Int)) ((zs.take len).map fun z => UInt8.ofNat z.toNat) = _
      rw [List.map_map]
      conv => rhs; rw [← List.map_id (zs.take len)]
      refine List.map_congr_left fun z hz => ?_
      have hw := hwf z (List.mem_of_mem_take hz)
      simp only [Lit.wf, Bool.and_eq_true, decide_eq_true_eq, IntKind.min, IntKind.max, IntKind.signed, IntKind.bits] at hw
      simp at hw
      show ((UInt8.ofNat z.toNat).toNat : Int) = z
      rw [UInt8.toNat_ofNat']
      omega
    rw [hb]
    refine ⟨by rw [List.length_take]; omega, by omega, fun _ => ⟨a, rfl, fun j hj => ?_⟩⟩
    rw [hcell j (by omega), List.getD_eq_getElem?_getD, List.getD_eq_getElem?_getD, List.getElem?_take, if_pos hj]
/-- The cells of a slice that was given. -/
theorem Gvn.cells {w : World} {ad : Addr} {xs : List UInt8} {c : Nat} (h : Gvn w (some ad) xs c) : ∀ j u, (byteCells xs)[j]? = some u → w.cell? (ad.add j) = some u := by
  intro j u hu
  unfold byteCells at hu
  rw [List.getElem?_map] at hu
  cases hx : xs[j]? with
  | none => rw [hx] at hu; cases hu
  | some b =>
    rw [hx] at hu
    have hj : j < xs.length := (List.getElem?_eq_some_iff.1 hx).1
    obtain ⟨ad', e, hc⟩ := h.2.2.1.2.2 (by omega)
    obtain rfl := Option.some.inj e
    rw [hc j hj]
    have : (bytesOf (str xs)).getD j 0 = (b.toNat : Int) := by
      show (List.map (fun b : UInt8 => (b.toNat : Int)) xs).getD j 0 = _
      rw [List.getD_eq_getElem?_getD, List.getElem?_map, hx]
      rfl
    rw [this]
    exact hu
end Go.Proofs.YtldlkoncndlbhaaDoor.Js
set_option linter.unusedVariables false
set_option linter.unusedSimpArgs false
namespace Go.Proofs.YtldlkoncndlbhaaDoor.Js
open Go.RowKit Go.Lib Go.Proofs.YtldlkoncndlbhaaDoor.PSh Go.Proofs.YtldlkoncndlbhaaDoor.Np Go.Proofs.YtldlkoncndlbhaaDoorW.PrintWords Go.Proofs.YtldlkoncndlbhaaDoorW.PrintLast Go.Proofs.YtldlkoncndlbhaaDoorW.PrintMore
theorem wrap_succ (q : Nat) (h : q < 9223372036854775807) : wrap64 ((q : Int) + 1) = (q : Int) + 1 := by unfold wrap64; omega
def same.T6 : Bool × List (List Nat × List Nat) := (true, [([], []), ([], []), ([0, 1], [0, 1]), ([2], [2]), ([], []), ([], []), ([4, 5], [4, 5]), ([6], [6]), ([], []), ([], []), ([8, 3, 0, 1, 2, 3, 8, 9], [3, 8]), ([9, 7, 10, 0, 1, 2, 3, 4, 5, 6, 7, 8, 9, 10], [7, 9])])
def same.B6 : List Nat := [0, 0, 3, 7, 0, 0, 48, 112, 0, 0, 783, 2047]
theorem same.tab6 : rtab .any (opsOf Tryd.f21 6) = same.T6 := by kernel_rfl
theorem same.bits6 : waitsOk same.T6.2 same.B6 = true := by kernel_rfl
set_option maxHeartbeats 8000000 in
set_option maxRecDepth 100000 in
theorem same_walk (l : List S39) (ga gb : Nat) (ca cb : Nat) (w : World) (ha : Kd.C k39 w (some ⟨ga, 0, none⟩) l.length l) (hb : Kd.C k39 w (some ⟨gb, 0, none⟩) l.length l) :
    Calls Tryd.prog 21 #[.slice (some ⟨ga, 0, none⟩) l.length ca, .slice (some ⟨gb, 0, none⟩) l.length cb] w fun e w' => e = .returned (.bool true) ∧ Below w.heap.size w w' := by
  go_enter Tryd.func21, Tryd.ntmps21
  go_wp2
  go_loopw [5] (fun i wr => ∃ j : Nat, j ≤ l.length ∧ i = .int .i64 j ∧ Below w.heap.size w wr) (fun i _ => l.length - (RowKit.intOf i).toNat)
  case atStart => exact ⟨0, Nat.zero_le _, rfl, Below.refl _ _⟩
  case round =>
    obtain ⟨j, hj, rfl, hbr⟩ := hrel
    by_cases hlt : j < l.length
    · have hll : ((j : Int) < (l.length : Int)) = True := eq_true (by omega)
      have HWJ := Aside0.mk (wrap_succ j (Nat.lt_of_lt_of_le hlt (Kd.C_max ha)))
      obtain ⟨ad, A4, c4, A5, c5, e0, hx0, hx1, hx2, hx3, hx4, hx5, hl4, hC4, hl5, hC5⟩ := at_T39 (Kd.C_below ha hbr) (j : Int) (by omega) (by omega)
      obtain ⟨bd, B4, d4, B5, d5, e1, hy0, hy1, hy2, hy3, hy4, hy5, hm4, hD4, hm5, hD5⟩ := at_T39 (Kd.C_below hb hbr) (j : Int) (by omega) (by omega)
      obtain rfl := Option.some.inj e0
      obtain rfl := Option.some.inj e1
      have ea : ∀ g : Nat, (⟨g, 0, none⟩ : Addr).add ((j : Int).toNat * 6) = ⟨g, j * 6, none⟩ := fun g => by rw [Int.toNat_natCast]; exact Go.Proofs.YtldlkoncndlbhaaDoorW.PrintWords.add_plain g (j * 6)
      rw [ea] at hx0 hx1 hx2 hx3 hx4 hx5 hy0 hy1 hy2 hy3 hy4 hy5
      dsimp only at hx1 hx2 hx3 hx4 hx5 hy1 hy2 hy3 hy4 hy5
      clear ea e0 e1
      generalize rd_T39 l (j : Int) = v at *
      obtain ⟨f0, f1, f2, f3, f4, f5⟩ := v
      dsimp only at *
      go_wp2
      refine start_ (n := 12) (S := fun w' => w'.cell? ⟨ga, j * 6, none⟩ = some (.int .i64 f0) ∧ w'.cell? ⟨ga, j * 6 + 1, none⟩ = some (.bool f1) ∧ w'.cell? ⟨ga, j * 6 + 2, none⟩ = some (.int .i64 f2) ∧ w'.cell? ⟨ga, j * 6 + 3, none⟩ = some (.string f3) ∧ w'.cell? ⟨ga, j * 6 + 4, none⟩ = some (.slice A4 f4.length c4) ∧ w'.cell? ⟨ga, j * 6 + 5, none⟩ = some (.slice A5 f5.length c5) ∧ w'.cell? ⟨gb, j * 6, none⟩ = some (.int .i64 f0) ∧ w'.cell? ⟨gb, j * 6 + 1, none⟩ = some (.bool f1) ∧ w'.cell? ⟨gb, j * 6 + 2, none⟩ = some (.int .i64 f2) ∧ w'.cell? ⟨gb, j * 6 + 3, none⟩ = some (.string f3) ∧ w'.cell? ⟨gb, j * 6 + 4, none⟩ = some (.slice B4 f4.length d4) ∧ w'.cell? ⟨gb, j * 6 + 5, none⟩ = some (.slice B5 f5.length d5)) (ds := [11]) #[false, false, false, false, false, false, false, false, false, false, false, false] (by kernel_rfl) rfl rfl ⟨hx0, hx1, hx2, hx3, hx4, hx5, hy0, hy1, hy2, hy3, hy4, hy5⟩ (fun hHeld => ?_)
      refine with_tabW same.tab6 same.bits6 (fun HT_ HW_ => ?_)
      have hbD : Below wr.heap.size wr wr.drew := below_drew (Below.refl _ _)
      have hxs := hHeld
      generalize wr.drew = W0 at *
      refine pure_ (i := 0) (N := some 21) (v := ?_) (a' := ?_) #[true, false, false, false, false, false, false, false, false, false, false, false] rfl rfl (any_of HT_.out (by kernel_rfl)) (fun _ _ _ h => h) (Or.inl ⟨by rfl, ?_⟩) ?_ ?_
      rotate_left
      · intro w'
        go_simp
        with_reducible rfl
      rotate_left
      · simp only [Act.put, List.setIfInBounds_toArray, List.set_cons_zero, List.set_cons_succ, i64_w, i32_w]
        rfl
      refine pure_ (i := 1) (N := some 22) (v := ?_) (a' := ?_) #[true, true, false, false, false, false, false, false, false, false, false, false] rfl rfl (any_of HT_.out (by kernel_rfl)) (fun _ _ _ h => h) (Or.inl ⟨by rfl, ?_⟩) ?_ ?_
      rotate_left
      · intro w'
        go_simp
        with_reducible rfl
      rotate_left
      · simp only [Act.put, List.setIfInBounds_toArray, List.set_cons_zero, List.set_cons_succ, i64_w, i32_w]
        rfl
      refine pure_ (i := 2) (N := some 23) (v := ?_) (a' := ?_) #[true, true, true, false, false, false, false, false, false, false, false, false] rfl rfl (any_of HT_.out (by kernel_rfl)) (fun _ _ _ h => h) (Or.inl ⟨by rfl, ?_⟩) ?_ ?_
      rotate_left
      · intro w'
        go_simp
        with_reducible rfl
      rotate_left
      · simp only [Act.put, List.setIfInBounds_toArray, List.set_cons_zero, List.set_cons_succ, i64_w, i32_w]
        rfl
      refine pure_ (i := 4) (N := some 25) (v := ?_) (a' := ?_) #[true, true, true, false, true, false, false, false, false, false, false, false] rfl rfl (any_of HT_.out (by kernel_rfl)) (fun _ _ _ h => h) (Or.inl ⟨by rfl, ?_⟩) ?_ ?_
      rotate_left
      · intro w'
        go_simp
        with_reducible rfl
      rotate_left
      · simp only [Act.put, List.setIfInBounds_toArray, List.set_cons_zero, List.set_cons_succ, i64_w, i32_w]
        rfl
      refine pure_ (i := 5) (N := some 26) (v := ?_) (a' := ?_) #[true, true, true, false, true, true, false, false, false, false, false, false] rfl rfl (any_of HT_.out (by kernel_rfl)) (fun _ _ _ h => h) (Or.inl ⟨by rfl, ?_⟩) ?_ ?_
      rotate_left
      · intro w'
        go_simp
        with_reducible rfl
      rotate_left
      · simp only [Act.put, List.setIfInBounds_toArray, List.set_cons_zero, List.set_cons_succ, i64_w, i32_w]
        rfl
      refine pure_ (i := 6) (N := some 27) (v := ?_) (a' := ?_) #[true, true, true, false, true, true, true, false, false, false, false, false] rfl rfl (any_of HT_.out (by kernel_rfl)) (fun _ _ _ h => h) (Or.inl ⟨by rfl, ?_⟩) ?_ ?_
      rotate_left
      · intro w'
        go_simp
        with_reducible rfl
      rotate_left
      · simp only [Act.put, List.setIfInBounds_toArray, List.set_cons_zero, List.set_cons_succ, i64_w, i32_w]
        rfl
      refine take_ (i := 3) (N := some 24) (v := ?_) (a' := ?_) #[true, true, true, true, true, true, true, false, false, false, false, false] rfl rfl (take_ofW HT_.out HW_.out (by kernel_rfl)) (fun _ _ _ h => h) (Or.inl ⟨by rfl, ?_⟩) hHeld ?_ ?_
      rotate_left
      · rintro w' ⟨s0, s1, s2, s3, s4, s5, s6, s7, s8, s9, s10, s11⟩
        go_simp
        with_reducible rfl
      rotate_left
      · simp only [Act.put, List.setIfInBounds_toArray, List.set_cons_zero, List.set_cons_succ, i64_w, i32_w]
        rfl
      refine take_ (i := 7) (N := some 28) (v := ?_) (a' := ?_) #[true, true, true, true, true, true, true, true, false, false, false, false] rfl rfl (take_ofW HT_.out HW_.out (by kernel_rfl)) (fun _ _ _ h => h) (Or.inl ⟨by rfl, ?_⟩) hHeld ?_ ?_
      rotate_left
      · rintro w' ⟨s0, s1, s2, s3, s4, s5, s6, s7, s8, s9, s10, s11⟩
        go_simp
        with_reducible rfl
      rotate_left
      · simp only [Act.put, List.setIfInBounds_toArray, List.set_cons_zero, List.set_cons_succ, i64_w, i32_w]
        rfl
      have hS : ∀ W, Below W0.heap.size W0 W → W.cell? ⟨ga, j * 6, none⟩ = some (.int .i64 f0) ∧ W.cell? ⟨ga, j * 6 + 1, none⟩ = some (.bool f1) ∧ W.cell? ⟨ga, j * 6 + 2, none⟩ = some (.int .i64 f2) ∧ W.cell? ⟨ga, j * 6 + 3, none⟩ = some (.string f3) ∧ W.cell? ⟨ga, j * 6 + 4, none⟩ = some (.slice A4 f4.length c4) ∧ W.cell? ⟨ga, j * 6 + 5, none⟩ = some (.slice A5 f5.length c5) ∧ W.cell? ⟨gb, j * 6, none⟩ = some (.int .i64 f0) ∧ W.cell? ⟨gb, j * 6 + 1, none⟩ = some (.bool f1) ∧ W.cell? ⟨gb, j * 6 + 2, none⟩ = some (.int .i64 f2) ∧ W.cell? ⟨gb, j * 6 + 3, none⟩ = some (.string f3) ∧ W.cell? ⟨gb, j * 6 + 4, none⟩ = some (.slice B4 f4.length d4) ∧ W.cell? ⟨gb, j * 6 + 5, none⟩ = some (.slice B5 f5.length d5) := fun W hW => by
        obtain ⟨s0, s1, s2, s3, s4, s5, s6, s7, s8, s9, s10, s11⟩ := hHeld
        exact ⟨pw_cell_below hW s0, pw_cell_below hW s1, pw_cell_below hW s2, pw_cell_below hW s3, pw_cell_below hW s4, pw_cell_below hW s5, pw_cell_below hW s6, pw_cell_below hW s7, pw_cell_below hW s8, pw_cell_below hW s9, pw_cell_below hW s10, pw_cell_below hW s11⟩
      refine join_ (σ := Nat × Nat) 2 #[true, true, true, true, true, true, true, true, true, true, false, false] (fun s => [(6, .pointer (some ⟨s.1, 0, none⟩)), (7, .pointer (some ⟨s.2, 0, none⟩))]) (fun s w' => s.1 ≠ s.2 ∧ W0.heap.size ≤ s.1 ∧ W0.heap.size ≤ s.2 ∧ Below W0.heap.size W0 w' ∧ w'.heap[s.1]? = some (.cells #[.int .i64 0, .bool false, .int .i64 0, .string ⟨#[]⟩, .slice none 0 0, .slice none 0 0] 39 (0, 0)) ∧ w'.heap[s.2]? = some (.cells #[.int .i64 0, .bool false, .int .i64 0, .string ⟨#[]⟩, .slice none 0 0, .slice none 0 0] 39 (0, 0))) ?cont ?orders
      case orders =>
        intro hjoin
        have hz1 : (W0.alloc (.cells #[.int .i64 0, .bool false, .int .i64 0, .string ⟨#[]⟩, .slice none 0 0, .slice none 0 0] 39)).heap.size = W0.heap.size + 1 := Array.size_push _
        have hB1 : Below W0.heap.size W0 (W0.alloc (.cells #[.int .i64 0, .bool false, .int .i64 0, .string ⟨#[]⟩, .slice none 0 0, .slice none 0 0] 39)) := below_alloc (Below.refl _ _) _
        have hn1 : (W0.alloc (.cells #[.int .i64 0, .bool false, .int .i64 0, .string ⟨#[]⟩, .slice none 0 0, .slice none 0 0] 39)).heap[W0.heap.size]? = some (.cells #[.int .i64 0, .bool false, .int .i64 0, .string ⟨#[]⟩, .slice none 0 0, .slice none 0 0] 39 (0, 0)) := blk_new _ _
        obtain ⟨W1, hW1⟩ : ∃ W1, W0.alloc (.cells #[.int .i64 0, .bool false, .int .i64 0, .string ⟨#[]⟩, .slice none 0 0, .slice none 0 0] 39) = W1 := ⟨_, rfl⟩
        rw [hW1] at hz1 hB1 hn1
        have hB2 : Below W0.heap.size W0 (W1.alloc (.cells #[.int .i64 0, .bool false, .int .i64 0, .string ⟨#[]⟩, .slice none 0 0, .slice none 0 0] 39)) := below_alloc hB1 _
        have hn2 : (W1.alloc (.cells #[.int .i64 0, .bool false, .int .i64 0, .string ⟨#[]⟩, .slice none 0 0, .slice none 0 0] 39)).heap[W1.heap.size]? = some (.cells #[.int .i64 0, .bool false, .int .i64 0, .string ⟨#[]⟩, .slice none 0 0, .slice none 0 0] 39 (0, 0)) := blk_new _ _
        have hn3 : (W1.alloc (.cells #[.int .i64 0, .bool false, .int .i64 0, .string ⟨#[]⟩, .slice none 0 0, .slice none 0 0] 39)).heap[W0.heap.size]? = some (.cells #[.int .i64 0, .bool false, .int .i64 0, .string ⟨#[]⟩, .slice none 0 0, .slice none 0 0] 39 (0, 0)) := blk_below hn1 (below_alloc (Below.refl _ _) _)
        refine two_ (i := 8) (j := 9) (Ni := some 6) (Nj := some 7) #[true, true, true, true, true, true, true, true, true, false, false, false] #[true, true, true, true, true, true, true, true, false, true, false, false] rfl rfl rfl rfl (two_of HT_.out (by kernel_rfl)) (by decide) (by decide) (fun K hK => ?_) (fun K hK => ?_)
        · refine value_ (v := .pointer (some ⟨W0.heap.size, 0, none⟩)) (w1 := W1) (by rfl) rfl (by rw [← hW1]; first | (go_simp; done) | (go_simp; rfl)) ?_
          refine hK.out _ _ (hS _ hB1) (fun hh => ?_)
          clear hK K
          refine one_ (i := 9) (N := some 7) #[true, true, true, true, true, true, true, true, true, true, false, false] rfl rfl (one_of HT_.out (by kernel_rfl)) (by decide) (fun K hK => ?_)
          refine value_ (v := .pointer (some ⟨W1.heap.size, 0, none⟩)) (w1 := W1.alloc (.cells #[.int .i64 0, .bool false, .int .i64 0, .string ⟨#[]⟩, .slice none 0 0, .slice none 0 0] 39)) (by rfl) rfl (by first | (go_simp; done) | (go_simp; rfl)) ?_
          refine hK.out _ _ (hS _ hB2) (fun hh2 => ?_)
          clear hK K
          exact hjoin (W0.heap.size, W1.heap.size) _ ⟨by show W0.heap.size ≠ W1.heap.size; omega, Nat.le_refl _, by show W0.heap.size ≤ W1.heap.size; omega, hB2, hn3, hn2⟩
        · refine value_ (v := .pointer (some ⟨W0.heap.size, 0, none⟩)) (w1 := W1) (by rfl) rfl (by rw [← hW1]; first | (go_simp; done) | (go_simp; rfl)) ?_
          refine hK.out _ _ (hS _ hB1) (fun hh => ?_)
          clear hK K
          refine one_ (i := 8) (N := some 6) #[true, true, true, true, true, true, true, true, true, true, false, false] rfl rfl (one_of HT_.out (by kernel_rfl)) (by decide) (fun K hK => ?_)
          refine value_ (v := .pointer (some ⟨W1.heap.size, 0, none⟩)) (w1 := W1.alloc (.cells #[.int .i64 0, .bool false, .int .i64 0, .string ⟨#[]⟩, .slice none 0 0, .slice none 0 0] 39)) (by rfl) rfl (by first | (go_simp; done) | (go_simp; rfl)) ?_
          refine hK.out _ _ (hS _ hB2) (fun hh2 => ?_)
          clear hK K
          exact hjoin (W1.heap.size, W0.heap.size) _ ⟨by show W1.heap.size ≠ W0.heap.size; omega, by show W0.heap.size ≤ W1.heap.size; omega, Nat.le_refl _, hB2, hn2, hn3⟩
      case cont =>
        rintro ⟨gx, gy⟩ W5 ⟨hne, hgx, hgy, hB5, hbx, hby⟩
        dsimp only at hne hgx hgy hbx hby
        refine norm_ (a' := ?_) ?_ ?_
        rotate_left
        · simp only [putAll, Act.put, List.setIfInBounds_toArray, List.set_cons_zero, List.set_cons_succ, i64_w, i32_w]
          rfl
        have cp0 := blk_cell hbx 0
        have zp0 := blk_frozen hbx 0
        have hp1 := blk_put hbx 0 (.int .i64 f0) rfl
        have op1 := blk_far hby (p := ⟨gx, 0, none⟩) (by show gy ≠ gx; omega) (.int .i64 f0)
        have Bp1 := below_set (j := 0) (v := .int .i64 f0) hB5 hgx
        have cp1 := blk_cell hp1 1
        have zp1 := blk_frozen hp1 1
        have hp2 := blk_put hp1 1 (.bool f1) rfl
        have op2 := blk_far op1 (p := ⟨gx, 1, none⟩) (by show gy ≠ gx; omega) (.bool f1)
        have Bp2 := below_set (j := 1) (v := .bool f1) Bp1 hgx
        have cp2 := blk_cell hp2 2
        have zp2 := blk_frozen hp2 2
        have hp3 := blk_put hp2 2 (.int .i64 f2) rfl
        have op3 := blk_far op2 (p := ⟨gx, 2, none⟩) (by show gy ≠ gx; omega) (.int .i64 f2)
        have Bp3 := below_set (j := 2) (v := .int .i64 f2) Bp2 hgx
        have cp3 := blk_cell hp3 3
        have zp3 := blk_frozen hp3 3
        have hp4 := blk_put hp3 3 (.string f3) rfl
        have op4 := blk_far op3 (p := ⟨gx, 3, none⟩) (by show gy ≠ gx; omega) (.string f3)
        have Bp4 := below_set (j := 3) (v := .string f3) Bp3 hgx
        have cp4 := blk_cell hp4 4
        have zp4 := blk_frozen hp4 4
        have hp5 := blk_put hp4 4 (.slice A4 f4.length c4) rfl
        have op5 := blk_far op4 (p := ⟨gx, 4, none⟩) (by show gy ≠ gx; omega) (.slice A4 f4.length c4)
        have Bp5 := below_set (j := 4) (v := .slice A4 f4.length c4) Bp4 hgx
        have cp5 := blk_cell hp5 5
        have zp5 := blk_frozen hp5 5
        have hp6 := blk_put hp5 5 (.slice A5 f5.length c5) rfl
        have op6 := blk_far op5 (p := ⟨gx, 5, none⟩) (by show gy ≠ gx; omega) (.slice A5 f5.length c5)
        have Bp6 := below_set (j := 5) (v := .slice A5 f5.length c5) Bp5 hgx
        refine one_ (i := 10) (N := none) #[true, true, true, true, true, true, true, true, true, true, true, false] rfl rfl (one_of HT_.out (by kernel_rfl)) (by decide) (fun K hK => ?_)
        refine skip_ (w1 := ((((((W5.setCell ⟨gx, 0, none⟩ (.int .i64 f0)).setCell ⟨gx, 1, none⟩ (.bool f1)).setCell ⟨gx, 2, none⟩ (.int .i64 f2)).setCell ⟨gx, 3, none⟩ (.string f3)).setCell ⟨gx, 4, none⟩ (.slice A4 f4.length c4)).setCell ⟨gx, 5, none⟩ (.slice A5 f5.length c5))) (by rfl) rfl (by go_simp; try rfl) ?_
        refine hK.out _ _ (hS _ Bp6) (fun hh => ?_)
        clear hK K
        have hbx6 := hp6
        have hby6 := op6
        have hB6 := Bp6
        clear cp0 zp0 hp1 op1 Bp1 cp1 zp1 hp2 op2 Bp2 cp2 zp2 hp3 op3 Bp3 cp3 zp3 hp4 op4 Bp4 cp4 zp4 hp5 op5 Bp5 cp5 zp5 hp6 op6 Bp6
        generalize ((((((W5.setCell ⟨gx, 0, none⟩ (.int .i64 f0)).setCell ⟨gx, 1, none⟩ (.bool f1)).setCell ⟨gx, 2, none⟩ (.int .i64 f2)).setCell ⟨gx, 3, none⟩ (.string f3)).setCell ⟨gx, 4, none⟩ (.slice A4 f4.length c4)).setCell ⟨gx, 5, none⟩ (.slice A5 f5.length c5)) = W6 at *
        have cq0 := blk_cell hby6 0
        have zq0 := blk_frozen hby6 0
        have hq1 := blk_put hby6 0 (.int .i64 f0) rfl
        have oq1 := blk_far hbx6 (p := ⟨gy, 0, none⟩) (by show gx ≠ gy; omega) (.int .i64 f0)
        have Bq1 := below_set (j := 0) (v := .int .i64 f0) hB6 hgy
        have cq1 := blk_cell hq1 1
        have zq1 := blk_frozen hq1 1
        have hq2 := blk_put hq1 1 (.bool f1) rfl
        have oq2 := blk_far oq1 (p := ⟨gy, 1, none⟩) (by show gx ≠ gy; omega) (.bool f1)
        have Bq2 := below_set (j := 1) (v := .bool f1) Bq1 hgy
        have cq2 := blk_cell hq2 2
        have zq2 := blk_frozen hq2 2
        have hq3 := blk_put hq2 2 (.int .i64 f2) rfl
        have oq3 := blk_far oq2 (p := ⟨gy, 2, none⟩) (by show gx ≠ gy; omega) (.int .i64 f2)
        have Bq3 := below_set (j := 2) (v := .int .i64 f2) Bq2 hgy
        have cq3 := blk_cell hq3 3
        have zq3 := blk_frozen hq3 3
        have hq4 := blk_put hq3 3 (.string f3) rfl
        have oq4 := blk_far oq3 (p := ⟨gy, 3, none⟩) (by show gx ≠ gy; omega) (.string f3)
        have Bq4 := below_set (j := 3) (v := .string f3) Bq3 hgy
        have cq4 := blk_cell hq4 4
        have zq4 := blk_frozen hq4 4
        have hq5 := blk_put hq4 4 (.slice B4 f4.length d4) rfl
        have oq5 := blk_far oq4 (p := ⟨gy, 4, none⟩) (by show gx ≠ gy; omega) (.slice B4 f4.length d4)
        have Bq5 := below_set (j := 4) (v := .slice B4 f4.length d4) Bq4 hgy
        have cq5 := blk_cell hq5 5
        have zq5 := blk_frozen hq5 5
        have hq6 := blk_put hq5 5 (.slice B5 f5.length d5) rfl
        have oq6 := blk_far oq5 (p := ⟨gy, 5, none⟩) (by show gx ≠ gy; omega) (.slice B5 f5.length d5)
        have Bq6 := below_set (j := 5) (v := .slice B5 f5.length d5) Bq5 hgy
        refine last_skip (i := 11) (w1 := ((((((W6.setCell ⟨gy, 0, none⟩ (.int .i64 f0)).setCell ⟨gy, 1, none⟩ (.bool f1)).setCell ⟨gy, 2, none⟩ (.int .i64 f2)).setCell ⟨gy, 3, none⟩ (.string f3)).setCell ⟨gy, 4, none⟩ (.slice B4 f4.length d4)).setCell ⟨gy, 5, none⟩ (.slice B5 f5.length d5))) #[true, true, true, true, true, true, true, true, true, true, true, true] rfl rfl (one_of HT_.out (by kernel_rfl)) (by decide) rfl (by go_simp; try rfl) ?_
        refine done_ (done_of HT_.out (by kernel_rfl)) ?_
        have hby7 := hq6
        have hbx7 := oq6
        have hB7 := Bq6
        clear cq0 zq0 hq1 oq1 Bq1 cq1 zq1 hq2 oq2 Bq2 cq2 zq2 hq3 oq3 Bq3 cq3 zq3 hq4 oq4 Bq4 cq4 zq4 hq5 oq5 Bq5 cq5 zq5 hq6 oq6 Bq6
        generalize ((((((W6.setCell ⟨gy, 0, none⟩ (.int .i64 f0)).setCell ⟨gy, 1, none⟩ (.bool f1)).setCell ⟨gy, 2, none⟩ (.int .i64 f2)).setCell ⟨gy, 3, none⟩ (.string f3)).setCell ⟨gy, 4, none⟩ (.slice B4 f4.length d4)).setCell ⟨gy, 5, none⟩ (.slice B5 f5.length d5)) = W7 at *
        have hW7 := hbD.trans (hB7.mono hbD.size)
        have x0 := blk_cell hbx7 0
        replace x0 : W7.cell? ⟨gx, 0, none⟩ = some (.int .i64 f0) := x0
        have x1 := blk_cell hbx7 1
        replace x1 : W7.cell? ⟨gx, 1, none⟩ = some (.bool f1) := x1
        have x2 := blk_cell hbx7 2
        replace x2 : W7.cell? ⟨gx, 2, none⟩ = some (.int .i64 f2) := x2
        have x3 := blk_cell hbx7 3
        replace x3 : W7.cell? ⟨gx, 3, none⟩ = some (.string f3) := x3
        have x4 := blk_cell hbx7 4
        replace x4 : W7.cell? ⟨gx, 4, none⟩ = some (.slice A4 f4.length c4) := x4
        have x5 := blk_cell hbx7 5
        replace x5 : W7.cell? ⟨gx, 5, none⟩ = some (.slice A5 f5.length c5) := x5
        have y0 := blk_cell hby7 0
        replace y0 : W7.cell? ⟨gy, 0, none⟩ = some (.int .i64 f0) := y0
        have y1 := blk_cell hby7 1
        replace y1 : W7.cell? ⟨gy, 1, none⟩ = some (.bool f1) := y1
        have y2 := blk_cell hby7 2
        replace y2 : W7.cell? ⟨gy, 2, none⟩ = some (.int .i64 f2) := y2
        have y3 := blk_cell hby7 3
        replace y3 : W7.cell? ⟨gy, 3, none⟩ = some (.string f3) := y3
        have y4 := blk_cell hby7 4
        replace y4 : W7.cell? ⟨gy, 4, none⟩ = some (.slice B4 f4.length d4) := y4
        have y5 := blk_cell hby7 5
        replace y5 : W7.cell? ⟨gy, 5, none⟩ = some (.slice B5 f5.length d5) := y5
        have hBw := hbr.trans (hW7.mono hbr.size)
        have x4' := x4; have x5' := x5; have y4' := y4; have y5' := y5
        have hC4' := Kd.C_below hC4 hW7
        have hD4' := Kd.C_below hD4 hW7
        have hC5' := Kd.C_below hC5 hW7
        have hD5' := Kd.C_below hD5 hW7
        clear hx0 hx1 hx2 hx3 hx4 hx5 hy0 hy1 hy2 hy3 hy4 hy5 hS hHeld hxs hC4 hD4 hC5 hD5 hbx hby hbx6 hby6 hbx7 hby7 HT_ HW_
        go_wp2
        go_loopw [8] (fun k wr2 => ∃ q : Nat, q ≤ f4.length ∧ k = .int .i64 q ∧ Below W7.heap.size W7 wr2) (fun k _ => f4.length - (RowKit.intOf k).toNat)
        case atStart => exact ⟨0, Nat.zero_le _, rfl, Below.refl _ _⟩
        case round =>
          obtain ⟨q, hq, rfl, hq7⟩ := hrel
          have x4 := pw_cell_below hq7 x4
          have x5 := pw_cell_below hq7 x5
          have y4 := pw_cell_below hq7 y4
          have y5 := pw_cell_below hq7 y5
          by_cases hql : q < f4.length
          · have hqq : ((q : Int) < (f4.length : Int)) = True := eq_true (by omega)
            have hq1 : (q < f4.length) = True := eq_true hql
            obtain ⟨ad4, rfl, hk4⟩ := Kd.at_string (Kd.C_below hC4' hq7) (q : Int) (by omega) (by omega)
            obtain ⟨bd4, rfl, hl4'⟩ := Kd.at_string (Kd.C_below hD4' hq7) (q : Int) (by omega) (by omega)
            rw [Int.toNat_natCast] at hk4 hl4'
            generalize rdOf ByteArray.empty f4 (q : Int) = nm at *
            have hw1 := wrap_succ q (Nat.lt_of_lt_of_le hql (Kd.C_max hC4'))
            go_wp2
            go_quiet (fail)
            go_wp2
            go_roundw
            case rel => exact ⟨q + 1, hql, congrArg (Value.int .i64) hw1, pw_below_drewN hq7 _⟩
            case measure => rw [hw1]; clear hw1; simp [RowKit.intOf]; omega
          · have hqq : ((q : Int) < (f4.length : Int)) = False := eq_false (by omega)
            go_wp2
            go_loopw [9] (fun k wr2 => ∃ q : Nat, q ≤ f5.length ∧ k = .int .i64 q ∧ Below W7.heap.size W7 wr2) (fun k _ => f5.length - (RowKit.intOf k).toNat)
            case atStart => exact ⟨0, Nat.zero_le _, rfl, hq7⟩
            case round =>
              obtain ⟨q2, hq2, rfl, hr7⟩ := hrel
              have z4 := pw_cell_below hr7 x4'
              have z5 := pw_cell_below hr7 x5'
              have u4' := pw_cell_below hr7 y4'
              have u5' := pw_cell_below hr7 y5'
              clear x4 x5 y4 y5
              by_cases hql2 : q2 < f5.length
              · have hqq2 : ((q2 : Int) < (f5.length : Int)) = True := eq_true (by omega)
                have hq12 : (q2 < f5.length) = True := eq_true hql2
                obtain ⟨ad5, rfl, hk5⟩ := Kd.at_int (Kd.C_below hC5' hr7) (q2 : Int) (by omega) (by omega)
                obtain ⟨bd5, rfl, hl5'⟩ := Kd.at_int (Kd.C_below hD5' hr7) (q2 : Int) (by omega) (by omega)
                rw [Int.toNat_natCast] at hk5 hl5'
                generalize rd f5 (q2 : Int) = kd at *
                have hw2 := wrap_succ q2 (Nat.lt_of_lt_of_le hql2 (Kd.C_max hC5'))
                go_wp2
                go_quiet (fail)
                go_wp2
                go_roundw
                case rel => exact ⟨q2 + 1, hql2, congrArg (Value.int .i64) hw2, pw_below_drewN hr7 _⟩
                case measure => rw [hw2]; clear hw2; simp [RowKit.intOf]; omega
              · have hqq2 : ((q2 : Int) < (f5.length : Int)) = False := eq_false (by omega)
                have hwj := HWJ.out
                go_wp2
                go_roundw
                case rel => exact ⟨j + 1, hlt, congrArg (Value.int .i64) hwj, hBw.trans (hr7.mono hBw.size)⟩
                case measure => rw [hwj]; clear hwj; simp [RowKit.intOf]; omega
    · have hll : ((j : Int) < (l.length : Int)) = False := eq_false (by omega)
      go_wp2
      go_ret
      exact ⟨rfl, hbr⟩
end Go.Proofs.YtldlkoncndlbhaaDoor.Js
set_option linter.unusedVariables false
set_option linter.unusedSimpArgs false
namespace Go.Proofs.YtldlkoncndlbhaaDoor.Js
open Go.RowKit Go.Lib Go.Proofs.YtldlkoncndlbhaaDoorW.PrintWords Go.Proofs.YtldlkoncndlbhaaDoorW.PrintLast Go.Proofs.YtldlkoncndlbhaaDoorW.PrintMore
section
variable {w0 a0 w : World} {v : Value} {out : List UInt8} {ops : Array Oper} {rest : List Oper} {o : Oper} {a : Act} {Q : Exit → Act → World → Prop}
/-- append(out, nil...). -/
theorem app_none (hgd : o.guard = none) (s x : Operand) (ho : o.op = .call { callee := .builtin .append, args := #[s, x], argTypes := #[30, 30] })
    (hR : Rw w0 a0 v out w) (hs : a.eval s = v) (hx : a.eval x = .slice none 0 0) (h : wpList Tryd.prog ops Q rest (a.put o.dst v) w) : wpList Tryd.prog ops Q (o :: rest) a w := by
  obtain ⟨i0, hi, hz0, hz1, hz2⟩ := info_parts infoByte
  have hr := run_append_owned_none (P := Tryd.prog) w w0.heap.size 30 o.type 5 i0 1 Tryd.underlying30 hi v out.length (byteCells out) hR.1
  refine Kd.event_run hgd (v := v) (w1 := w) ?_ h
  unfold execOp
  simp only [ho, resolve, invoke, builtin, Sem.run_bind, Sem.run_pure, Result.andThen_ok, List.map_toArray, List.map_cons, List.map_nil, hs, hx, hr]
end
end Go.Proofs.YtldlkoncndlbhaaDoor.Js
set_option linter.unusedVariables false
set_option linter.unusedSimpArgs false
namespace Go.Proofs.YtldlkoncndlbhaaDoor.Sr
open Go.RowKit Go.Lib Go.Proofs.YtldlkoncndlbhaaDoor.Utf Go.Proofs.YtldlkoncndlbhaaDoor.PSh Go.Proofs.YtldlkoncndlbhaaDoor.Np Go.Proofs.YtldlkoncndlbhaaDoor.Js Go.Proofs.YtldlkoncndlbhaaDoorW.PrintWords Go.Proofs.YtldlkoncndlbhaaDoorW.PrintLast Go.Proofs.YtldlkoncndlbhaaDoorW.PrintMore
theorem check_none (w : World) (hG : Glob w) : Calls Tryd.prog 11 #[.slice none 0 0] w fun e w' => e = .returned (.int .i64 29) ∧ Below w.heap.size w w' := by
  obtain ⟨K2, hK2⟩ := Pure.check_tells [] (fun a h0 h1 => by simp at h1; omega)
  have hck2 : show_Check.f K2 [] = some 29 := hK2 K2 (Nat.le_refl _)
  exact show_Check.calls K2 none 0 [] 29 _ ⟨hG⟩ (Kd.C_nil _ _) (Nat.le_refl _) hck2
/-- What Print gives of a tree that has been read. -/
theorem print_ok {l : List S39} {w : World} {A : Option Addr} {cp : Nat} (hG : Glob w) (hr : Kd.C k39 w A l.length l) (hc : l.length ≤ cp) (hs : Pure.Small l) (h0 : Pure.checkOf l = 0) :
    Calls Tryd.prog 14 #[.slice A l.length cp] w fun e w' => ∃ (A' : Option Addr) (c' : Nat), e = .returned (.tuple #[.slice A' (Wr.textOf l).length c', .int .i64 0]) ∧ ReadsInt w' .u8 A' (str (Wr.textOf l)).size (bytesOf (str (Wr.textOf l))) ∧ Below w.heap.size w w' := by
  refine (Pure.print_tells ⟨hG⟩ hr hc hs).mono fun e w' h => ?_
  obtain ⟨A', c', t, e1, h1, h2, h3⟩ := h
  rw [h0] at e1 h3
  obtain rfl : t = Wr.textOf l := h3
  exact ⟨A', c', e1, h1, h2⟩
set_option maxHeartbeats 4000000 in
set_option maxRecDepth 100000 in
theorem reads_long (A : Option Addr) (c : Nat) (xs : List UInt8) (w : World) (hG : Aside0 (Glob w)) (hs : 20000 < xs.length) :
    Calls Tryd.prog 8 #[.slice A xs.length c] w fun e w' => e = .returned (.bool true) ∧ Below w.heap.size w w' := by
  have c2 : ((20000 : Int) < (xs.length : Int)) = True := eq_true (by omega)
  have c3 : ((xs.length : Int) > 20000) = True := eq_true (by omega)
  go_enter Tryd.func8, Tryd.ntmps8
  go_wp2_with (go_at_call 10; refine (Aw.awake_walk w hG).mono ?_; rintro e w2 ⟨rfl, hb2⟩)
  go_ret
  exact ⟨rfl, hb2⟩
set_option maxHeartbeats 4000000 in
set_option maxRecDepth 100000 in
theorem reads_none (w : World) (hG : Aside0 (Glob w)) (hGN : Aside0 (GlobN w)) :
    Calls Tryd.prog 8 #[.slice none 0 0] w fun e w' => e = .returned (.bool true) ∧ Below w.heap.size w w' := by
  have hp : parse [] = .no 0 21 := by kernel_rfl
  go_enter Tryd.func8, Tryd.ntmps8
  go_wp2_with (first
    | (go_at_call 10; refine (Aw.awake_walk w hG).mono ?_; rintro e w2 ⟨rfl, hb2⟩; have hG2 := hG.out.below hb2; have hGN2 := hGN.out.below hb2; have hS := Rw.lit w2 w2 w2 (Below.refl _ _) (OthersKept.refl _ _ _) [] #[] rfl (by decide))
    | (at_builtin; refine app_none rfl (.tmp 17) (.tmp 18) rfl hS rfl rfl ?_; have hb4 := hS.2.1; have hpw := parse_walk _ (some ⟨w2.heap.size, 0, none⟩) 0 (str []) (hG2.below hb4) (hGN2.below hb4) (by decide) (show ReadsInt _ .u8 _ 0 (bytesOf (str [])) from ⟨rfl, by decide, fun h => absurd h (Nat.lt_irrefl 0)⟩); rw [show (str []).data.toList = [] from rfl, hp, show (str []).size = 0 from rfl] at hpw)
    | (go_at_call 19; (with_reducible refine hpw.mono ?_); rintro e w5 ⟨hb5, rfl⟩; have hB5 := hb2.trans ((hb4.trans (hb5.mono hb4.size)).mono hb2.size))
    | (go_at_call 11; refine (check_none _ (hG.out.below hB5)).mono ?_; rintro e w6 ⟨rfl, hb6⟩))
  go_ret
  exact ⟨rfl, hB5.trans (hb6.mono hB5.size)⟩
set_option maxHeartbeats 4000000 in
set_option maxRecDepth 100000 in
theorem reads_some (ad : Addr) (c : Nat) (xs : List UInt8) (w : World) (hG : Aside0 (Glob w)) (hGN : Aside0 (GlobN w)) (hA : Gvn w (some ad) xs c) (hs : xs.length ≤ 20000) :
    Calls Tryd.prog 8 #[.slice (some ad) xs.length c] w fun e w' => e = .returned (.bool true) ∧ Below w.heap.size w w' := by
  have c2 : ((20000 : Int) < (xs.length : Int)) = False := eq_false (by omega)
  have c3 : ((xs.length : Int) > 20000) = False := eq_false (by omega)
  rcases parse_shape xs with ⟨t, hp⟩ | ⟨p, e0, hp, he, hq⟩
  · obtain ⟨hck, hag⟩ := read_again xs hp
    have hcost := parse_cost xs hp
    have hsm : Pure.Small t := Pure.Small.of (by omega)
    obtain ⟨ht0, ht8, _⟩ := Pure.check_nodes t hck
    obtain ⟨T, hT⟩ : ∃ T, Wr.textOf t = T := ⟨_, rfl⟩
    have hpr := fun (A : Option Addr) (cp : Nat) (W : World) (hGW : Glob W) (hr : Kd.C k39 W A t.length t) (hc : t.length ≤ cp) => print_ok hGW hr hc hsm hck
    rw [hT] at hpr hag
    by_cases hbig : 65536 < T.length
    · have d1 : ((65536 : Int) < (T.length : Int)) = True := eq_true (by omega)
      have d2 : ((T.length : Int) > 65536) = True := eq_true (by omega)
      go_enter Tryd.func8, Tryd.ntmps8
      go_wp2_with (first
        | (go_at_call 10; refine (Aw.awake_walk w hG).mono ?_; rintro e w2 ⟨rfl, hb2⟩; have hG2 := hG.out.below hb2; have hGN2 := hGN.out.below hb2; have hA2 := hA.below hb2; have hS := Rw.lit w2 w2 w2 (Below.refl _ _) (OthersKept.refl _ _ _) [] #[] rfl (by decide))
        | (at_builtin; refine app_law rfl (.tmp 17) (.tmp 18) rfl hS xs ad xs.length c rfl rfl rfl (hA2.below (below_alloc (Below.refl _ _) _)).cells (by rw [List.length_nil]; omega) ?_; intro v4 w4 hR4 hg4 hat4; clear hg4 hat4; rw [List.nil_append] at hR4; have hb4 := hR4.2.1; obtain ⟨A4, c4, rfl, hr4⟩ := hR4.reads' (by omega); have hpw := parse_walk w4 A4 c4 (str xs) (hG2.below hb4) (hGN2.below hb4) (by show xs.length ≤ 65536; omega) hr4; rw [show (str xs).data.toList = xs from rfl, hp] at hpw)
        | (go_at_call 19; (with_reducible refine hpw.mono ?_); rintro e w5 ⟨hb5, tv, rfl, hR5⟩; obtain ⟨g1, c5, rfl, -, -, -⟩ := Kd.R_form hR5 ht0; have hC5 := (Kd.R_reads' hR5).2.2; have hc5 := (Kd.R_reads' hR5).2.1; clear hR5; have hB5 := hb4.trans (hb5.mono hb4.size))
        | (go_at_call 14; refine (hpr _ _ _ (hG2.below hB5) hC5 hc5).mono ?_; rintro e w6 ⟨A6, c6, rfl, hrd6, hb6⟩; have hB6 := hb2.trans ((hB5.trans (hb6.mono hB5.size)).mono hb2.size)))
      go_ret
      exact ⟨rfl, hB6⟩
    · have hp2 := hag (by omega)
      have d1 : ((65536 : Int) < (T.length : Int)) = False := eq_false (by omega)
      have d2 : ((T.length : Int) > 65536) = False := eq_false (by omega)
      go_enter Tryd.func8, Tryd.ntmps8
      go_wp2_with (first
        | (go_at_call 10; refine (Aw.awake_walk w hG).mono ?_; rintro e w2 ⟨rfl, hb2⟩; have hG2 := hG.out.below hb2; have hGN2 := hGN.out.below hb2; have hA2 := hA.below hb2; have hS := Rw.lit w2 w2 w2 (Below.refl _ _) (OthersKept.refl _ _ _) [] #[] rfl (by decide))
        | (at_builtin; refine app_law rfl (.tmp 17) (.tmp 18) rfl hS xs ad xs.length c rfl rfl rfl (hA2.below (below_alloc (Below.refl _ _) _)).cells (by rw [List.length_nil]; omega) ?_; intro v4 w4 hR4 hg4 hat4; clear hg4 hat4; rw [List.nil_append] at hR4; have hb4 := hR4.2.1; obtain ⟨A4, c4, rfl, hr4⟩ := hR4.reads' (by omega); have hpw := parse_walk w4 A4 c4 (str xs) (hG2.below hb4) (hGN2.below hb4) (by show xs.length ≤ 65536; omega) hr4; rw [show (str xs).data.toList = xs from rfl, hp] at hpw)
        | (go_at_call 19; (with_reducible refine hpw.mono ?_); rintro e w5 ⟨hb5, tv, rfl, hR5⟩; obtain ⟨g1, c5, rfl, -, -, -⟩ := Kd.R_form hR5 ht0; have hC5 := (Kd.R_reads' hR5).2.2; have hc5 := (Kd.R_reads' hR5).2.1; clear hR5; have hB5 := hb4.trans (hb5.mono hb4.size))
        | (go_at_call 14; refine (hpr _ _ _ (hG2.below hB5) hC5 hc5).mono ?_; rintro e w6 ⟨A6, c6, rfl, hrd6, hb6⟩; have hB6 := hB5.trans (hb6.mono hB5.size); have hC6 := Kd.C_below hC5 hb6; have hpw2 := parse_walk w6 A6 c6 (str T) (hG2.below hB6) (hGN2.below hB6) (by show T.length ≤ 65536; omega) hrd6; rw [show (str T).data.toList = T from rfl, hp2, show (str T).size = T.length from rfl] at hpw2)
        | (go_at_call 19; (with_reducible refine hpw2.mono ?_); rintro e w7 ⟨hb7, tv2, rfl, hR7⟩; obtain ⟨g2, c7, rfl, -, -, -⟩ := Kd.R_form hR7 ht0; have hC7 := (Kd.R_reads' hR7).2.2; clear hR7; have hC6' := Kd.C_below hC6 hb7; have hB7 := hB6.trans (hb7.mono hB6.size))
        | (go_at_call 21; refine (Js.same_walk t g1 g2 _ _ _ hC6' hC7).mono ?_; rintro e w8 ⟨rfl, hb8⟩; have hB := hb2.trans ((hB7.trans (hb8.mono hB7.size)).mono hb2.size)))
      go_ret
      exact ⟨rfl, hB⟩
  · have he1 : (e0 != 0) = true := bne_iff_ne.2 he
    have he3 : (e0 = 0) = False := eq_false he
    go_enter Tryd.func8, Tryd.ntmps8
    go_wp2_with (first
      | (go_at_call 10; refine (Aw.awake_walk w hG).mono ?_; rintro e w2 ⟨rfl, hb2⟩; have hG2 := hG.out.below hb2; have hGN2 := hGN.out.below hb2; have hA2 := hA.below hb2; have hS := Rw.lit w2 w2 w2 (Below.refl _ _) (OthersKept.refl _ _ _) [] #[] rfl (by decide))
      | (at_builtin; refine app_law rfl (.tmp 17) (.tmp 18) rfl hS xs ad xs.length c rfl rfl rfl (hA2.below (below_alloc (Below.refl _ _) _)).cells (by rw [List.length_nil]; omega) ?_; intro v4 w4 hR4 hg4 hat4; clear hg4 hat4; rw [List.nil_append] at hR4; have hb4 := hR4.2.1; obtain ⟨A4, c4, rfl, hr4⟩ := hR4.reads' (by omega); have hpw := parse_walk w4 A4 c4 (str xs) (hG2.below hb4) (hGN2.below hb4) (by show xs.length ≤ 65536; omega) hr4; rw [show (str xs).data.toList = xs from rfl, hp] at hpw)
      | (go_at_call 19; (with_reducible refine hpw.mono ?_); rintro e w5 ⟨hb5, rfl⟩; have hB5 := hb2.trans ((hb4.trans (hb5.mono hb4.size)).mono hb2.size))
      | (go_at_call 11; refine (check_none _ (hG.out.below hB5)).mono ?_; rintro e w6 ⟨rfl, hb6⟩))
    go_ret
    exact ⟨rfl, hB5.trans (hb6.mono hB5.size)⟩
theorem showReads_walk (A : Option Addr) (c : Nat) (xs : List UInt8) (w : World) (hG : Aside0 (Glob w)) (hGN : Aside0 (GlobN w)) (hA : Gvn w A xs c) :
    Calls Tryd.prog 8 #[.slice A xs.length c] w fun e w' => e = .returned (.bool true) ∧ Below w.heap.size w w' := by
  by_cases hs : 20000 < xs.length
  · exact reads_long A c xs w hG hs
  · cases A with
    | none =>
      have h1 := hA.2.2.2 rfl
      subst h1
      have h2 : xs = [] := List.eq_nil_of_length_eq_zero (by have := hA.1; omega)
      subst h2
      exact reads_none w hG hGN
    | some ad => exact reads_some ad c xs w hG hGN hA (by omega)
end Go.Proofs.YtldlkoncndlbhaaDoor.Sr
