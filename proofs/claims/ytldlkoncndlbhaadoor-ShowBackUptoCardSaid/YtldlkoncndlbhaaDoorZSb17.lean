/- YtldlkoncndlbhaaDoorZSb17: texts of the seat (Reader12, Close, Json, Rw, BytesOf, SameJ, SameE, ShowReads, ShowSame, ShowBack, LaidJ, RowUptoShowBack), one behind the other, without what this claim's theorem does not rest on. -/
import Derived.Test.YtldlkoncndlbhaaDoorZSb16
import Derived.Defers
import Derived.Recover
import Derived.BigQuiet
import Derived.Lib.OthersKept
import Derived.Lib.AppendStr
import Derived.Lib.BufferWrite
import Derived.Maps.AppendAt
import Derived.Laws.OwnMore
import Derived.Test.YtldlkoncndlbhaaDoorRows
import Derived.ChangeSlices
import Derived.ProofKit
import Derived.LaidMore
import Derived.Stop.Joined
import Derived.Stop.LaidErr
import Derived.Lib.LaidTab
import Derived.Lib.LaidU8T
import Derived.Test.YtldlkoncndlbhaaDoorCards
import Derived.Test.YtldlkoncndlbhaaDoorTie
import Derived.WalkKit
import Derived.OpenShut
import Derived.ShutString
import Derived.ChangeOld
import Derived.Below
import Derived.SizedLaws
import Derived.SevenTiedAt
import Derived.Deep.DeepHandedRow
import Derived.Deep.DeepWitnessRowRef

set_option linter.unusedVariables false
namespace Go.Proofs.YtldlkoncndlbhaaDoor.Js
open Go.RowKit Go.Lib Go.Proofs.YtldlkoncndlbhaaDoor.PSh Go.Proofs.YtldlkoncndlbhaaDoor.Np Go.Proofs.YtldlkoncndlbhaaDoorW.PrintWords
theorem value_below (w0 : World) (b : Nat) (s : ByteArray) (hG : Aside0 (Glob w0)) (hGN : Aside0 (GlobN w0)) (hs : s.size ≤ 65536) : ∀ f g, g < f → VT w0 b s g
  | 0, g, h => absurd h (Nat.not_lt_zero _)
  | f + 1, 0, _ => fun _ _ _ _ _ _ _ _ hf => absurd hf (Nat.not_lt_zero _)
  | f + 1, g + 1, h => value_step w0 b s g hG hGN hs
      (list_step w0 b s g hs (fun k hk => value_below w0 b s hG hGN hs f k (by omega)))
      (object_step w0 b s g hG hs (fun k hk => value_below w0 b s hG hGN hs f k (by omega)))
theorem value_walk (w0 : World) (b : Nat) (s : ByteArray) (hG : Aside0 (Glob w0)) (hGN : Aside0 (GlobN w0)) (hs : s.size ≤ 65536) (f : Nat) : VT w0 b s f := value_below w0 b s hG hGN hs (f + 1) f (Nat.lt_succ_self f)
end Go.Proofs.YtldlkoncndlbhaaDoor.Js
set_option linter.unusedVariables false
set_option linter.unusedSimpArgs false
namespace Go.Proofs.YtldlkoncndlbhaaDoor.Js
open Go.RowKit Go.Lib Go.Proofs.YtldlkoncndlbhaaDoor.PSh Go.Proofs.YtldlkoncndlbhaaDoor.Np Go.Proofs.YtldlkoncndlbhaaDoorW.PrintWords Go.Proofs.YtldlkoncndlbhaaDoorW.PrintLast Go.Proofs.YtldlkoncndlbhaaDoorW.PrintMore
def close.T5 : Bool × List (List Nat × List Nat) := (true, [([], []), ([0], [0]), ([], []), ([2], [2]), ([], []), ([1, 4, 0, 1, 4], [1]), ([3, 5, 0, 1, 2, 3, 4, 5], [3])])
def close.B5 : List Nat := [0, 1, 0, 4, 0, 19, 63]
theorem close.tab5 : rtab .any (opsOf Tryd.f32 5) = close.T5 := by kernel_rfl
theorem close.bits5 : waitsOk close.T5.2 close.B5 = true := by kernel_rfl
set_option maxHeartbeats 4000000 in
set_option maxRecDepth 100000 in
theorem close_idle (p q r : Addr) (w : World) :
    CallsD Tryd.prog 32 #[.pointer (some p), .pointer (some q), .pointer (some r)] .returning w fun e u' w' => e = .returned (.tuple #[]) ∧ u' = .returning ∧ w' = w := by
  refine callsD_of_wpS Tryd.func32 rfl fun c₀ cs hu => ?_
  apply wpS_seq
  apply wpS_region
  simp [wpOpsS, go_sem, recoverD, hu, Tryd.ntmps32, Exit.thenS]
  apply wpS_seq
  apply wpS_region
  simp [wpOpsS, go_sem, recoverD, hu, Exit.thenS, Array.replicate]
  refine wpS_cond (t := false) (by simp [Act.eval, Array.replicate]) ?_
  simp only [Bool.false_eq_true, if_false]
  refine wpS_of_wp (wp_skip ?_)
  cases c₀
  simp_all [bodyPostS, results, Tryd.results32]
set_option maxHeartbeats 4000000 in
set_option maxRecDepth 100000 in
theorem close_stopped (g : Nat) (tv : Value) (z y pp ee : Int) (older : List PanicEntry) (w : World)
    (hp : w.heap[g]? = some (.cells #[tv] 23 (0, 0))) (hq : w.heap[g + 1]? = some (.cells #[.int .i64 z] 3 (0, 0))) (hr : w.heap[g + 2]? = some (.cells #[.int .i64 y] 25 (0, 0))) :
    CallsD Tryd.prog 32 #[.pointer (some ⟨g, 0, none⟩), .pointer (some ⟨g + 1, 0, none⟩), .pointer (some ⟨g + 2, 0, none⟩)] (.panicking ({ v := .iface 67 (.agg #[.int .i64 pp, .int .i64 ee]), recovered := false } :: older)) w fun e u' w' =>
      e = .returned (.tuple #[]) ∧ u' = .panicking ({ v := .iface 67 (.agg #[.int .i64 pp, .int .i64 ee]), recovered := true } :: older) ∧ Below g w w' ∧ w'.cell? ⟨g, 0, none⟩ = some (.slice none 0 0) ∧ w'.cell? ⟨g + 1, 0, none⟩ = some (.int .i64 pp) ∧ w'.cell? ⟨g + 2, 0, none⟩ = some (.int .i64 ee) := by
  refine callsD_of_wpS Tryd.func32 rfl fun c₀ cs hu => ?_
  apply wpS_seq
  apply wpS_region
  simp [wpOpsS, go_sem, recoverD, hu, Tryd.ntmps32, Exit.thenS]
  apply wpS_seq
  apply wpS_region
  simp [wpOpsS, go_sem, recoverD, hu, Exit.thenS, Array.replicate]
  refine wpS_cond (t := true) (by simp [Act.eval, Array.replicate]) ?_
  simp only [if_true]
  refine wpS_of_wp ?_
  have hta : ∀ (v : Value) (W : World), (Instr.typeAssert (.iface 67 v) 20 67 true).run Tryd.prog W = .ok (.tuple #[v, .bool true]) W := fun v W => by
    have h1 := Tryd.underlying67
    simp [Instr.typeAssert, h1, go_sem]
  have hgl := blk_lt hr
  go_wp2
  have hB0 : Below w.heap.size w (w.alloc (.cells #[.int .i64 pp, .int .i64 ee] 67)).drew := below_drew (below_alloc (Below.refl _ _) _)
  have hb0 := blk_drew (blk_new w (.cells #[.int .i64 pp, .int .i64 ee] 67))
  go_wp2_with fail
  refine start_ (n := 7) (S := fun w' => w'.cell? ⟨w.heap.size, 0, none⟩ = some (.int .i64 pp) ∧ w'.cell? ⟨w.heap.size, 1, none⟩ = some (.int .i64 ee)) (ds := [6]) #[false, false, false, false, false, false, false] (by kernel_rfl) rfl rfl ⟨blk_cell hb0 0, blk_cell hb0 1⟩ (fun hHeld => ?_)
  refine with_tabW close.tab5 close.bits5 (fun HT_ HW_ => ?_)
  have hpw := blk_below hp hB0
  have hqw := blk_below hq hB0
  have hrw := blk_below hr hB0
  generalize (w.alloc (.cells #[.int .i64 pp, .int .i64 ee] 67)).drew = W0 at *
  have hfp := blk_frozen hpw 0
  have hcp := blk_cell hpw 0
  refine pure_ (i := 0) (N := some 17) (v := ?_) (a' := ?_) #[true, false, false, false, false, false, false] rfl rfl (any_of HT_.out (by kernel_rfl)) (fun _ _ _ h => h) (Or.inl ⟨by rfl, ?_⟩) ?_ ?_
  rotate_left
  · intro w'
    go_simp
    with_reducible rfl
  rotate_left
  · simp only [Act.put, List.setIfInBounds_toArray, List.set_cons_zero, List.set_cons_succ, i64_w, i32_w]
    rfl
  refine take_ (i := 1) (N := some 18) (v := ?_) (a' := ?_) #[true, true, false, false, false, false, false] rfl rfl (take_ofW HT_.out HW_.out (by kernel_rfl)) (fun _ _ _ h => h) (Or.inl ⟨by rfl, ?_⟩) hHeld ?_ ?_
  rotate_left
  · rintro w' ⟨s0, s1⟩
    go_simp
    with_reducible rfl
  rotate_left
  · simp only [Act.put, List.setIfInBounds_toArray, List.set_cons_zero, List.set_cons_succ, i64_w, i32_w]
    rfl
  refine pure_ (i := 2) (N := some 19) (v := ?_) (a' := ?_) #[true, true, true, false, false, false, false] rfl rfl (any_of HT_.out (by kernel_rfl)) (fun _ _ _ h => h) (Or.inl ⟨by rfl, ?_⟩) ?_ ?_
  rotate_left
  · intro w'
    go_simp
    with_reducible rfl
  rotate_left
  · simp only [Act.put, List.setIfInBounds_toArray, List.set_cons_zero, List.set_cons_succ, i64_w, i32_w]
    rfl
  refine take_ (i := 3) (N := some 20) (v := ?_) (a' := ?_) #[true, true, true, true, false, false, false] rfl rfl (take_ofW HT_.out HW_.out (by kernel_rfl)) (fun _ _ _ h => h) (Or.inl ⟨by rfl, ?_⟩) hHeld ?_ ?_
  rotate_left
  · rintro w' ⟨s0, s1⟩
    go_simp
    with_reducible rfl
  rotate_left
  · simp only [Act.put, List.setIfInBounds_toArray, List.set_cons_zero, List.set_cons_succ, i64_w, i32_w]
    rfl
  refine one_ (i := 4) (N := none) #[true, true, true, true, true, false, false] rfl rfl (one_of HT_.out (by kernel_rfl)) (by decide) (fun K hK => ?_)
  refine skip_ (w1 := W0.setCell ⟨g, 0, none⟩ (.slice none 0 0)) (by rfl) rfl (by go_simp; try rfl) ?_
  have hb1 := blk_far hb0 (p := ⟨g, 0, none⟩) (by show w.heap.size ≠ g; omega) (.slice none 0 0)
  have hq1 := blk_far hqw (p := ⟨g, 0, none⟩) (by show g + 1 ≠ g; omega) (.slice none 0 0)
  have hr1 := blk_far hrw (p := ⟨g, 0, none⟩) (by show g + 2 ≠ g; omega) (.slice none 0 0)
  have hp1 := blk_put hpw 0 (.slice none 0 0) rfl
  have hfq := blk_frozen hq1 0
  have hcq := blk_cell hq1 0
  refine hK.out _ _ ⟨blk_cell hb1 0, blk_cell hb1 1⟩ (fun hh => ?_)
  clear hK K
  refine one_ (i := 5) (N := none) #[true, true, true, true, true, true, false] rfl rfl (one_of HT_.out (by kernel_rfl)) (by decide) (fun K hK => ?_)
  refine skip_ (w1 := (W0.setCell ⟨g, 0, none⟩ (.slice none 0 0)).setCell ⟨g + 1, 0, none⟩ (.int .i64 pp)) (by rfl) rfl (by go_simp; try rfl) ?_
  have hb2 := blk_far hb1 (p := ⟨g + 1, 0, none⟩) (by show w.heap.size ≠ g + 1; omega) (.int .i64 pp)
  have hr2 := blk_far hr1 (p := ⟨g + 1, 0, none⟩) (by show g + 2 ≠ g + 1; omega) (.int .i64 pp)
  have hp2 := blk_far hp1 (p := ⟨g + 1, 0, none⟩) (by show g ≠ g + 1; omega) (.int .i64 pp)
  have hq2 := blk_put hq1 0 (.int .i64 pp) rfl
  have hfr := blk_frozen hr2 0
  have hcr := blk_cell hr2 0
  refine hK.out _ _ ⟨blk_cell hb2 0, blk_cell hb2 1⟩ (fun hh => ?_)
  clear hK K
  refine last_skip (i := 6) (w1 := (((W0.setCell ⟨g, 0, none⟩ (.slice none 0 0)).setCell ⟨g + 1, 0, none⟩ (.int .i64 pp)).setCell ⟨g + 2, 0, none⟩ (.int .i64 ee))) #[true, true, true, true, true, true, true] rfl rfl (one_of HT_.out (by kernel_rfl)) (by decide) rfl (by go_simp; try rfl) ?_
  refine done_ (done_of HT_.out (by kernel_rfl)) ?_
  -- behind the stores
  have hp3 := blk_far hp2 (p := ⟨g + 2, 0, none⟩) (by show g ≠ g + 2; omega) (.int .i64 ee)
  have hq3 := blk_far hq2 (p := ⟨g + 2, 0, none⟩) (by show g + 1 ≠ g + 2; omega) (.int .i64 ee)
  have hr3 := blk_put hr2 0 (.int .i64 ee) rfl
  have hBB := (((hB0.mono (show g ≤ w.heap.size by omega)).setCell (p := ⟨g, 0, none⟩) (Nat.le_refl _) (.slice none 0 0)).setCell (p := ⟨g + 1, 0, none⟩) (Nat.le_succ _) (.int .i64 pp)).setCell (p := ⟨g + 2, 0, none⟩) (by show g ≤ g + 2; omega) (.int .i64 ee)
  have HF := Aside0.mk (And.intro hBB (And.intro (blk_cell hp3 0) (And.intro (blk_cell hq3 0) (blk_cell hr3 0))))
  clear hp3 hq3 hr3 hBB hp2 hq2 hr2 hp1 hq1 hr1 hb1 hb2 hpw hqw hrw hb0 hB0 hfp hcp hfq hcq hfr hcr hta hp hq hr
  cases c₀
  simp +zetaDelta [bodyPostS, results, Tryd.results32]
  exact HF.out
end Go.Proofs.YtldlkoncndlbhaaDoor.Js
set_option linter.unusedVariables false
set_option linter.unusedSimpArgs false
namespace Go.Proofs.YtldlkoncndlbhaaDoor.Js
open Go.RowKit Go.Lib Go.Proofs.YtldlkoncndlbhaaDoor.PSh Go.Proofs.YtldlkoncndlbhaaDoor.Np Go.Proofs.YtldlkoncndlbhaaDoorW.PrintWords Go.Proofs.YtldlkoncndlbhaaDoorW.PrintLast Go.Proofs.YtldlkoncndlbhaaDoorW.PrintMore
/-- What json.Parse leaves: a tree in a row of its own, place 0, number 0; or no tree, the place and the number. -/
def ParseEnds (w : World) (r : R (List S39)) : Ending → World → Prop := fun e w' => Below w.heap.size w w' ∧ match r with
  | .ok _ _ t => ∃ tv, e = .returned (.tuple #[tv, .int .i64 0, .int .i64 0]) ∧ Kd.R k39 39 w' w.heap.size (fun _ => True) tv t
  | .no p n => e = .returned (.tuple #[.slice none 0 0, .int .i64 (p : Int), .int .i64 n])
set_option maxHeartbeats 8000000 in
set_option maxRecDepth 100000 in
theorem parse_walk_big (w : World) (A : Option Addr) (n c : Nat) (bs : List UInt8) (hl : bs.length = n) (hbig : 65536 < n) :
    Calls Tryd.prog 19 #[.slice A n c] w (ParseEnds w (parse bs)) := by
  unfold parse
  rw [if_pos (by omega)]
  have hmf : ∀ (fn : Fn) (first cap : Array Value) (w : World), (Instr.makeFunc fn first cap).run Tryd.prog w = .ok (.func fn first cap) w := fun _ _ _ _ => rfl
  have h1 : decide ((65536 : Int) < (n : Int)) = true := decide_eq_true (by omega)
  go_enter_defers Tryd.func19, Tryd.ntmps19
  go_wp2
  have hB := below_alloc (below_alloc (below_alloc (Below.refl w.heap.size w) (.cells #[.slice none 0 0] 23)) (.cells #[.int .i64 65536] 3)) (.cells #[.int .i64 20] 25)
  simp [bodyPostD, Leaves, settle, results, Tryd.results19, go_sem]
  exact ⟨hB, rfl⟩
set_option maxHeartbeats 8000000 in
set_option maxRecDepth 100000 in
theorem parse_walk (w : World) (A : Option Addr) (c : Nat) (s : ByteArray) (hG : Glob w) (hGN : GlobN w) (hs : s.size ≤ 65536) (hr : ReadsInt w .u8 A s.size (bytesOf s)) :
    Calls Tryd.prog 19 #[.slice A s.size c] w (ParseEnds w (parse s.data.toList)) := by
  have hln := data_length s
  unfold parse
  rw [if_neg (by omega)]
  have hmf : ∀ (fn : Fn) (first cap : Array Value) (w : World), (Instr.makeFunc fn first cap).run Tryd.prog w = .ok (.func fn first cap) w := fun _ _ _ _ => rfl
  have h1 : decide ((65536 : Int) < (s.size : Int)) = false := decide_eq_false (by omega)
  have hB := below_alloc (below_alloc (below_alloc (Below.refl w.heap.size w) (.cells #[.slice none 0 0] 23)) (.cells #[.int .i64 0] 3)) (.cells #[.int .i64 0] 25)
  have hcv : ∀ W, Below w.heap.size w W → (convert 30 9 (.slice A s.size c)).run Tryd.prog W = .ok (.string s) W := fun W hW => by
    have := string_of_reads (P := Tryd.prog) (src := 30) (dst := 9) (e := 5) (c := c) Tryd.underlying30 Tryd.underlying5 Tryd.underlying9 (hr.below hW)
    rw [this]
    unfold bytesOf
    rw [strOfNums_bytes]
  have hcv1 := hcv _ hB
  obtain ⟨W3, hW3⟩ : ∃ W3, ((w.alloc (.cells #[.slice none 0 0] 23)).alloc (.cells #[.int .i64 0] 3)).alloc (.cells #[.int .i64 0] 25) = W3 := ⟨_, rfl⟩
  have hsz : W3.heap.size = w.heap.size + 1 + 1 + 1 := by rw [← hW3]; simp
  rw [hW3] at hB hcv1
  have hAt : At W3 W3.heap.size s ((0 : Nat) : Int) (.slice none 0 0) (W3.alloc (.cells #[.string s, .int .i64 0, .slice none 0 0] 65)) := ⟨Nat.le_refl _, below_alloc (Below.refl _ _) _, blk_new _ _⟩
  have hGv : Given W3 W3.heap.size s 0 (fun _ => True) (.slice none 0 0) [] (W3.alloc (.cells #[.string s, .int .i64 0, .slice none 0 0] 65)) := ⟨⟨hAt, Kd.R_nil _ _ _ _ _⟩, fun _ _ => trivial, Nat.zero_le _⟩
  have hvw := value_walk W3 W3.heap.size s ⟨hG.below hB⟩ ⟨hGN.below hB⟩ hs (2 * s.data.toList.length + 2) 0 0 _ _ _ _ hGv (by omega) (by omega)
  have hb0 : W3.heap[w.heap.size]? = some (.cells #[.slice none 0 0] 23 (0, 0)) := by rw [← hW3]; exact blk_below (blk_below (blk_new _ _) (below_alloc (Below.refl _ _) _)) (below_alloc (Below.refl _ _) _)
  have hb1 : W3.heap[w.heap.size + 1]? = some (.cells #[.int .i64 0] 3 (0, 0)) := by
    rw [← hW3]
    have h := blk_new (w.alloc (.cells #[.slice none 0 0] 23)) (.cells #[.int .i64 0] 3)
    have e : (w.alloc (.cells #[.slice none 0 0] 23)).heap.size = w.heap.size + 1 := by simp
    rw [e] at h
    exact blk_below h (below_alloc (Below.refl _ _) _)
  have hb2 : W3.heap[w.heap.size + 2]? = some (.cells #[.int .i64 0] 25 (0, 0)) := by
    rw [← hW3]
    have h := blk_new ((w.alloc (.cells #[.slice none 0 0] 23)).alloc (.cells #[.int .i64 0] 3)) (.cells #[.int .i64 0] 25)
    have e : ((w.alloc (.cells #[.slice none 0 0] 23)).alloc (.cells #[.int .i64 0] 3)).heap.size = w.heap.size + 2 := by simp
    rw [e] at h
    exact h
  rw [List.drop_zero, hsz] at hvw
  generalize value (2 * s.data.toList.length + 2) 0 s.data.toList 0 [] = rv at *
  cases rv with
  | no pp ee =>
    rw [R.bind_no]
    clear hcv
    go_enter_defers Tryd.func19, Tryd.ntmps19
    go_wp2_with (go_at_call 33; refine hvw.mono ?_; rintro e w4 ⟨rfl, hB4⟩)
    refine leaves_cons (f := 32) (args := #[.pointer (some ⟨w.heap.size, 0, none⟩), .pointer (some ⟨w.heap.size + 1, 0, none⟩), .pointer (some ⟨w.heap.size + 1 + 1, 0, none⟩)]) (by simp) (by simp [go_sem]) ?_
    refine (close_stopped w.heap.size (.slice none 0 0) 0 0 (pp : Int) ee [] w4 ((hB4.block _ (blk_lt hb0)).trans hb0) ((hB4.block _ (blk_lt hb1)).trans hb1) ((hB4.block _ (blk_lt hb2)).trans hb2)).mono ?_
    rintro e u' w5 ⟨rfl, rfl, hB5, hc0, hc1, hc2⟩
    simp [Leaves, settle, results, Tryd.results19, go_sem, hc0, hc1, hc2]
    exact ⟨(below_then hB hB.size hB4).trans hB5, rfl⟩
  | ok l p v =>
    rw [R.bind_ok]
    clear hcv
    by_cases hq : l = s.data.toList.drop p ∧ p ≤ s.size
    rotate_left
    · have HQ := Aside0.mk hq
      clear hq
      go_enter_defers Tryd.func19, Tryd.ntmps19
      go_wp2_with (go_at_call 33; refine hvw.mono ?_; rintro e w4 ⟨rfl, hl4, hp4, hR4⟩; exact absurd ⟨hl4, hp4⟩ HQ.out)
    obtain ⟨hl, hps⟩ := hq
    subst hl
    have hgp : (s.data.toList.drop p).drop (gapLen (s.data.toList.drop p)) = s.data.toList.drop (p + gapLen (s.data.toList.drop p)) := List.drop_drop
    rw [hgp]
    have hgw := fun (W : World) (tv : Value) (h : At W3 (w.heap.size + 1 + 1 + 1) s (p : Int) tv W) => gap_walk W3 W (w.heap.size + 1 + 1 + 1) s p tv h hps hs
    have hgle : p + gapLen (s.data.toList.drop p) ≤ s.size := by
      have h1 := gap_le (s.data.toList.drop p)
      rw [List.length_drop, hln] at h1
      omega
    clear hgp
    generalize p + gapLen (s.data.toList.drop p) = q at *
    have HGW := Aside0.mk hgw
    clear hgw
    by_cases hend : s.data.toList.drop q = []
    rotate_left
    · rw [if_neg hend]
      have hql : q < s.size := by
        rcases Nat.lt_or_ge q s.size with h | h
        · exact h
        · exact absurd (List.drop_eq_nil_of_le (by omega)) hend
      have hd : decide ((q : Int) < (s.size : Int)) = true := decide_eq_true (by omega)
      have hd2 : decide (q < s.size) = true := decide_eq_true hql
      have HE := Aside0.mk hend
      clear hend
      go_enter_defers Tryd.func19, Tryd.ntmps19
      go_wp2_with (first
        | (go_at_call 33; refine hvw.mono ?_; rintro e w4 ⟨rfl, -, -, tv', hR4, hk4, hrw4⟩)
        | (go_at_call 34; refine (HGW.out w4 tv' hR4.1).mono ?_; rintro e w5 ⟨rfl, hA5, hk5⟩; have hc0 := hA5.c0; have hc1 := hA5.c1))
      go_quiet (fail)
      go_wp2_with (go_at_call 35; refine (fail_walk _ _ _).mono ?_; rintro e w6 ⟨rfl, rfl⟩)
      have hB6 : ∀ n, Below W3.heap.size W3 (w5.drewN n) := fun n => (hA5.drewN n).2.1
      refine leaves_cons (f := 32) (args := #[.pointer (some ⟨w.heap.size, 0, none⟩), .pointer (some ⟨w.heap.size + 1, 0, none⟩), .pointer (some ⟨w.heap.size + 1 + 1, 0, none⟩)]) (by simp) (by simp [go_sem]) ?_
      refine (close_stopped w.heap.size (.slice none 0 0) 0 0 (q : Int) 22 [] _ (((hB6 _).block _ (blk_lt hb0)).trans hb0) (((hB6 _).block _ (blk_lt hb1)).trans hb1) (((hB6 _).block _ (blk_lt hb2)).trans hb2)).mono ?_
      rintro e u' w7 ⟨rfl, rfl, hB7, hc70, hc71, hc72⟩
      simp [Leaves, settle, results, Tryd.results19, go_sem, hc70, hc71, hc72]
      exact ⟨(below_then hB hB.size (hB6 _)).trans hB7, rfl⟩
    · rw [if_pos hend]
      have hql : s.size ≤ q := by
        have := List.drop_eq_nil_iff.1 hend
        omega
      have hd : decide ((q : Int) < (s.size : Int)) = false := decide_eq_false (by omega)
      have hd2 : decide (q < s.size) = false := decide_eq_false (by omega)
      have HE := Aside0.mk hend
      clear hend
      go_enter_defers Tryd.func19, Tryd.ntmps19
      go_wp2_with (first
        | (go_at_call 33; refine hvw.mono ?_; rintro e w4 ⟨rfl, -, -, tv', hR4, hk4, hrw4⟩)
        | (go_at_call 34; refine (HGW.out w4 tv' hR4.1).mono ?_; rintro e w5 ⟨rfl, hA5, hk5⟩; have hc0 := hA5.c0; have hc1 := hA5.c1; have hc2 := hA5.c2; have hR5 := hR4.moved hA5 hk5))
      have hp5 := (hA5.2.1.block _ (blk_lt hb0)).trans hb0
      have hq5 := (hA5.2.1.block _ (blk_lt hb1)).trans hb1
      have hr5 := (hA5.2.1.block _ (blk_lt hb2)).trans hb2
      obtain ⟨A', c', rfl⟩ := hR5.slice
      have hfp := blk_frozen hp5 0
      have hcp := blk_cell hp5 0
      have hfq := blk_frozen hq5 0
      have hcq := blk_cell hq5 0
      have hfr := blk_frozen hr5 0
      have hcr := blk_cell hr5 0
      go_quiet (fail)
      go_wp2
      have hdr : Below w5.heap.size w5 (w5.drewN nq) := pw_below_drewN (Below.refl _ _) _
      have hA6 := hA5.drewN nq
      have hR6 := hR5.below hdr
      have hp6 := blk_below hp5 hdr
      have hq6 := blk_below hq5 hdr
      have hr6 := blk_below hr5 hdr
      generalize w5.drewN nq = W6 at *
      have e0 := blk_cell (blk_far (blk_far (blk_put hp6 0 (.slice A' v.1.length c') rfl) (p := ⟨w.heap.size + 1, 0, none⟩) (by show w.heap.size ≠ w.heap.size + 1; omega) (.int .i64 0)) (p := ⟨w.heap.size + 1 + 1, 0, none⟩) (by show w.heap.size ≠ w.heap.size + 1 + 1; omega) (.int .i64 0)) 0
      have e1 := blk_cell (blk_far (blk_put (blk_far hq6 (p := ⟨w.heap.size, 0, none⟩) (by show w.heap.size + 1 ≠ w.heap.size; omega) (.slice A' v.1.length c')) 0 (.int .i64 0) rfl) (p := ⟨w.heap.size + 1 + 1, 0, none⟩) (by show w.heap.size + 1 ≠ w.heap.size + 1 + 1; omega) (.int .i64 0)) 0
      have e2 := blk_cell (blk_put (blk_far (blk_far hr6 (p := ⟨w.heap.size, 0, none⟩) (by show w.heap.size + 2 ≠ w.heap.size; omega) (.slice A' v.1.length c')) (p := ⟨w.heap.size + 1, 0, none⟩) (by show w.heap.size + 2 ≠ w.heap.size + 1; omega) (.int .i64 0)) 0 (.int .i64 0) rfl) 0
      have hBf : Below w.heap.size w (((W6.setCell ⟨w.heap.size, 0, none⟩ (.slice A' v.1.length c')).setCell ⟨w.heap.size + 1, 0, none⟩ (.int .i64 0)).setCell ⟨w.heap.size + 1 + 1, 0, none⟩ (.int .i64 0)) :=
        (((below_then hB hB.size hA6.2.1).setCell (p := ⟨w.heap.size, 0, none⟩) (Nat.le_refl _) _).setCell (p := ⟨w.heap.size + 1, 0, none⟩) (Nat.le_succ _) _).setCell (p := ⟨w.heap.size + 1 + 1, 0, none⟩) (by show w.heap.size ≤ w.heap.size + 1 + 1; omega) _
      have hRf := Kd.R_far (Kd.R_far (Kd.R_far (Kd.R_bound hR6.2) (p := ⟨w.heap.size, 0, none⟩) (fun k hk => by have := hk.2.1; show k ≠ w.heap.size; omega) (.slice A' v.1.length c')) (p := ⟨w.heap.size + 1, 0, none⟩) (fun k hk => by have := hk.2.1; show k ≠ w.heap.size + 1; omega) (.int .i64 0)) (p := ⟨w.heap.size + 1 + 1, 0, none⟩) (fun k hk => by have := hk.2.1; show k ≠ w.heap.size + 1 + 1; omega) (.int .i64 0)
      have HF := Aside0.mk (And.intro hBf (Kd.R_lower (Kd.R_mono (ok' := fun _ => True) hRf (fun _ _ => trivial)) (show w.heap.size ≤ W3.heap.size by omega)))
      clear hBf hRf
      refine leaves_cons (f := 32) (args := #[.pointer (some ⟨w.heap.size, 0, none⟩), .pointer (some ⟨w.heap.size + 1, 0, none⟩), .pointer (some ⟨w.heap.size + 1 + 1, 0, none⟩)]) (by simp) (by simp [go_sem]) ?_
      refine (close_idle _ _ _ _).mono ?_
      rintro e u' w7 ⟨rfl, rfl, rfl⟩
      generalize ((W6.setCell ⟨w.heap.size, 0, none⟩ (.slice A' v.1.length c')).setCell ⟨w.heap.size + 1, 0, none⟩ (.int .i64 0)).setCell ⟨w.heap.size + 1 + 1, 0, none⟩ (.int .i64 0) = W9 at *
      simp [Leaves, settle, results, Tryd.results19, go_sem, e0, e1, e2]
      exact ⟨HF.out.1, _, rfl, HF.out.2⟩
end Go.Proofs.YtldlkoncndlbhaaDoor.Js
set_option linter.unusedVariables false
set_option linter.unusedSimpArgs false
namespace Go.Proofs.YtldlkoncndlbhaaDoor.Js
open Go.RowKit Go.Lib Go.Proofs.YtldlkoncndlbhaaDoorW.PrintWords Go.Proofs.YtldlkoncndlbhaaDoorW.PrintLast Go.Proofs.YtldlkoncndlbhaaDoorW.PrintMore
def numsOf (t : List UInt8) : List Int := t.map fun b => (b.toNat : Int)
/-- A row of bytes of the call's own; nothing below has turned; of what stood in 'a' only rows of bytes have. -/
def Rw (w0 a : World) (v : Value) (out : List UInt8) (w : World) : Prop :=
  w.ownsRow w0.heap.size 5 1 v out.length (byteCells out) ∧ Below w0.heap.size w0 w ∧ OthersKept 5 none a w
section
variable {w0 a0 w w' : World} {v : Value} {out : List UInt8}
section
variable {ops : Array Oper} {rest : List Oper} {o : Oper} {a : Act} {Q : Exit → Act → World → Prop} {K : Act → World → Prop}
end
end
section
variable {w0 a0 w : World} {v : Value} {out : List UInt8} {ops : Array Oper} {rest : List Oper} {o1 o2 : Oper} {a : Act} {Q : Exit → Act → World → Prop}
end
end Go.Proofs.YtldlkoncndlbhaaDoor.Js
set_option linter.unusedVariables false
set_option linter.unusedSimpArgs false
namespace Go.Proofs.YtldlkoncndlbhaaDoor.Js
open Go.ChangeShapes Go.WideShapes Go.RowKit Go.Lib Go.Proofs.YtldlkoncndlbhaaDoorW.PrintWords Go.Proofs.YtldlkoncndlbhaaDoorW.PrintLast Go.Proofs.YtldlkoncndlbhaaDoorW.PrintMore
/-- A slice that was given: bytes that lie there; it has an address if it has a byte, or it is nil. -/
def Gvn (w : World) (A : Option Addr) (xs : List UInt8) (c : Nat) : Prop := xs.length ≤ c ∧ c ≤ 9223372036854775807 ∧ ReadsInt w .u8 A xs.length (bytesOf (str xs)) ∧ (A = none → c = 0)
end Go.Proofs.YtldlkoncndlbhaaDoor.Js
set_option linter.unusedVariables false
set_option linter.unusedSimpArgs false
namespace Go.Proofs.YtldlkoncndlbhaaDoor.Js
open Go.RowKit Go.Lib Go.Proofs.YtldlkoncndlbhaaDoor.PSh Go.Proofs.YtldlkoncndlbhaaDoor.Np Go.Proofs.YtldlkoncndlbhaaDoorW.PrintWords Go.Proofs.YtldlkoncndlbhaaDoorW.PrintLast Go.Proofs.YtldlkoncndlbhaaDoorW.PrintMore
def same.T6 : Bool × List (List Nat × List Nat) := (true, [([], []), ([], []), ([0, 1], [0, 1]), ([2], [2]), ([], []), ([], []), ([4, 5], [4, 5]), ([6], [6]), ([], []), ([], []), ([8, 3, 0, 1, 2, 3, 8, 9], [3, 8]), ([9, 7, 10, 0, 1, 2, 3, 4, 5, 6, 7, 8, 9, 10], [7, 9])])
def same.B6 : List Nat := [0, 0, 3, 7, 0, 0, 48, 112, 0, 0, 783, 2047]
end Go.Proofs.YtldlkoncndlbhaaDoor.Js
set_option linter.unusedVariables false
set_option linter.unusedSimpArgs false
namespace Go.Proofs.YtldlkoncndlbhaaDoor.Js
open Go.RowKit Go.Lib Go.Proofs.YtldlkoncndlbhaaDoorW.PrintWords Go.Proofs.YtldlkoncndlbhaaDoorW.PrintLast Go.Proofs.YtldlkoncndlbhaaDoorW.PrintMore
section
variable {w0 a0 w : World} {v : Value} {out : List UInt8} {ops : Array Oper} {rest : List Oper} {o : Oper} {a : Act} {Q : Exit → Act → World → Prop}
end
end Go.Proofs.YtldlkoncndlbhaaDoor.Js
set_option linter.unusedVariables false
set_option linter.unusedSimpArgs false
namespace Go.Proofs.YtldlkoncndlbhaaDoor.Sr
open Go.RowKit Go.Lib Go.Proofs.YtldlkoncndlbhaaDoor.Utf Go.Proofs.YtldlkoncndlbhaaDoor.PSh Go.Proofs.YtldlkoncndlbhaaDoor.Np Go.Proofs.YtldlkoncndlbhaaDoor.Js Go.Proofs.YtldlkoncndlbhaaDoorW.PrintWords Go.Proofs.YtldlkoncndlbhaaDoorW.PrintLast Go.Proofs.YtldlkoncndlbhaaDoorW.PrintMore
/-- What Print gives of a tree that has been read. -/
theorem print_ok {l : List S39} {w : World} {A : Option Addr} {cp : Nat} (hG : Glob w) (hr : Kd.C k39 w A l.length l) (hc : l.length ≤ cp) (hs : Pure.Small l) (h0 : Pure.checkOf l = 0) :
    Calls Tryd.prog 14 #[.slice A l.length cp] w fun e w' => ∃ (A' : Option Addr) (c' : Nat), e = .returned (.tuple #[.slice A' (Wr.textOf l).length c', .int .i64 0]) ∧ ReadsInt w' .u8 A' (str (Wr.textOf l)).size (bytesOf (str (Wr.textOf l))) ∧ Below w.heap.size w w' := by
  refine (Pure.print_tells ⟨hG⟩ hr hc hs).mono fun e w' h => ?_
  obtain ⟨A', c', t, e1, h1, h2, h3⟩ := h
  rw [h0] at e1 h3
  obtain rfl : t = Wr.textOf l := h3
  exact ⟨A', c', e1, h1, h2⟩
end Go.Proofs.YtldlkoncndlbhaaDoor.Sr
namespace Go.Proofs.YtldlkoncndlbhaaDoor.Pure
open Go.RowKit Go.Proofs.YtldlkoncndlbhaaDoor.PSh Go.Proofs.YtldlkoncndlbhaaDoor.Cp Go.Proofs.YtldlkoncndlbhaaDoor.Aw Go.Proofs.YtldlkoncndlbhaaDoor.Wr Go.Proofs.YtldlkoncndlbhaaDoorW.PrintWords Go.Proofs.YtldlkoncndlbhaaDoorW.PrintLast Go.Proofs.YtldlkoncndlbhaaDoorW.PrintMore
set_option linter.unusedSimpArgs false
set_option linter.unusedVariables false
theorem same_tells {l l2 : List S39} {w : World} {A A2 : Option Addr} {cp cp2 : Nat} {b : Bool} (hG : Aside0 (Glob w)) (hr : Kd.C k39 w A l.length l) (hc : l.length ≤ cp) (hs : Small l)
    (hr2 : Kd.C k39 w A2 l2.length l2) (hc2 : l2.length ≤ cp2) (hs2 : Small l2) (hb : Aside0 ((checkOf l == 0 && checkOf l2 == 0 && (given (checkOf l) l == given (checkOf l2) l2)) = b)) :
    Calls Tryd.prog 16 #[.slice A l.length cp, .slice A2 l2.length cp2] w fun e w' => e = .returned (.bool b) ∧ Below w.heap.size w w' := by
  obtain ⟨K, hK⟩ := check_tells l hs.sz
  obtain ⟨K2, hK2⟩ := check_tells l2 hs2.sz
  rw [← hb.out]
  exact same_walk K K2 l l2 A A2 cp cp2 _ _ w hG hr hc hs.2 hr2 hc2 hs2.2 (hK K (Nat.le_refl _)) hs.ok (hK2 K2 (Nat.le_refl _)) hs2.ok
end Go.Proofs.YtldlkoncndlbhaaDoor.Pure
set_option linter.unusedVariables false
set_option linter.unusedSimpArgs false
namespace Go.Proofs.YtldlkoncndlbhaaDoor.Sb
open Go.RowKit Go.Lib Go.Proofs.YtldlkoncndlbhaaDoor.Utf Go.Proofs.YtldlkoncndlbhaaDoor.PSh Go.Proofs.YtldlkoncndlbhaaDoor.Np Go.Proofs.YtldlkoncndlbhaaDoor.Js Go.Proofs.YtldlkoncndlbhaaDoor.Cp Go.Proofs.YtldlkoncndlbhaaDoor.Sr Go.Proofs.YtldlkoncndlbhaaDoorW.PrintWords Go.Proofs.YtldlkoncndlbhaaDoorW.PrintLast Go.Proofs.YtldlkoncndlbhaaDoorW.PrintMore
theorem parse_big (b : List UInt8) (h : 65536 < b.length) : ∃ p, parse b = .no p 20 := by
  unfold parse
  rw [if_pos (by omega)]
  exact ⟨_, rfl⟩
theorem print_not {l : List S39} {w : World} {A : Option Addr} {cp : Nat} (hG : Glob w) (hr : Kd.C k39 w A l.length l) (hc : l.length ≤ cp) (hs : Pure.Small l) {e0 : Int} (hck : Pure.checkOf l = e0) (he : e0 ≠ 0) :
    Calls Tryd.prog 14 #[.slice A l.length cp] w fun e w' => ∃ (A' : Option Addr) (c' : Nat), e = .returned (.tuple #[.slice A' 0 c', .int .i64 e0]) ∧ Below w.heap.size w w' := by
  refine (Pure.print_tells ⟨hG⟩ hr hc hs).mono fun e w' h => ?_
  obtain ⟨A', c', t, e1, h1, h2, h3⟩ := h
  rw [hck] at e1 h3
  obtain rfl : t = [] := h3.trans (if_neg he)
  exact ⟨A', c', e1, h2⟩
theorem same_true {l l2 : List S39} {w : World} {A A2 : Option Addr} {cp cp2 : Nat} (hG : Glob w) (hr : Kd.C k39 w A l.length l) (hc : l.length ≤ cp) (hs : Pure.Small l)
    (hr2 : Kd.C k39 w A2 l2.length l2) (hc2 : l2.length ≤ cp2) (hs2 : Pure.Small l2) (h1 : Pure.checkOf l = 0) (h2 : Pure.checkOf l2 = 0) (he : Wr.textOf l = Wr.textOf l2) :
    Calls Tryd.prog 16 #[.slice A l.length cp, .slice A2 l2.length cp2] w fun e w' => e = .returned (.bool true) ∧ Below w.heap.size w w' :=
  Pure.same_tells ⟨hG⟩ hr hc hs hr2 hc2 hs2 ⟨by rw [h1, h2]; unfold Wr.given; rw [if_pos rfl, if_pos rfl, he, beq_self_eq_true, beq_self_eq_true]; rfl⟩
set_option maxHeartbeats 4000000 in
set_option maxRecDepth 100000 in
theorem back_long (A : Option Addr) (c : Nat) (l : List S39) (w : World) (hG : Aside0 (Glob w)) (hbig : 500 < l.length) :
    Calls Tryd.prog 9 #[.slice A l.length c] w fun e w' => e = .returned (.bool true) ∧ Below w.heap.size w w' := by
  have hb1 : ((l.length : Int) > 500) = True := eq_true (by omega)
  have hb2 : ((500 : Int) < (l.length : Int)) = True := eq_true (by omega)
  go_enter Tryd.func9, Tryd.ntmps9
  go_wp2_with (go_at_call 10; refine (Aw.awake_walk w hG).mono ?_; rintro e w2 ⟨rfl, hb⟩)
  go_ret
  exact ⟨rfl, hb⟩
set_option maxHeartbeats 4000000 in
set_option maxRecDepth 100000 in
theorem back_not (A : Option Addr) (c : Nat) (l : List S39) (w : World) (hG : Aside0 (Glob w)) (hr : Kd.C k39 w A l.length l) (hc : l.length ≤ c) (hs : Pure.Small l) (hbig : l.length ≤ 500) (e0 : Int) (hck : Pure.checkOf l = e0) (he : e0 ≠ 0) :
    Calls Tryd.prog 9 #[.slice A l.length c] w fun e w' => e = .returned (.bool true) ∧ Below w.heap.size w w' := by
  have hsl := Aside0.mk hs.slots
  have hb1 : ((l.length : Int) > 500) = False := eq_false (by omega)
  have hb2 : ((500 : Int) < (l.length : Int)) = False := eq_false (by omega)
  have he1 : (e0 != 0) = true := bne_iff_ne.2 he
  have he3 : (e0 = 0) = False := eq_false he
  have hp := fun (w' : World) (A' : Option Addr) (cp : Nat) (h1 : Glob w') (h2 : Kd.C k39 w' A' l.length l) (h3 : l.length ≤ cp) => print_not h1 h2 h3 hs hck he
  go_enter Tryd.func9, Tryd.ntmps9
  go_wp2_with (first
    | (go_at_call 10; refine (Aw.awake_walk w hG).mono ?_; rintro e w2 ⟨rfl, hb⟩; have hr2 := Kd.C_below hr hb)
    | (go_at_call 12; refine (copied_walk l A c w2 hr2 hc (by omega) hsl.out).mono ?_; rintro e w3 ⟨v, rfl, hN, hb3⟩; obtain ⟨A3, c3, rfl, hc3, hr3⟩ := Kd.N_reads hN; have hB3 := hb.trans (hb3.mono hb.size); have hG3 := hG.out.below hB3)
    | (go_at_call 14; (with_reducible refine (hp w3 A3 c3 hG3 hr3 hc3).mono ?_); rintro e w4 ⟨A4, c4, rfl, hb4⟩; have hB4 := hB3.trans (hb4.mono hB3.size)))
  go_ret
  exact ⟨rfl, hB4⟩
set_option maxHeartbeats 4000000 in
set_option maxRecDepth 100000 in
theorem back_big (A : Option Addr) (c : Nat) (l : List S39) (w : World) (hG : Aside0 (Glob w)) (hGN : Aside0 (GlobN w)) (hr : Kd.C k39 w A l.length l) (hc : l.length ≤ c) (hs : Pure.Small l) (hbig : l.length ≤ 500) (hck : Pure.checkOf l = 0) (T : List UInt8) (hT : Wr.textOf l = T) (hl : 65536 < T.length) :
    Calls Tryd.prog 9 #[.slice A l.length c] w fun e w' => e = .returned (.bool true) ∧ Below w.heap.size w w' := by
  have hsl := Aside0.mk hs.slots
  have hb1 : ((l.length : Int) > 500) = False := eq_false (by omega)
  have hb2 : ((500 : Int) < (l.length : Int)) = False := eq_false (by omega)
  have d1 : ((65536 : Int) < (T.length : Int)) = True := eq_true (by omega)
  have d2 : ((T.length : Int) > 65536) = True := eq_true (by omega)
  obtain ⟨p, hpp⟩ := parse_big T hl
  have hp := fun (w' : World) (A' : Option Addr) (cp : Nat) (h1 : Glob w') (h2 : Kd.C k39 w' A' l.length l) (h3 : l.length ≤ cp) => print_ok h1 h2 h3 hs hck
  rw [hT] at hp
  have hpw := fun (w' : World) (A' : Option Addr) (cp : Nat) => parse_walk_big w' A' T.length cp T rfl hl
  rw [hpp] at hpw
  go_enter Tryd.func9, Tryd.ntmps9
  go_wp2_with (first
    | (go_at_call 10; refine (Aw.awake_walk w hG).mono ?_; rintro e w2 ⟨rfl, hb⟩; have hr2 := Kd.C_below hr hb)
    | (go_at_call 12; refine (copied_walk l A c w2 hr2 hc (by omega) hsl.out).mono ?_; rintro e w3 ⟨v, rfl, hN, hb3⟩; obtain ⟨A3, c3, rfl, hc3, hr3⟩ := Kd.N_reads hN; have hB3 := hb.trans (hb3.mono hb.size); have hG3 := hG.out.below hB3)
    | (go_at_call 14; (with_reducible refine (hp w3 A3 c3 hG3 hr3 hc3).mono ?_); rintro e w4 ⟨A4, c4, rfl, hrd4, hb4⟩; have hB4 := hB3.trans (hb4.mono hB3.size))
    | (go_at_call 19; (with_reducible refine (hpw _ _ _).mono ?_); rintro e w5 ⟨hb5, rfl⟩; have hB5 := hB4.trans (hb5.mono hB4.size)))
  go_ret
  exact ⟨rfl, hB5⟩
set_option maxHeartbeats 4000000 in
set_option maxRecDepth 100000 in
theorem back_some (A : Option Addr) (c : Nat) (l : List S39) (w : World) (hG : Aside0 (Glob w)) (hGN : Aside0 (GlobN w)) (hr : Kd.C k39 w A l.length l) (hc : l.length ≤ c) (hs : Pure.Small l) (hbig : l.length ≤ 500) (hck : Pure.checkOf l = 0) (T : List UInt8) (hT : Wr.textOf l = T) (hl : T.length ≤ 65536) :
    Calls Tryd.prog 9 #[.slice A l.length c] w fun e w' => e = .returned (.bool true) ∧ Below w.heap.size w w' := by
  have hsl := Aside0.mk hs.slots
  have hb1 : ((l.length : Int) > 500) = False := eq_false (by omega)
  have hb2 : ((500 : Int) < (l.length : Int)) = False := eq_false (by omega)
  have d1 : ((65536 : Int) < (T.length : Int)) = False := eq_false (by omega)
  have d2 : ((T.length : Int) > 65536) = False := eq_false (by omega)
  obtain ⟨u, hpp, huk, hut, hu0, hu8⟩ := read_back l hck (by rw [hT]; exact hl)
  rw [hT] at hpp hut
  have hcost := parse_cost T hpp
  have hus : Pure.Small u := Pure.Small.of (by omega)
  have hp := fun (w' : World) (A' : Option Addr) (cp : Nat) (h1 : Glob w') (h2 : Kd.C k39 w' A' l.length l) (h3 : l.length ≤ cp) => print_ok h1 h2 h3 hs hck
  have hq := fun (w' : World) (A' : Option Addr) (cp : Nat) (h1 : Glob w') (h2 : Kd.C k39 w' A' u.length u) (h3 : u.length ≤ cp) => print_ok h1 h2 h3 hus huk
  rw [hT] at hp
  rw [hut] at hq
  have hE : Wr.textOf u = Wr.textOf l := hut.trans hT.symm
  go_enter Tryd.func9, Tryd.ntmps9
  go_wp2_with (first
    | (go_at_call 10; refine (Aw.awake_walk w hG).mono ?_; rintro e w2 ⟨rfl, hb⟩; have hr2 := Kd.C_below hr hb)
    | (go_at_call 12; refine (copied_walk l A c w2 hr2 hc (by omega) hsl.out).mono ?_; rintro e w3 ⟨v, rfl, hN, hb3⟩; obtain ⟨A3, c3, rfl, hc3, hr3⟩ := Kd.N_reads hN; have hB3 := hb.trans (hb3.mono hb.size); have hG3 := hG.out.below hB3)
    | (go_at_call 14; (with_reducible refine (hp w3 A3 c3 hG3 hr3 hc3).mono ?_); rintro e w4 ⟨A4, c4, rfl, hrd4, hb4⟩; have hB4 := hB3.trans (hb4.mono hB3.size); have hG4 := hG.out.below hB4; have hpw := parse_walk w4 A4 c4 (str T) hG4 (hGN.out.below hB4) (by show T.length ≤ 65536; omega) hrd4; rw [show (str T).data.toList = T from rfl, hpp, show (str T).size = T.length from rfl] at hpw)
    | (go_at_call 19; (with_reducible refine hpw.mono ?_); rintro e w5 ⟨hb5, tv, rfl, hR5⟩; obtain ⟨g1, c5, rfl, -, -, -⟩ := Kd.R_form hR5 hu0; have hC5 := (Kd.R_reads' hR5).2.2; have hc5 := (Kd.R_reads' hR5).2.1; clear hR5; have hB5 := hB4.trans (hb5.mono hB4.size); have hG5 := hG.out.below hB5)
    | (go_at_call 14; (with_reducible refine (hq w5 _ _ hG5 hC5 hc5).mono ?_); rintro e w6 ⟨A6, c6, rfl, hrd6, hb6⟩; have hB6 := hB5.trans (hb6.mono hB5.size); have hC6 := Kd.C_below hC5 hb6; have hG6 := hG.out.below hB6; have hr6 := Kd.C_below hr hB6; have k1 := Pure.as_string (A := A4) (c := c4) (t := T) (hrd4.below (hb5.trans (hb6.mono hb5.size))); have k2 := Pure.as_string (A := A6) (c := c6) (t := T) hrd6)
    | (go_at_call 16; (with_reducible refine (same_true hG6 hC6 hc5 hus hr6 hc hs huk hck hE).mono ?_); rintro e w7 ⟨rfl, hb7⟩; have hB7 := hB6.trans (hb7.mono hB6.size); have hC7 := Kd.C_below hC6 hb7; have hr7 := Kd.C_below hr hB7; have hG7 := hG.out.below hB7)
    | (go_at_call 16; (with_reducible refine (same_true hG7 hr7 hc hs hC7 hc5 hus hck huk hE.symm).mono ?_); rintro e w8 ⟨rfl, hb8⟩; have hB8 := hB7.trans (hb8.mono hB7.size)))
  go_ret
  exact ⟨rfl, hB8⟩
theorem showBack_walk (A : Option Addr) (c : Nat) (l : List S39) (w : World) (hG : Aside0 (Glob w)) (hGN : Aside0 (GlobN w)) (hr : Kd.C k39 w A l.length l) (hc : l.length ≤ c) (hcost : (l.map Rd.cost).sum ≤ 1048576) :
    Calls Tryd.prog 9 #[.slice A l.length c] w fun e w' => e = .returned (.bool true) ∧ Below w.heap.size w w' := by
  have hs : Pure.Small l := Pure.Small.of hcost
  by_cases hbig : 500 < l.length
  · exact back_long A c l w hG hbig
  · by_cases hck : Pure.checkOf l = 0
    · by_cases hl : 65536 < (Wr.textOf l).length
      · exact back_big A c l w hG hGN hr hc hs (by omega) hck _ rfl hl
      · exact back_some A c l w hG hGN hr hc hs (by omega) hck _ rfl (by omega)
    · exact back_not A c l w hG hr hc hs (by omega) _ rfl hck
end Go.Proofs.YtldlkoncndlbhaaDoor.Sb
namespace Go.Proofs.YtldlkoncndlbhaaDoor.LaidJ
open Go.ChangeShapes Go.WideShapes Go.ChangeAt Go.RowKit Go.Proofs.YtldlkoncndlbhaaDoorW.PrintWords Go.Proofs.YtldlkoncndlbhaaDoor.Np Go.Proofs.YtldlkoncndlbhaaDoor.Js
/-- A table of integers that reads as listed. -/
theorem tab_is {P : Program} {W : World} {name : String} {k : IntKind} {zs : List Int} {g : Nat} {t e : TypeId} {n : Nat}
    (hg : P.globalNamed name = some g) (hty : (P.globals[g]?).map (·.type) = some t) (ht : P.underlying t = some (.array n e)) (he : P.underlying e = some (.int k)) (hce : P.cellsOf e = 1) (hct : P.cellsOf t = n)
    (h : Lib.VarReads P W name (Lib.tabData k zs)) : Lib.TabIs P W name k zs := by
  obtain ⟨g', t', cs, fuel, p, hg', ht', hvar, hd⟩ := h
  obtain rfl := Option.some.inj (hg.symm.trans hg')
  obtain rfl := Option.some.inj (hty.symm.trans ht')
  unfold Lib.TabIs
  rw [hvar, ← Lib.cells_of_tab ht he hce hct hd]
def laid : List (String × DataW Unit) := [("math/bits.deBruijn32tab", Rows.laid_math_bits_deBruijn32tab), ("math/bits.deBruijn64tab", Rows.laid_math_bits_deBruijn64tab), ("internal/strconv.uint64pow10", Rows.laid_internal_strconv_uint64pow10), ("unicode/utf8.acceptRanges", Rows.laid_unicode_utf8_acceptRanges), ("strconv.ErrRange", Rows.laid_strconv_ErrRange), ("strconv.ErrSyntax", Rows.laid_strconv_ErrSyntax), ("unicode/utf8.first", Rows.laid_unicode_utf8_first)]
theorem dataPow : Rows.laid_internal_strconv_uint64pow10 (H := Unit) = Lib.tabData .u64 Lib.pow10Tab := by kernel_rfl
theorem dataAcc : Rows.laid_unicode_utf8_acceptRanges (H := Unit) = Lib.acceptData := by kernel_rfl
theorem dataFirst : Rows.laid_unicode_utf8_first = Lib.firstData := by kernel_rfl
/-- The seat's numbers of the types and variables that the table's law names. -/
def ren : Shelf.Ren := ⟨fun f => f, fun t => if t = 5 then 5 else if t = 119 then 84 else if t = 138 then 86 else 87, fun g => if g = 3 then 0 else 1⟩
theorem types : U8Types Tryd.prog ren := ⟨by kernel_rfl, by kernel_rfl, by kernel_rfl, by kernel_rfl⟩
theorem extra : U8Extra Tryd.prog ren := ⟨by kernel_rfl, by kernel_rfl, by kernel_rfl, by kernel_rfl, by kernel_rfl, by kernel_rfl, by kernel_rfl⟩
theorem star : "*errors.errorString" = "*" ++ "errors.errorString" := by decide +kernel
theorem rowErr (u : TypeId) (h : Tryd.prog.typeName? 3 u = some "*errors.errorString") : u = 125 :=
  typeName_ptr_named (nm := "errors.errorString") (by rw [← star]; kernel_rfl) (by kernel_rfl) (by decide) u (by rw [← star]; exact h)
theorem glob_of_laid {W : World} (h : laidMetH Tryd.prog laid W) : Glob W ∧ GlobN W := by
  rw [MakeChecks.laidMetH_plain _ _ _ (by kernel_rfl)] at h
  have hp := Lib.laidMet.reads h (n := "internal/strconv.uint64pow10") (d := Rows.laid_internal_strconv_uint64pow10) (by simp [laid])
  rw [dataPow] at hp
  have ha := Lib.laidMet.reads h (n := "unicode/utf8.acceptRanges") (d := Rows.laid_unicode_utf8_acceptRanges) (by simp [laid])
  rw [dataAcc] at ha
  have hf := Lib.laidMet.reads h (n := "unicode/utf8.first") (d := Rows.laid_unicode_utf8_first) (by simp [laid])
  rw [dataFirst] at hf
  have h3 : laidMet Tryd.prog [("strconv.ErrRange", Rows.laid_strconv_ErrRange), ("strconv.ErrSyntax", Rows.laid_strconv_ErrSyntax), ("unicode/utf8.first", Rows.laid_unicode_utf8_first)] W := laidMet.tail (laidMet.tail (laidMet.tail (laidMet.tail h)))
  obtain ⟨a1, s1, v1, _⟩ := laid_sentinel h3 (g := 4) (ti := 56) (tp := 125) (te := 127) (ts := 9) (by kernel_rfl) (by kernel_rfl) Tryd.underlying56 rowErr Tryd.underlying125 Tryd.underlying127 rfl rfl Tryd.underlying9 (by kernel_rfl) (by kernel_rfl)
  obtain ⟨a2, s2, v2, _⟩ := laid_sentinel (laidMet.tail h3) (g := 3) (ti := 56) (tp := 125) (te := 127) (ts := 9) (by kernel_rfl) (by kernel_rfl) Tryd.underlying56 rowErr Tryd.underlying125 Tryd.underlying127 rfl rfl Tryd.underlying9 (by kernel_rfl) (by kernel_rfl)
  have hpt := tab_is (P := Tryd.prog) (g := 2) (t := 115) (e := 98) (n := 20) (by kernel_rfl) (by kernel_rfl) Tryd.underlying115 Tryd.underlying98 (by kernel_rfl) (by kernel_rfl) hp
  exact ⟨⟨hpt, utf8Tabs_of_readsT types extra hf ha⟩, hpt, ⟨_, _, v2⟩, _, _, v1⟩
def firstCells : Array Value := (Go.Pinned.utf8FirstZ.map fun (n : Nat) => Value.int .u8 (n : Int)).toArray
/-- The heap that the door's own run leaves, utf8's table in its place (its text is pinned, not in the dump). -/
noncomputable def door (os : Os) : World := { World.doorLaid Tryd.prog 72 os with heap := (World.doorLaid Tryd.prog 72 os).heap.modify 0 fun o => match o with | .cells _ t fz => .cells firstCells t fz | o => o }
end Go.Proofs.YtldlkoncndlbhaaDoor.LaidJ
namespace Go.Proofs.YtldlkoncndlbhaaDoor.showBackUpto
open Go.ChangeShapes Go.WideShapes Go.ChangeAt Go.RowKit Go.Proofs.YtldlkoncndlbhaaDoor.PSh
set_option linter.unusedVariables false
theorem own : ownKnob Tryd.prog.godebug = none := by kernel_rfl
theorem laidOut : laidOutB Tryd.prog = true := by kernel_rfl
theorem reads (os : Os) {H : Type} (enc : TypeId × Value → H) : ∃ places, DataW.whole enc Tryd.prog ((LaidJ.door os).forCall (fun _ _ => 0) ⟨#[], #[.slice none 0 0], []⟩).memory Tryd.f9.params.toList Rows.showBackSpec.vars false (#[.slice none 0 0] : Array Value).toList 8 = some ([.nil], [], places) :=
  ⟨[], by kernel_rfl⟩
theorem met (os : Os) : laidMetH Tryd.prog Rows.showBackUptoRow.laid ((LaidJ.door os).forCall (fun _ _ => 0) ⟨#[], #[.slice none 0 0], []⟩).memory := laidMetH_of_parts3 (fuel := 8) (laidMet_of_run' 8 (by kernel_rfl) (by kernel_rfl)) (by kernel_rfl) (by kernel_rfl)
set_option maxRecDepth 100000 in
theorem lifted (os : Os) (started : os.Started) (H : Type) (enc : TypeId × Value → H) (F : Stop.Interp) :
    ReturnsInHanded {} Tryd.checked os 9 .any ((Rows.OpenSpec.upto Rows.showBackSpec).preRow enc Tryd.prog Tryd.f9 Rows.showBackUptoRow.domain false Rows.showBackUptoRow.laid) (((Rows.OpenSpec.upto Rows.showBackSpec).at F).post enc Tryd.prog Tryd.f9 false true false false) := by
  obtain ⟨places, hx⟩ := reads os enc
  refine returnsInHanded_of_row (C := Tryd.checked) (s := Rows.OpenSpec.upto Rows.showBackSpec) own started (by kernel_rfl) Tryd.func9
    (witness_row_atRef (enc := enc) (C := Tryd.checked) false (LaidJ.door os) #[.slice none 0 0] rfl (by kernel_rfl) (by kernel_rfl) (by kernel_rfl)
      (OpenSpec.preRow_of_cond 8 hx (by kernel_rfl) (fun k hk => by cases hk; kernel_rfl) (by kernel_rfl) (met os))) ?_
  intro W base args ds gs before hval0 hW _ hcond _ hL _ _
  have hbulk : Rows.uptoBulkAll (ds ++ gs) ≤ 1048576 := Bulk.small (hcond _ rfl)
  have hval : ∀ (j : Nat) t v, Tryd.f9.params[j]? = some t → args[j]? = some v → Value.okWide Tryd.prog W .any base t v := hval0
  have hW' := hW
  obtain ⟨p, q, hA0, hV, rfl, hfz, hnd⟩ := hW
  have hA : DataW.TrodAll enc Tryd.prog W 0 (fun _ => true) true Tryd.f9.params.toList args.toList ds p := hA0
  rw [Tryd.params9] at hA hval
  obtain ⟨v0, vs0, d0, ds0, p0, q0, hargs, rfl, rfl, h0, r0⟩ := trodAll_cons hA
  obtain ⟨rfl, rfl, rfl⟩ := trodAll_nil r0
  obtain rfl : args = #[v0] := by cases args; simp_all
  obtain ⟨rfl, rfl⟩ := trodVars_none hV
  obtain ⟨a0, len0, cap0, rfl⟩ := okWide_slice Tryd.underlying23 (hval 0 23 v0 rfl rfl)
  have k0 := h0
  have lt0 : ∀ x ∈ p0, x.block < W.heap.size := by obtain ⟨m, hm⟩ := k0; exact DataW.trod_lt m _ _ _ hm
  obtain ⟨fuel0, hf0⟩ := h0
  obtain ⟨A0, c0, l0, hcs0, hlc0, hC0, hb0⟩ := Rd.tree_ofB hf0
  simp [Value.cells] at hcs0
  obtain ⟨rfl, rfl, rfl⟩ := hcs0
  have hs0 : (l0.map Rd.cost).sum ≤ 1048576 := Nat.le_trans hb0 (Nat.le_trans (Bulk.part_le (by simp)) hbulk)
  clear hA0 hval0 hcond
  refine (Sb.showBack_walk _ _ l0 W ⟨(LaidJ.glob_of_laid hL).1⟩ ⟨(LaidJ.glob_of_laid hL).2⟩ hC0 hlc0 hs0).mono fun e W' ⟨he, bel⟩ => ?_
  subst he
  exact ⟨_, rfl, _, _, _, [], _, [], hW', trodAll_mk1 (shut_bool Tryd.underlying4 _), (trodAll_cons_mk (Below.trod laidOut (by kernel_rfl) (of_decide_eq_true (by kernel_rfl)) k0 bel lt0) trodAll_mk0), rfl, bel.frame _, fun h => by cases h⟩
theorem over : Rows.ShowBackUptoSaid :=
  OpenClaim.holds_of_cond 9 Tryd.f9 rfl rfl rfl rfl rfl rfl rfl ⟨rfl, rfl, rfl, rfl, rfl⟩ rfl rfl rfl rfl rfl (by kernel_rfl) Tryd.func9 (by kernel_rfl)
    (of_decide_eq_true (by kernel_rfl)) (by unfold Func.isWrapper; first | (rw [if_pos (by decide +kernel)]; kernel_rfl) | (rw [if_neg (by decide +kernel)]; exact ⟨rfl, rfl⟩))
    (fun os started H enc _ F => by rw [OpenClaim.pre_eq_preRow]; exact lifted os started H enc F)
theorem card : Rows.ShowBackUptoCardSaid :=
  Claim7.holds_tied_plain_at .later [] [.data, .data, .data, .data, .sentinel, .sentinel, .pinned] true (true, "f7f64af52245c68ce9e21da70b951672bd4e299224670fb1b5d98f932e9bff4c") true
    over (fun _ h => by cases h) (by kernel_rfl) (fun _ h => by cases h) showBackUpto_row_tie rfl ⟨rfl, rfl⟩ (by kernel_rfl) rfl
    (fun f fn hf hfn => by
      obtain rfl : f = 9 := Option.some.inj ((show Tryd.prog.funcNamed "haulier/haulierlaw03.ShowBack" = some 9 by kernel_rfl).symm.trans hf) |>.symm
      obtain rfl : fn = Tryd.f9 := (Option.some.inj (Tryd.func9.symm.trans hfn)).symm
      exact ⟨by kernel_rfl, fun j t ht => by
        rw [Tryd.params9] at ht
        have hm : t ∈ [23] := by simpa using Array.mem_of_getElem? ht
        have hall : ([23].all fun u => !Tryd.prog.wantsStandIn u) = true := by kernel_rfl
        exact (show Tryd.prog.wantsStandIn t = false by simpa using List.all_eq_true.1 hall t hm)⟩)
    (by kernel_rfl)
end Go.Proofs.YtldlkoncndlbhaaDoor.showBackUpto
namespace Go.Proofs.YtldlkoncndlbhaaDoor
/-- The card, under a short name, for the claim. -/
theorem showBack_upto : Rows.ShowBackUptoCardSaid := showBackUpto.card
end Go.Proofs.YtldlkoncndlbhaaDoor
