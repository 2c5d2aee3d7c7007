/- json.Parse walked. -/
import Derived.Test.YtipbcdjnemdciaaDoorClose
import Derived.BigQuiet
set_option linter.unusedVariables false
set_option linter.unusedSimpArgs false
namespace Go.Proofs.YtipbcdjnemdciaaDoor.Js
open Go.RowKit Go.Lib Go.Proofs.YtipbcdjnemdciaaDoor.PSh Go.Proofs.YtipbcdjnemdciaaDoor.Np Go.Proofs.YtipbcdjnemdciaaDoorW.PrintWords Go.Proofs.YtipbcdjnemdciaaDoorW.PrintLast Go.Proofs.YtipbcdjnemdciaaDoorW.PrintMore

/-- What json.Parse leaves: a tree in a row of its own, place 0, number 0; or no tree, the place and the number. -/
def ParseEnds (w : World) (r : R (List S39)) : Ending → World → Prop := fun e w' => Below w.heap.size w w' ∧ match r with
  | .ok _ _ t => ∃ tv, e = .returned (.tuple #[tv, .int .i64 0, .int .i64 0]) ∧ Kd.R k39 39 w' w.heap.size (fun _ => True) tv t
  | .no p n => e = .returned (.tuple #[.slice none 0 0, .int .i64 (p : Int), .int .i64 n])

set_option maxHeartbeats 8000000 in
set_option maxRecDepth 100000 in
theorem parse_walk_big (w : World) (A : Option Addr) (n c : Nat) (bs : List UInt8) (hl : bs.length = n) (hbig : 65536 < n) :
    Calls Tryd.prog 10 #[.slice A n c] w (ParseEnds w (parse bs)) := by
  unfold parse
  rw [if_pos (by omega)]
  have hmf : ∀ (fn : Fn) (first cap : Array Value) (w : World), (Instr.makeFunc fn first cap).run Tryd.prog w = .ok (.func fn first cap) w := fun _ _ _ _ => rfl
  have h1 : decide ((65536 : Int) < (n : Int)) = true := decide_eq_true (by omega)
  go_enter_defers Tryd.func10, Tryd.ntmps10
  go_wp2
  have hB := below_alloc (below_alloc (below_alloc (Below.refl w.heap.size w) (.cells #[.slice none 0 0] 26)) (.cells #[.int .i64 65536] 3)) (.cells #[.int .i64 20] 27)
  simp [bodyPostD, Leaves, settle, results, Tryd.results10, go_sem]
  exact ⟨hB, rfl⟩

set_option maxHeartbeats 8000000 in
set_option maxRecDepth 100000 in
theorem parse_walk (w : World) (A : Option Addr) (c : Nat) (s : ByteArray) (hG : Glob w) (hGN : GlobN w) (hs : s.size ≤ 65536) (hr : ReadsInt w .u8 A s.size (bytesOf s)) :
    Calls Tryd.prog 10 #[.slice A s.size c] w (ParseEnds w (parse s.data.toList)) := by
  have hln := data_length s
  unfold parse
  rw [if_neg (by omega)]
  have hmf : ∀ (fn : Fn) (first cap : Array Value) (w : World), (Instr.makeFunc fn first cap).run Tryd.prog w = .ok (.func fn first cap) w := fun _ _ _ _ => rfl
  have h1 : decide ((65536 : Int) < (s.size : Int)) = false := decide_eq_false (by omega)
  have hB := below_alloc (below_alloc (below_alloc (Below.refl w.heap.size w) (.cells #[.slice none 0 0] 26)) (.cells #[.int .i64 0] 3)) (.cells #[.int .i64 0] 27)
  have hcv : ∀ W, Below w.heap.size w W → (convert 22 9 (.slice A s.size c)).run Tryd.prog W = .ok (.string s) W := fun W hW => by
    have := string_of_reads (P := Tryd.prog) (src := 22) (dst := 9) (e := 5) (c := c) Tryd.underlying22 Tryd.underlying5 Tryd.underlying9 (hr.below hW)
    rw [this]
    unfold bytesOf
    rw [strOfNums_bytes]
  have hcv1 := hcv _ hB
  obtain ⟨W3, hW3⟩ : ∃ W3, ((w.alloc (.cells #[.slice none 0 0] 26)).alloc (.cells #[.int .i64 0] 3)).alloc (.cells #[.int .i64 0] 27) = W3 := ⟨_, rfl⟩
  have hsz : W3.heap.size = w.heap.size + 1 + 1 + 1 := by rw [← hW3]; simp
  rw [hW3] at hB hcv1
  have hAt : At W3 W3.heap.size s ((0 : Nat) : Int) (.slice none 0 0) (W3.alloc (.cells #[.string s, .int .i64 0, .slice none 0 0] 43)) := ⟨Nat.le_refl _, below_alloc (Below.refl _ _) _, blk_new _ _⟩
  have hGv : Given W3 W3.heap.size s 0 (fun _ => True) (.slice none 0 0) [] (W3.alloc (.cells #[.string s, .int .i64 0, .slice none 0 0] 43)) := ⟨⟨hAt, Kd.R_nil _ _ _ _ _⟩, fun _ _ => trivial, Nat.zero_le _⟩
  have hvw := value_walk W3 W3.heap.size s ⟨hG.below hB⟩ ⟨hGN.below hB⟩ hs (2 * s.data.toList.length + 2) 0 0 _ _ _ _ hGv (by omega) (by omega)
  have hb0 : W3.heap[w.heap.size]? = some (.cells #[.slice none 0 0] 26 (0, 0)) := by rw [← hW3]; exact blk_below (blk_below (blk_new _ _) (below_alloc (Below.refl _ _) _)) (below_alloc (Below.refl _ _) _)
  have hb1 : W3.heap[w.heap.size + 1]? = some (.cells #[.int .i64 0] 3 (0, 0)) := by
    rw [← hW3]
    have h := blk_new (w.alloc (.cells #[.slice none 0 0] 26)) (.cells #[.int .i64 0] 3)
    have e : (w.alloc (.cells #[.slice none 0 0] 26)).heap.size = w.heap.size + 1 := by simp
    rw [e] at h
    exact blk_below h (below_alloc (Below.refl _ _) _)
  have hb2 : W3.heap[w.heap.size + 2]? = some (.cells #[.int .i64 0] 27 (0, 0)) := by
    rw [← hW3]
    have h := blk_new ((w.alloc (.cells #[.slice none 0 0] 26)).alloc (.cells #[.int .i64 0] 3)) (.cells #[.int .i64 0] 27)
    have e : ((w.alloc (.cells #[.slice none 0 0] 26)).alloc (.cells #[.int .i64 0] 3)).heap.size = w.heap.size + 2 := by simp
    rw [e] at h
    exact h
  rw [List.drop_zero, hsz] at hvw
  generalize value (2 * s.data.toList.length + 2) 0 s.data.toList 0 [] = rv at *
  cases rv with
  | no pp ee =>
    rw [R.bind_no]
    clear hcv
    go_enter_defers Tryd.func10, Tryd.ntmps10
    go_wp2_with (go_at_call 17; refine hvw.mono ?_; rintro e w4 ⟨rfl, hB4⟩)
    refine leaves_cons (f := 16) (args := #[.pointer (some ⟨w.heap.size, 0, none⟩), .pointer (some ⟨w.heap.size + 1, 0, none⟩), .pointer (some ⟨w.heap.size + 1 + 1, 0, none⟩)]) (by simp) (by simp [go_sem]) ?_
    refine (close_stopped w.heap.size (.slice none 0 0) 0 0 (pp : Int) ee [] w4 ((hB4.block _ (blk_lt hb0)).trans hb0) ((hB4.block _ (blk_lt hb1)).trans hb1) ((hB4.block _ (blk_lt hb2)).trans hb2)).mono ?_
    rintro e u' w5 ⟨rfl, rfl, hB5, hc0, hc1, hc2⟩
    simp [Leaves, settle, results, Tryd.results10, go_sem, hc0, hc1, hc2]
    exact ⟨(below_then hB hB.size hB4).trans hB5, rfl⟩
  | ok l p v =>
    rw [R.bind_ok]
    clear hcv
    by_cases hq : l = s.data.toList.drop p ∧ p ≤ s.size
    rotate_left
    · have HQ := Aside0.mk hq
      clear hq
      go_enter_defers Tryd.func10, Tryd.ntmps10
      go_wp2_with (go_at_call 17; refine hvw.mono ?_; rintro e w4 ⟨rfl, hl4, hp4, hR4⟩; exact absurd ⟨hl4, hp4⟩ HQ.out)
    obtain ⟨hl, hps⟩ := hq
    subst hl
    have hgp : (s.data.toList.drop p).drop (gapLen (s.data.toList.drop p)) = s.data.toList.drop (p + gapLen (s.data.toList.drop p)) := List.drop_drop
    rw [hgp]
    have hgw := fun (W : World) (tv : Value) (h : At W3 (w.heap.size + 1 + 1 + 1) s (p : Int) tv W) => gap_walk W3 W (w.heap.size + 1 + 1 + 1) s p tv h hps hs
    have hgle : p + gapLen (s.data.toList.drop p) ≤ s.size := by
      have h1 := gap_le (s.data.toList.drop p)
      rw [List.length_drop, hln] at h1
      omega
    clear hgp
    generalize p + gapLen (s.data.toList.drop p) = q at *
    have HGW := Aside0.mk hgw
    clear hgw
    by_cases hend : s.data.toList.drop q = []
    rotate_left
    · rw [if_neg hend]
      have hql : q < s.size := by
        rcases Nat.lt_or_ge q s.size with h | h
        · exact h
        · exact absurd (List.drop_eq_nil_of_le (by omega)) hend
      have hd : decide ((q : Int) < (s.size : Int)) = true := decide_eq_true (by omega)
      have hd2 : decide (q < s.size) = true := decide_eq_true hql
      have HE := Aside0.mk hend
      clear hend
      go_enter_defers Tryd.func10, Tryd.ntmps10
      go_wp2_with (first
        | (go_at_call 17; refine hvw.mono ?_; rintro e w4 ⟨rfl, -, -, tv', hR4, hk4, hrw4⟩)
        | (go_at_call 18; refine (HGW.out w4 tv' hR4.1).mono ?_; rintro e w5 ⟨rfl, hA5, hk5⟩; have hc0 := hA5.c0; have hc1 := hA5.c1))
      go_quiet (fail)
      go_wp2_with (go_at_call 19; refine (fail_walk _ _ _).mono ?_; rintro e w6 ⟨rfl, rfl⟩)
      have hB6 : ∀ n, Below W3.heap.size W3 (w5.drewN n) := fun n => (hA5.drewN n).2.1
      refine leaves_cons (f := 16) (args := #[.pointer (some ⟨w.heap.size, 0, none⟩), .pointer (some ⟨w.heap.size + 1, 0, none⟩), .pointer (some ⟨w.heap.size + 1 + 1, 0, none⟩)]) (by simp) (by simp [go_sem]) ?_
      refine (close_stopped w.heap.size (.slice none 0 0) 0 0 (q : Int) 22 [] _ (((hB6 _).block _ (blk_lt hb0)).trans hb0) (((hB6 _).block _ (blk_lt hb1)).trans hb1) (((hB6 _).block _ (blk_lt hb2)).trans hb2)).mono ?_
      rintro e u' w7 ⟨rfl, rfl, hB7, hc70, hc71, hc72⟩
      simp [Leaves, settle, results, Tryd.results10, go_sem, hc70, hc71, hc72]
      exact ⟨(below_then hB hB.size (hB6 _)).trans hB7, rfl⟩
    · rw [if_pos hend]
      have hql : s.size ≤ q := by
        have := List.drop_eq_nil_iff.1 hend
        omega
      have hd : decide ((q : Int) < (s.size : Int)) = false := decide_eq_false (by omega)
      have hd2 : decide (q < s.size) = false := decide_eq_false (by omega)
      have HE := Aside0.mk hend
      clear hend
      go_enter_defers Tryd.func10, Tryd.ntmps10
      go_wp2_with (first
        | (go_at_call 17; refine hvw.mono ?_; rintro e w4 ⟨rfl, -, -, tv', hR4, hk4, hrw4⟩)
        | (go_at_call 18; refine (HGW.out w4 tv' hR4.1).mono ?_; rintro e w5 ⟨rfl, hA5, hk5⟩; have hc0 := hA5.c0; have hc1 := hA5.c1; have hc2 := hA5.c2; have hR5 := hR4.moved hA5 hk5))
      have hp5 := (hA5.2.1.block _ (blk_lt hb0)).trans hb0
      have hq5 := (hA5.2.1.block _ (blk_lt hb1)).trans hb1
      have hr5 := (hA5.2.1.block _ (blk_lt hb2)).trans hb2
      obtain ⟨A', c', rfl⟩ := hR5.slice
      have hfp := blk_frozen hp5 0
      have hcp := blk_cell hp5 0
      have hfq := blk_frozen hq5 0
      have hcq := blk_cell hq5 0
      have hfr := blk_frozen hr5 0
      have hcr := blk_cell hr5 0
      go_quiet (fail)
      go_wp2
      have hdr : Below w5.heap.size w5 (w5.drewN nq) := pw_below_drewN (Below.refl _ _) _
      have hA6 := hA5.drewN nq
      have hR6 := hR5.below hdr
      have hp6 := blk_below hp5 hdr
      have hq6 := blk_below hq5 hdr
      have hr6 := blk_below hr5 hdr
      generalize w5.drewN nq = W6 at *
      have e0 := blk_cell (blk_far (blk_far (blk_put hp6 0 (.slice A' v.1.length c') rfl) (p := ⟨w.heap.size + 1, 0, none⟩) (by show w.heap.size ≠ w.heap.size + 1; omega) (.int .i64 0)) (p := ⟨w.heap.size + 1 + 1, 0, none⟩) (by show w.heap.size ≠ w.heap.size + 1 + 1; omega) (.int .i64 0)) 0
      have e1 := blk_cell (blk_far (blk_put (blk_far hq6 (p := ⟨w.heap.size, 0, none⟩) (by show w.heap.size + 1 ≠ w.heap.size; omega) (.slice A' v.1.length c')) 0 (.int .i64 0) rfl) (p := ⟨w.heap.size + 1 + 1, 0, none⟩) (by show w.heap.size + 1 ≠ w.heap.size + 1 + 1; omega) (.int .i64 0)) 0
      have e2 := blk_cell (blk_put (blk_far (blk_far hr6 (p := ⟨w.heap.size, 0, none⟩) (by show w.heap.size + 2 ≠ w.heap.size; omega) (.slice A' v.1.length c')) (p := ⟨w.heap.size + 1, 0, none⟩) (by show w.heap.size + 2 ≠ w.heap.size + 1; omega) (.int .i64 0)) 0 (.int .i64 0) rfl) 0
      have hBf : Below w.heap.size w (((W6.setCell ⟨w.heap.size, 0, none⟩ (.slice A' v.1.length c')).setCell ⟨w.heap.size + 1, 0, none⟩ (.int .i64 0)).setCell ⟨w.heap.size + 1 + 1, 0, none⟩ (.int .i64 0)) :=
        (((below_then hB hB.size hA6.2.1).setCell (p := ⟨w.heap.size, 0, none⟩) (Nat.le_refl _) _).setCell (p := ⟨w.heap.size + 1, 0, none⟩) (Nat.le_succ _) _).setCell (p := ⟨w.heap.size + 1 + 1, 0, none⟩) (by show w.heap.size ≤ w.heap.size + 1 + 1; omega) _
      have hRf := Kd.R_far (Kd.R_far (Kd.R_far (Kd.R_bound hR6.2) (p := ⟨w.heap.size, 0, none⟩) (fun k hk => by have := hk.2.1; show k ≠ w.heap.size; omega) (.slice A' v.1.length c')) (p := ⟨w.heap.size + 1, 0, none⟩) (fun k hk => by have := hk.2.1; show k ≠ w.heap.size + 1; omega) (.int .i64 0)) (p := ⟨w.heap.size + 1 + 1, 0, none⟩) (fun k hk => by have := hk.2.1; show k ≠ w.heap.size + 1 + 1; omega) (.int .i64 0)
      have HF := Aside0.mk (And.intro hBf (Kd.R_lower (Kd.R_mono (ok' := fun _ => True) hRf (fun _ _ => trivial)) (show w.heap.size ≤ W3.heap.size by omega)))
      clear hBf hRf
      refine leaves_cons (f := 16) (args := #[.pointer (some ⟨w.heap.size, 0, none⟩), .pointer (some ⟨w.heap.size + 1, 0, none⟩), .pointer (some ⟨w.heap.size + 1 + 1, 0, none⟩)]) (by simp) (by simp [go_sem]) ?_
      refine (close_idle _ _ _ _).mono ?_
      rintro e u' w7 ⟨rfl, rfl, rfl⟩
      generalize ((W6.setCell ⟨w.heap.size, 0, none⟩ (.slice A' v.1.length c')).setCell ⟨w.heap.size + 1, 0, none⟩ (.int .i64 0)).setCell ⟨w.heap.size + 1 + 1, 0, none⟩ (.int .i64 0) = W9 at *
      simp [Leaves, settle, results, Tryd.results10, go_sem, e0, e1, e2]
      exact ⟨HF.out.1, _, rfl, HF.out.2⟩

end Go.Proofs.YtipbcdjnemdciaaDoor.Js
