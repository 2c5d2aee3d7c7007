/- What is so while a list or an object is read: the reader, the tree so far, the value that is being made with its own rows. -/
import Derived.Test.YtipbcdjnemdciaaDoorAdv
set_option linter.unusedVariables false
set_option linter.unusedSimpArgs false
namespace Go.Proofs.YtipbcdjnemdciaaDoor.Js
open Go.RowKit Go.Lib Go.Proofs.YtipbcdjnemdciaaDoor.PSh Go.Proofs.YtipbcdjnemdciaaDoorW.PrintWords Go.Proofs.YtipbcdjnemdciaaDoorW.PrintLast Go.Proofs.YtipbcdjnemdciaaDoorW.PrintMore

def boxOf (f0 : Int) (v4 v5 : Value) : Array Value := #[.int .i64 f0, .bool false, .int .i64 0, .string ⟨#[]⟩, v4, v5]
structure LSt (w0 w : World) (b vb : Nat) (s : ByteArray) (p : Nat) (ok : Nat → Prop) (tv : Value) (f0 : Int) (tv' v4 v5 : Value) (names : List ByteArray) (kids : List Int) (t : List S39) (wr : World) : Prop where
  rdr : Rdr w0 b s (p : Int) (fun k => ok k ∧ k ≠ vb ∧ some k ≠ v4.ownBlock ∧ some k ≠ v5.ownBlock) tv' t wr
  box : wr.heap[vb]? = some (.cells (boxOf f0 v4 v5) 39 (0, 0))
  names_ : wr.ownsRow w.heap.size 9 1 v4 names.length (encs Value.string names)
  kids_ : wr.ownsRow w.heap.size 3 1 v5 kids.length (encs (Value.int .i64) kids)
  keep : KeepBut w wr b tv.ownBlock
  row : Row w tv tv'
  hvb : w.heap.size ≤ vb
  hb : b < w.heap.size
  hw0 : w0.heap.size ≤ w.heap.size
  fresh : ∀ k, w.heap.size ≤ k → ok k
section
variable {w0 w wr w' : World} {b vb : Nat} {s : ByteArray} {p : Nat} {ok : Nat → Prop} {tv : Value} {f0 : Int} {tv' tv'' v4 v5 v' : Value} {names : List ByteArray} {kids : List Int} {t t' : List S39}
theorem LSt.apart4 (h : LSt w0 w b vb s p ok tv f0 tv' v4 v5 names kids t wr) : ∀ k, v4.ownBlock = some k → w.heap.size ≤ k ∧ k < wr.heap.size ∧ k ≠ b ∧ k ≠ vb ∧ some k ≠ tv'.ownBlock ∧ some k ≠ v5.ownBlock := fun k hk => by
  have h1 := own_base h.names_ k hk
  obtain ⟨c1, hc1⟩ := own_typed h.names_ k hk
  refine ⟨h1, own_lt h.names_ k hk, by have := h.hb; omega, ?_, ?_, ?_⟩
  · exact blk_ne hc1 h.box (by decide)
  · exact fun e => (h.rdr.2.1 k e.symm).1.2.2.1 hk.symm
  · intro e
    obtain ⟨c2, hc2⟩ := own_typed h.kids_ k e.symm
    exact blk_ne hc1 hc2 (by decide) rfl
theorem LSt.apart5 (h : LSt w0 w b vb s p ok tv f0 tv' v4 v5 names kids t wr) : ∀ k, v5.ownBlock = some k → w.heap.size ≤ k ∧ k < wr.heap.size ∧ k ≠ b ∧ k ≠ vb ∧ some k ≠ tv'.ownBlock ∧ some k ≠ v4.ownBlock := fun k hk => by
  have h1 := own_base h.kids_ k hk
  obtain ⟨c1, hc1⟩ := own_typed h.kids_ k hk
  refine ⟨h1, own_lt h.kids_ k hk, by have := h.hb; omega, ?_, ?_, ?_⟩
  · exact blk_ne hc1 h.box (by decide)
  · exact fun e => (h.rdr.2.1 k e.symm).1.2.2.2 hk.symm
  · intro e
    obtain ⟨c2, hc2⟩ := own_typed h.names_ k e.symm
    exact blk_ne hc1 hc2 (by decide) rfl
theorem LSt.below (h : LSt w0 w b vb s p ok tv f0 tv' v4 v5 names kids t wr) (hb : Below wr.heap.size wr w') : LSt w0 w b vb s p ok tv f0 tv' v4 v5 names kids t w' :=
  ⟨h.rdr.below hb, blk_below h.box hb, own_move h.names_ (fun k hk => hb.block k (h.apart4 k hk).2.1), own_move h.kids_ (fun k hk => hb.block k (h.apart5 k hk).2.1), h.keep.trans (KeepBut.of_below hb b tv.ownBlock) (.inl rfl), h.row, h.hvb, h.hb, h.hw0, h.fresh⟩
theorem LSt.drew (h : LSt w0 w b vb s p ok tv f0 tv' v4 v5 names kids t wr) : LSt w0 w b vb s p ok tv f0 tv' v4 v5 names kids t wr.drew := h.below (below_drew (Below.refl _ _))
theorem LSt.drewN (h : LSt w0 w b vb s p ok tv f0 tv' v4 v5 names kids t wr) (n : Nat) : LSt w0 w b vb s p ok tv f0 tv' v4 v5 names kids t (wr.drewN n) := h.below (pw_below_drewN (Below.refl _ _) n)
theorem LSt.vb_ne (h : LSt w0 w b vb s p ok tv f0 tv' v4 v5 names kids t wr) : vb ≠ b := by have := h.hvb; have := h.hb; omega
theorem LSt.vb_row (h : LSt w0 w b vb s p ok tv f0 tv' v4 v5 names kids t wr) : some vb ≠ tv'.ownBlock := fun e => (h.rdr.2.1 vb e.symm).1.2.1 rfl
theorem LSt.vb4 (h : LSt w0 w b vb s p ok tv f0 tv' v4 v5 names kids t wr) : some vb ≠ v4.ownBlock := fun e => (h.apart4 vb e.symm).2.2.2.1 rfl
theorem LSt.vb5 (h : LSt w0 w b vb s p ok tv f0 tv' v4 v5 names kids t wr) : some vb ≠ v5.ownBlock := fun e => (h.apart5 vb e.symm).2.2.2.1 rfl
/-- The reader alone has moved. -/
theorem LSt.moved {q : Nat} (h : LSt w0 w b vb s p ok tv f0 tv' v4 v5 names kids t wr) (hA : At w0 b s (q : Int) tv' w') (hk : KeepBut wr w' b none) : LSt w0 w b vb s q ok tv f0 tv' v4 v5 names kids t w' :=
  ⟨h.rdr.moved hA hk, hk.blk h.box h.vb_ne (by simp), own_move h.names_ (fun k hk' => hk.2 k (h.apart4 k hk').2.1 (h.apart4 k hk').2.2.1 (by simp)), own_move h.kids_ (fun k hk' => hk.2 k (h.apart5 k hk').2.1 (h.apart5 k hk').2.2.1 (by simp)), h.keep.trans (keep_none hk) (.inl rfl), h.row, h.hvb, h.hb, h.hw0, h.fresh⟩
theorem LSt.step (h : LSt w0 w b vb s p ok tv f0 tv' v4 v5 names kids t wr) : LSt w0 w b vb s (p + 1) ok tv f0 tv' v4 v5 names kids t (wr.setCell ⟨b, 1, none⟩ (.int .i64 ((p : Int) + 1))) :=
  h.moved (h.rdr.1.set1 _) ((KeepBut.refl _ _ _).set_ 1 _)
/-- What a call for a kid is given, and what it leaves. -/
theorem LSt.given (h : LSt w0 w b vb s p ok tv f0 tv' v4 v5 names kids t wr) (hp : p ≤ s.size) : Given w0 b s p (fun k => ok k ∧ k ≠ vb ∧ some k ≠ v4.ownBlock ∧ some k ≠ v5.ownBlock) tv' t wr :=
  ⟨h.rdr, fun k hk => ⟨h.fresh k (Nat.le_trans h.keep.1 hk), fun e => by have := blk_lt h.box; omega, fun e => by have := (h.apart4 k e.symm).2.1; omega, fun e => by have := (h.apart5 k e.symm).2.1; omega⟩, hp⟩
theorem LSt.grewn {q : Nat} (h : LSt w0 w b vb s p ok tv f0 tv' v4 v5 names kids t wr) (hg : Grew w0 b s q (fun k => ok k ∧ k ≠ vb ∧ some k ≠ v4.ownBlock ∧ some k ≠ v5.ownBlock) tv' t' wr w') : ∃ tv'', LSt w0 w b vb s q ok tv f0 tv'' v4 v5 names kids t' w' := by
  obtain ⟨tv'', hR, hK, hW⟩ := hg
  exact ⟨tv'', hR, hK.blk h.box h.vb_ne h.vb_row, own_move h.names_ (fun k hk' => hK.2 k (h.apart4 k hk').2.1 (h.apart4 k hk').2.2.1 (h.apart4 k hk').2.2.2.2.1), own_move h.kids_ (fun k hk' => hK.2 k (h.apart5 k hk').2.1 (h.apart5 k hk').2.2.1 (h.apart5 k hk').2.2.2.2.1), keep_trans h.keep hK h.row, h.row.trans hW h.keep.1, h.hvb, h.hb, h.hw0, h.fresh⟩
/-- A kid more. -/
theorem LSt.kidded {w1 : World} {v1 : Value} {kids' : List Int} (h : LSt w0 w b vb s p ok tv f0 tv' v4 v5 names kids t wr) (ho : w1.ownsRow w.heap.size 3 1 v1 kids'.length (encs (Value.int .i64) kids'))
    (hg : wr.grownBy w1 v5.ownBlock) (hat : v1.ownBlock = v5.ownBlock ∨ ∃ k, v1.ownBlock = some k ∧ wr.heap.size ≤ k) : LSt w0 w b vb s p ok tv f0 tv' v4 v1 names kids' t (w1.setCell ⟨vb, 5, none⟩ v1) := by
  have hvl := blk_lt h.box
  have hv1 : some vb ≠ v1.ownBlock := by
    rcases hat with e | ⟨k, e, hk⟩
    · rw [e]; exact h.vb5
    · rw [e]; intro e2; injection e2 with e2; omega
  have hA : At w0 b s (p : Int) tv' (w1.setCell ⟨vb, 5, none⟩ v1) := by
    have hA1 := h.rdr.1.grown hg (fun g hg' => ⟨(h.apart5 g hg').2.2.1, by have := (h.apart5 g hg').1; have := h.hw0; omega⟩)
    exact ⟨hA1.1, hA1.2.1.setCell (show w0.heap.size ≤ vb by have := h.hvb; have := h.hw0; omega) _, blk_far hA1.2.2 (fun e => h.vb_ne e.symm) _⟩
  refine ⟨⟨hA, ?_⟩, ?_, ?_, own_setCell ho hv1 _, ?_, h.row, h.hvb, h.hb, h.hw0, h.fresh⟩
  · have h1 := Kd.R_bound h.rdr.2
    have h2 := Kd.R_move h1 (w1 := w1) (fun k hk => hg.block k hk.2.2.1 hk.1.1.2.2.2)
    refine Kd.R_mono (Kd.R_far h2 (p := ⟨vb, 5, none⟩) (fun k hk => hk.1.1.2.1) v1) (fun k hk => ⟨⟨hk.1.1.1, hk.1.1.2.1, hk.1.1.2.2.1, ?_⟩, hk.1.2⟩)
    rcases hat with e | ⟨g, e, hg'⟩
    · rw [e]; exact hk.1.1.2.2.2
    · rw [e]; intro e2; injection e2 with e2; have := hk.2.2.1; omega
  · exact blk_put (blk_grown h.box hg h.vb5) 5 v1 rfl
  · refine own_move h.names_ (fun k hk => ?_)
    have hk4 := h.apart4 k hk
    exact (Below.heap_setCell _ _ _ _ hk4.2.2.2.1).trans (hg.block k hk4.2.1 hk4.2.2.2.2.2)
  · refine keep_far (p := ⟨vb, 5, none⟩) ⟨Nat.le_trans h.keep.1 hg.size, fun i hi hib hr => ?_⟩ h.hvb _
    rw [hg.block i (Nat.lt_of_lt_of_le hi h.keep.1) (fun e => by have := (h.apart5 i e.symm).1; omega)]
    exact h.keep.2 i hi hib hr
/-- A name more. -/
theorem LSt.named {w1 : World} {v1 : Value} {names' : List ByteArray} (h : LSt w0 w b vb s p ok tv f0 tv' v4 v5 names kids t wr) (ho : w1.ownsRow w.heap.size 9 1 v1 names'.length (encs Value.string names'))
    (hg : wr.grownBy w1 v4.ownBlock) (hat : v1.ownBlock = v4.ownBlock ∨ ∃ k, v1.ownBlock = some k ∧ wr.heap.size ≤ k) : LSt w0 w b vb s p ok tv f0 tv' v1 v5 names' kids t (w1.setCell ⟨vb, 4, none⟩ v1) := by
  have hvl := blk_lt h.box
  have hv1 : some vb ≠ v1.ownBlock := by
    rcases hat with e | ⟨k, e, hk⟩
    · rw [e]; exact h.vb4
    · rw [e]; intro e2; injection e2 with e2; omega
  have hA : At w0 b s (p : Int) tv' (w1.setCell ⟨vb, 4, none⟩ v1) := by
    have hA1 := h.rdr.1.grown hg (fun g hg' => ⟨(h.apart4 g hg').2.2.1, by have := (h.apart4 g hg').1; have := h.hw0; omega⟩)
    exact ⟨hA1.1, hA1.2.1.setCell (show w0.heap.size ≤ vb by have := h.hvb; have := h.hw0; omega) _, blk_far hA1.2.2 (fun e => h.vb_ne e.symm) _⟩
  refine ⟨⟨hA, ?_⟩, ?_, own_setCell ho hv1 _, ?_, ?_, h.row, h.hvb, h.hb, h.hw0, h.fresh⟩
  · have h1 := Kd.R_bound h.rdr.2
    have h2 := Kd.R_move h1 (w1 := w1) (fun k hk => hg.block k hk.2.2.1 hk.1.1.2.2.1)
    refine Kd.R_mono (Kd.R_far h2 (p := ⟨vb, 4, none⟩) (fun k hk => hk.1.1.2.1) v1) (fun k hk => ⟨⟨hk.1.1.1, hk.1.1.2.1, ?_, hk.1.1.2.2.2⟩, hk.1.2⟩)
    rcases hat with e | ⟨g, e, hg'⟩
    · rw [e]; exact hk.1.1.2.2.1
    · rw [e]; intro e2; injection e2 with e2; have := hk.2.2.1; omega
  · exact blk_put (blk_grown h.box hg h.vb4) 4 v1 rfl
  · refine own_move h.kids_ (fun k hk => ?_)
    have hk5 := h.apart5 k hk
    exact (Below.heap_setCell _ _ _ _ hk5.2.2.2.1).trans (hg.block k hk5.2.1 hk5.2.2.2.2.2)
  · refine keep_far (p := ⟨vb, 4, none⟩) ⟨Nat.le_trans h.keep.1 hg.size, fun i hi hib hr => ?_⟩ h.hvb _
    rw [hg.block i (Nat.lt_of_lt_of_le hi h.keep.1) (fun e => by have := (h.apart4 i e.symm).1; omega)]
    exact h.keep.2 i hi hib hr
/-- The value is put. -/
theorem LSt.put_ (h : LSt w0 w b vb s p ok tv f0 tv' v4 v5 names kids t wr) (fr : Nat) :
    Calls Tryd.prog 22 #[.pointer (some ⟨b, 0, none⟩), .agg (boxOf f0 v4 v5), .int .i64 (fr : Int)] wr (PutEnds w0 b s (p : Int) ok tv' t ⟨f0, false, 0, ⟨#[]⟩, names, kids⟩ fr wr) := by
  refine put_walk w0 wr b s (p : Int) ok (fun k => v4.ownBlock = some k ∨ v5.ownBlock = some k) tv' t ⟨f0, false, 0, ⟨#[]⟩, names, kids⟩ v4 v5 fr (h.rdr.mono (fun k hk => hk.1)) (k39_mkM _ _ _ _ (Kd.R_of_own (own_weaken h.names_ h.hw0) (fun k hk => .inl hk)) (Kd.R_of_own (own_weaken h.kids_ h.hw0) (fun k hk => .inr hk))) (fun k hk => ?_) (fun k hk => h.fresh k (Nat.le_trans h.keep.1 hk))
  rcases hk with hk | hk
  · have hk4 := h.apart4 k hk
    exact ⟨⟨h.fresh k hk4.1, hk4.2.2.1⟩, hk4.2.2.2.2.1⟩
  · have hk5 := h.apart5 k hk
    exact ⟨⟨h.fresh k hk5.1, hk5.2.2.1⟩, hk5.2.2.2.2.1⟩
theorem LSt.put_no (h : LSt w0 w b vb s p ok tv f0 tv' v4 v5 names kids t wr) (fr : Nat) (hbig : 8192 ≤ t.length) :
    Calls Tryd.prog 22 #[.pointer (some ⟨b, 0, none⟩), .agg (boxOf f0 v4 v5), .int .i64 (fr : Int)] wr fun e w' => e = halted (fr : Int) 27 ∧ Below w0.heap.size w0 w' :=
  (h.put_ fr).mono fun e w' he => by
    unfold PutEnds at he
    rw [if_pos hbig] at he
    exact he
theorem LSt.put_ok (h : LSt w0 w b vb s p ok tv f0 tv' v4 v5 names kids t wr) (fr : Nat) (hbig : ¬ 8192 ≤ t.length) :
    Calls Tryd.prog 22 #[.pointer (some ⟨b, 0, none⟩), .agg (boxOf f0 v4 v5), .int .i64 (fr : Int)] wr fun e w' => e = .returned (.int .i64 (t.length : Int)) ∧ Grew w0 b s p ok tv (t ++ [⟨f0, false, 0, ⟨#[]⟩, names, kids⟩]) w w' :=
  (h.put_ fr).mono fun e w' he => by
    unfold PutEnds at he
    rw [if_neg hbig] at he
    obtain ⟨he1, tv'', h1, h2, h3⟩ := he
    exact ⟨he1, tv'', h1, keep_trans h.keep h2 h.row, h.row.trans h3 h.keep.1⟩
/-- At the beginning: a box alone. -/
theorem LSt.start (g : Given w0 b s p ok tv t w) (hw0 : w0.heap.size ≤ w.heap.size) : LSt w0 w b w.heap.size s p ok tv f0 tv (.slice none 0 0) (.slice none 0 0) [] [] t (w.alloc (.cells (boxOf f0 (.slice none 0 0) (.slice none 0 0)) 39)) := by
  have hb := below_alloc (Below.refl w.heap.size w) (.cells (boxOf f0 (.slice none 0 0) (.slice none 0 0)) 39)
  have hx := (g.rdr.below hb)
  refine ⟨⟨hx.1, ?_⟩, blk_new w _, own_nil _ _ _ _, own_nil _ _ _ _, KeepBut.of_below hb b _, Row.refl _ _, Nat.le_refl _, g.rdr.1.lt, hw0, g.fresh⟩
  exact Kd.R_below (Kd.R_mono (Kd.R_bound g.rdr.2) (fun k hk => ⟨⟨hk.1.1, by have := hk.2.2.1; omega, by simp [Value.ownBlock], by simp [Value.ownBlock]⟩, hk.1.2⟩)) hb
end

end Go.Proofs.YtipbcdjnemdciaaDoor.Js
