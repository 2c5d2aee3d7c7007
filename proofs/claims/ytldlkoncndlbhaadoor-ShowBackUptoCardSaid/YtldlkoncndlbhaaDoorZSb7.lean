/- YtldlkoncndlbhaaDoorZSb7: texts of the seat (Copied, ShowChecks, Reads, Bulk, ReadsB, Bound), one behind the other, without what this claim's theorem does not rest on. -/
import Derived.Test.YtldlkoncndlbhaaDoorZSb6
import Derived.SliceStrings
import Derived.ChangeSlices
import Derived.Deep.Slices
import Derived.SizedLaws
import Derived.DataReads
import Derived.Test.YtldlkoncndlbhaaDoorRows

set_option linter.unusedVariables false
set_option linter.unusedSimpArgs false
namespace Go.Proofs.YtldlkoncndlbhaaDoor.Cp
open Go.RowKit Go.Proofs.YtldlkoncndlbhaaDoor.PSh Go.Proofs.YtldlkoncndlbhaaDoorW.PrintWords Go.Proofs.YtldlkoncndlbhaaDoorW.PrintLast Go.Proofs.YtldlkoncndlbhaaDoorW.PrintMore
theorem heap39 : Kd.Heap k39 := Kd.heap_iso _ (Kd.heap_pair (Kd.heap_int _) (Kd.heap_pair Kd.heap_bool (Kd.heap_pair (Kd.heap_int _) (Kd.heap_pair Kd.heap_string (Kd.heap_pair (Kd.heap_slice _ Kd.heap_string) (Kd.heap_slice _ (Kd.heap_int _)))))))
theorem info39 : (Tryd.prog.info? 39).map (fun i => (i.zero, i.size, i.bytes)) = some (some (.agg #[(.int .i64 0), (.bool false), (.int .i64 0), (.string ⟨#[]⟩), (.slice none 0 0), (.slice none 0 0)]), 6, 88) := by kernel_rfl
theorem k39_openF {W : World} {ok : Nat → Prop} {x : S39} {cs : List Value} (h : Kd.FK k39 W ok x cs) : ∃ A4 c4 A5 c5, cs = [.int .i64 x.f0, .bool x.f1, .int .i64 x.f2, .string x.f3, .slice A4 x.f4.length c4, .slice A5 x.f5.length c5] ∧ x.f4.length ≤ c4 ∧ Kd.F Kd.string W ok A4 x.f4.length x.f4 ∧ x.f5.length ≤ c5 ∧ Kd.F (Kd.int .i64) W ok A5 x.f5.length x.f5 := by
  obtain ⟨A4, c4, A5, c5, rfl, l4, _, l5, _⟩ := k39_open (Kd.FK_now h)
  exact ⟨A4, c4, A5, c5, rfl, l4, (fun W' hW => by obtain ⟨A4_, c4_, A5_, c5_, he, l4_, g4_, l5_, g5_⟩ := k39_open (h W' hW); injection (Option.some.inj (show some (Value.slice A4 x.f4.length c4) = some (Value.slice A4_ x.f4.length c4_) from congrArg (fun l => l[4]?) he)) with ha_ _ _; rw [ha_]; exact g4_), l5, (fun W' hW => by obtain ⟨A4_, c4_, A5_, c5_, he, l4_, g4_, l5_, g5_⟩ := k39_open (h W' hW); injection (Option.some.inj (show some (Value.slice A5 x.f5.length c5) = some (Value.slice A5_ x.f5.length c5_) from congrArg (fun l => l[5]?) he)) with ha_ _ _; rw [ha_]; exact g5_)⟩
theorem k39_mkF (W : World) (ok : Nat → Prop) (x : S39) {A4 : Option Addr} {c4 : Nat} (l4 : x.f4.length ≤ c4) (g4 : Kd.F Kd.string W ok A4 x.f4.length x.f4) {A5 : Option Addr} {c5 : Nat} (l5 : x.f5.length ≤ c5) (g5 : Kd.F (Kd.int .i64) W ok A5 x.f5.length x.f5) : Kd.FK k39 W ok x [.int .i64 x.f0, .bool x.f1, .int .i64 x.f2, .string x.f3, .slice A4 x.f4.length c4, .slice A5 x.f5.length c5] := fun W2 hW => k39_mk W2 x l4 (g4 W2 hW) l5 (g5 W2 hW)
theorem info9 : (Tryd.prog.info? 9).map (fun i => (i.zero, i.size, i.bytes)) = some (some (.string ⟨#[]⟩), 1, 16) := by kernel_rfl
def lz0 : Value := .agg #[(.int .i64 0), (.bool false), (.int .i64 0), (.string ⟨#[]⟩), (.slice none 0 0), (.slice none 0 0)]
theorem lit_nil {α : Type} (d : Kd α) (e : Nat) (W : World) (base : Nat) (hb : base ≤ W.heap.size) (ok : Nat → Prop) (hok : ok W.heap.size) : d.R e (W.alloc (.cells #[] e)) base ok (.slice (some ⟨W.heap.size, 0, none⟩) 0 0) [] := by
  refine ⟨fun k hk => ?_, [], ?_, ?_⟩
  · have : W.heap.size = k := by simpa [Value.ownBlock] using hk
    subst this
    exact hok
  · have := World.ownsRow_lit (base := base) (e := e) (size := d.sz) W #[] 0 hb (by simp [maxLen]) (by simp)
    simpa using this
  · exact ⟨by simp, fun j x hx => by simp at hx⟩
def copied.T5 : Bool × List (List Nat × List Nat) := (true, [([], []), ([], []), ([], []), ([], []), ([], []), ([], []), ([], []), ([5, 6], [5, 6]), ([7], [7]), ([8], [8]), ([4, 9], [4, 9]), ([], []), ([], []), ([], []), ([12, 13], [12, 13]), ([14], [14]), ([15], [15]), ([11, 16, 10], [11, 16]), ([0, 1, 0, 1, 4, 5, 6, 7, 8, 9, 10, 16, 17], [0, 1]), ([18, 0, 1, 4, 5, 6, 7, 8, 9, 10, 16, 17], [18]), ([19, 10, 17, 0, 1, 4, 5, 6, 7, 8, 9, 10, 16, 17], [10, 19]), ([2, 3, 0, 1, 2, 3, 4, 5, 6, 7, 8, 9, 10, 11, 12, 13, 14, 15, 16, 17, 18, 19, 20], [2, 3]), ([21, 0, 1, 2, 3, 4, 5, 6, 7, 8, 9, 10, 11, 12, 13, 14, 15, 16, 17, 18, 19, 20], [21]), ([22, 17, 20, 0, 1, 2, 3, 4, 5, 6, 7, 8, 9, 10, 11, 12, 13, 14, 15, 16, 17, 18, 19, 20], [17, 22])])
def copied.B5 : List Nat := [0, 0, 0, 0, 0, 0, 0, 96, 224, 480, 1008, 0, 0, 0, 12288, 28672, 61440, 131056, 262131, 524275, 1048563, 2097151, 4194303, 8388607]
theorem copied.tab5 : rtab .any (opsOf Tryd.f12 5) = copied.T5 := by kernel_rfl
theorem copied.bits5 : waitsOk copied.T5.2 copied.B5 = true := by kernel_rfl
section
variable {ops : Array Oper} {o : Oper} {a : Act} {K : Act → World → Prop} {Q : Exit → Act → World → Prop} {W0 W : World} {v : Value}
/-- A store, one of the last. -/
theorem last_skip {P : Program} {md : Region.Mode} {S : World → Prop} {ds : List Nat} {i : Nat} {oi : Oper} {fuel : Nat} {l : Array Bool} {w w1 : World} (l' : Array Bool) (hi : ops[i]? = some oi) (hN : oi.dst = none) (hc : readyB md ops l l' i = true) (hd : i ∈ ds) (hg : oi.guard = none)
    (hrun : (execOp a.eval oi).run P w = .ok .skip w1) (h : wpAnyLast P md ops Q S ds fuel l' a w1) : wpAnyLast P md ops Q S ds (fuel + 1) l a w :=
  last_ l' hi hN hc hd (fun K hK => skip_ (by unfold Region.wanted; rw [hg]) hN hrun (hK.out _ _ h))
/-- append([]string{}, names...), in the region. -/
theorem app_step {f4 : List ByteArray} {A4 : Option Addr} {c4 : Nat} (HR : Kd.string.R 9 W W0.heap.size (fun _ => True) v []) (HC : Kd.string.C W A4 f4.length f4) (HB : Below W0.heap.size W0 W) (hs : f4.length * 16 ≤ 140737488355328)
    (hw : Region.wanted o (yielded ops a.tmps) = true) (ho : o.op = .call { callee := .builtin .append, args := #[.tmp 17, .tmp 22], argTypes := #[36, 36] }) (hv : a.eval (.tmp 17) = v) (hx : a.eval (.tmp 22) = .slice A4 f4.length c4)
    (h : ∀ v1 w1, Kd.string.R 9 w1 W0.heap.size (fun _ => True) v1 f4 → Below W0.heap.size W0 w1 → W.grownBy w1 v.ownBlock → (v1.ownBlock = v.ownBlock ∨ ∃ b, v1.ownBlock = some b ∧ W.heap.size ≤ b) → K (a.put o.dst v1) w1) :
    if Region.wanted o (yielded ops a.tmps) = true then Oper.wp Tryd.prog o a W K Q else K (a.put o.dst undef) W :=
  Kd.R_append_rows_step Kd.string (Rr := fun x cs => Kd.string.K W x cs) (w0 := W0) W0.heap.size hw (.tmp 17) (.tmp 22) 36 9 (.string ⟨#[]⟩) 16 ho Tryd.underlying36 info9 rfl (by decide) (by decide) v [] f4 A4 f4.length c4 (fun _ => True) (fun _ => False) hv hx HR HC (fun _ _ hk => hk) (fun _ hk => hk.elim) (fun _ _ => trivial) HB HB.size (by simpa using hs) h
/-- append([]int{}, kids...), in the region. -/
theorem appi_step {f5 : List Int} {A5 : Option Addr} {c5 : Nat} (HR : (Kd.int .i64).R 3 W W0.heap.size (fun _ => True) v []) (HC : (Kd.int .i64).C W A5 f5.length f5) (HB : Below W0.heap.size W0 W) (hs : f5.length * 8 ≤ 140737488355328)
    (hw : Region.wanted o (yielded ops a.tmps) = true) (ho : o.op = .call { callee := .builtin .append, args := #[.tmp 24, .tmp 29], argTypes := #[37, 37] }) (hv : a.eval (.tmp 24) = v) (hx : a.eval (.tmp 29) = .slice A5 f5.length c5)
    (h : ∀ v1 w1, (Kd.int .i64).R 3 w1 W0.heap.size (fun _ => True) v1 f5 → Below W0.heap.size W0 w1 → W.grownBy w1 v.ownBlock → (v1.ownBlock = v.ownBlock ∨ ∃ b, v1.ownBlock = some b ∧ W.heap.size ≤ b) → K (a.put o.dst v1) w1) :
    if Region.wanted o (yielded ops a.tmps) = true then Oper.wp Tryd.prog o a W K Q else K (a.put o.dst undef) W :=
  Kd.R_append_rows_step (Kd.int .i64) (Rr := fun x cs => (Kd.int .i64).K W x cs) (w0 := W0) W0.heap.size hw (.tmp 24) (.tmp 29) 37 3 (.int .i64 0) 8 ho Tryd.underlying37 info3 rfl (by decide) (by decide) v [] f5 A5 f5.length c5 (fun _ => True) (fun _ => False) hv hx HR HC (fun _ _ hk => hk) (fun _ hk => hk.elim) (fun _ _ => trivial) HB HB.size (by simpa using hs) h
end
section
variable {W : World} {base g n cap : Nat} {l : List S39}
theorem getD_rd (l : List S39) (j : Nat) : l.getD ((j : Int)).toNat z39 = rd_T39 l (j : Int) := rfl
/-- What stands at element j. -/
theorem elem_at (hN : Kd.N k39 39 W base (fun _ => True) (.slice (some ⟨g, 0, none⟩) n cap) l) (j : Nat) (hj : j < l.length) :
    ∃ A4 c4 A5 c5, W.cell? ⟨g, j * 6 + 4, none⟩ = some (.slice A4 (rd_T39 l (j : Int)).f4.length c4) ∧ W.cell? ⟨g, j * 6 + 5, none⟩ = some (.slice A5 (rd_T39 l (j : Int)).f5.length c5) ∧ W.frozen? ⟨g, j * 6 + 4, none⟩ = false ∧ W.frozen? ⟨g, j * 6 + 5, none⟩ = false ∧
      (rd_T39 l (j : Int)).f4.length ≤ c4 ∧ Kd.F Kd.string W (fun k => k ≠ g) A4 (rd_T39 l (j : Int)).f4.length (rd_T39 l (j : Int)).f4 ∧ (rd_T39 l (j : Int)).f5.length ≤ c5 ∧ Kd.F (Kd.int .i64) W (fun k => k ≠ g) A5 (rd_T39 l (j : Int)).f5.length (rd_T39 l (j : Int)).f5 := by
  have hn := (Kd.N_reads' hN).1
  obtain ⟨c, hcl, hF, hcc, hfr⟩ := Kd.N_elem hN z39 (j : Int) (by omega) (by omega)
  rw [getD_rd] at hF
  obtain ⟨A4, c4, A5, c5, rfl, l4, g4, l5, g5⟩ := k39_openF hF
  exact ⟨A4, c4, A5, c5, hcc 4 _ rfl, hcc 5 _ rfl, hfr 4, hfr 5, l4, Kd.F_mono g4 (fun _ hk => hk.2), l5, Kd.F_mono g5 (fun _ hk => hk.2)⟩
theorem set_self (l : List S39) (j : Nat) (hj : j < l.length) : l.set ((j : Int)).toNat (rd_T39 l (j : Int)) = l := by
  have : rd_T39 l (j : Int) = l[j] := by unfold rd_T39; simp [List.getD, hj]
  rw [this]
  simp
theorem put4 (hN : Kd.N k39 39 W base (fun _ => True) (.slice (some ⟨g, 0, none⟩) n cap) l) (j : Nat) (hj : j < l.length) {v : Value} {b0 : Nat} (hR : Kd.string.R 9 W b0 (fun _ => True) v (rd_T39 l (j : Int)).f4) (hb : g < b0) :
    Kd.N k39 39 (W.setCell ⟨g, j * 6 + 4, none⟩ v) base (fun _ => True) (.slice (some ⟨g, 0, none⟩) n cap) l ∧ W.grownBy (W.setCell ⟨g, j * 6 + 4, none⟩ v) (some g) := by
  have hn := (Kd.N_reads' hN).1
  obtain ⟨c, hcl, hF, hcc, hfr⟩ := Kd.N_elem hN z39 (j : Int) (by omega) (by omega)
  rw [getD_rd] at hF
  obtain ⟨A4, c4, A5, c5, rfl, l4, g4, l5, g5⟩ := k39_openF hF
  obtain ⟨A, c', rfl, hc', hC⟩ := Kd.R_reads hR
  have hF4 : Kd.F Kd.string W (fun k => k ≠ g) A (rd_T39 l (j : Int)).f4.length (rd_T39 l (j : Int)).f4 := Kd.F_mono (Kd.R_F (Kd.R_bound hR)) (fun k hk => by have := hk.2.1; omega)
  have := Kd.N_seg hN (j : Int) (by omega) (by omega) (seg := [.slice A (rd_T39 l (j : Int)).f4.length c']) (j := 4) (x' := rd_T39 l (j : Int)) (okp := fun k => k ≠ g) hcl hcc (by show _ + 1 ≤ 6; decide)
    (k39_mkF W _ (rd_T39 l (j : Int)) hc' hF4 l5 (Kd.F_mono g5 (fun _ hk => hk.2))) (fun k hk => ⟨trivial, hk⟩)
  rw [set_self l j hj] at this
  exact this
theorem put5 (hN : Kd.N k39 39 W base (fun _ => True) (.slice (some ⟨g, 0, none⟩) n cap) l) (j : Nat) (hj : j < l.length) {v : Value} {b0 : Nat} (hR : (Kd.int .i64).R 3 W b0 (fun _ => True) v (rd_T39 l (j : Int)).f5) (hb : g < b0) :
    Kd.N k39 39 (W.setCell ⟨g, j * 6 + 5, none⟩ v) base (fun _ => True) (.slice (some ⟨g, 0, none⟩) n cap) l ∧ W.grownBy (W.setCell ⟨g, j * 6 + 5, none⟩ v) (some g) := by
  have hn := (Kd.N_reads' hN).1
  obtain ⟨c, hcl, hF, hcc, hfr⟩ := Kd.N_elem hN z39 (j : Int) (by omega) (by omega)
  rw [getD_rd] at hF
  obtain ⟨A4, c4, A5, c5, rfl, l4, g4, l5, g5⟩ := k39_openF hF
  obtain ⟨A, c', rfl, hc', hC⟩ := Kd.R_reads hR
  have hF5 : Kd.F (Kd.int .i64) W (fun k => k ≠ g) A (rd_T39 l (j : Int)).f5.length (rd_T39 l (j : Int)).f5 := Kd.F_mono (Kd.R_F (Kd.R_bound hR)) (fun k hk => by have := hk.2.1; omega)
  have := Kd.N_seg hN (j : Int) (by omega) (by omega) (seg := [.slice A (rd_T39 l (j : Int)).f5.length c']) (j := 5) (x' := rd_T39 l (j : Int)) (okp := fun k => k ≠ g) hcl hcc (by show _ + 1 ≤ 6; decide)
    (k39_mkF W _ (rd_T39 l (j : Int)) l4 (Kd.F_mono g4 (fun _ hk => hk.2)) hc' hF5) (fun k hk => ⟨trivial, hk⟩)
  rw [set_self l j hj] at this
  exact this
end
set_option maxHeartbeats 4000000 in
set_option maxRecDepth 100000 in
theorem copied_walk (l : List S39) (A : Option Addr) (cp : Nat) (w : World) (hr : Kd.C k39 w A l.length l) (hc : l.length ≤ cp) (hcap : l.length ≤ 1048576)
    (hs : ∀ a : Int, 0 ≤ a → a < l.length → (rd_T39 l a).f4.length * 16 ≤ 140737488355328 ∧ (rd_T39 l a).f5.length * 8 ≤ 140737488355328) :
    Calls Tryd.prog 12 #[.slice A l.length cp] w fun e w' => ∃ v, e = .returned v ∧ Kd.N k39 39 w' w.heap.size (fun _ => True) v l ∧ Below w.heap.size w w' := by
  have hF := Kd.C_F heap39 hr
  go_enter Tryd.func12, Tryd.ntmps12
  go_wp2_with (at_builtin; refine Kd.N_append_rows k39 (w0 := w) w.heap.size rfl (.tmp 5) (.tmp 6) 23 39 lz0 88 rfl Tryd.underlying23 info39 rfl (by decide) (by decide) (.slice (some ⟨w.heap.size, 0, none⟩) 0 0) [] l A l.length cp (fun _ => True) (fun k => k < w.heap.size) rfl rfl (Kd.R_N (lit_nil k39 _ w _ (Nat.le_refl _) _ trivial)) (Kd.F_alloc hF _) (fun k hk => ⟨trivial, fun e => by simp [Value.ownBlock] at e; omega⟩) (fun _ _ => trivial) (below_alloc (Below.refl _ _) _) (by simp) (by simp; omega) ?_; intro v1 w1 hN hB hg hat; clear hg hat; obtain ⟨A1, c1, rfl⟩ := Kd.N_slice hN)
  simp only [List.nil_append] at hN
  go_loopw [10] (fun i wr => ∃ j : Nat, j ≤ l.length ∧ i = .int .i64 j ∧ Kd.N k39 39 wr w.heap.size (fun _ => True) (.slice A1 l.length c1) l ∧ Below w.heap.size w wr) (fun i _ => l.length - (intOf i).toNat)
  case atStart => exact ⟨0, Nat.zero_le _, rfl, hN, hB⟩
  case round =>
    obtain ⟨j, hj, rfl, hNr, hBr⟩ := hrel
    by_cases hlt : j < l.length
    · obtain ⟨g, cap, he, hg0, hg1, cells, hcells⟩ := Kd.N_form hNr (by omega)
      injection he with h1 h2 h3
      subst h1
      subst h3
      have hN0 := Kd.N_drew hNr
      have hB0 : Below w.heap.size w wr.drew := below_drew hBr
      have hgW : g < wr.drew.heap.size := hg1
      obtain ⟨A4, c4, A5, c5, hx4, hx5, hz4, hz5, hl4, hF4, hl5, hF5⟩ := elem_at hN0 j hlt
      obtain ⟨hs4, hs5⟩ := hs (j : Int) (by omega) (by omega)
      obtain ⟨f4, he4⟩ : ∃ f4, (rd_T39 l (j : Int)).f4 = f4 := ⟨_, rfl⟩
      obtain ⟨f5, he5⟩ : ∃ f5, (rd_T39 l (j : Int)).f5 = f5 := ⟨_, rfl⟩
      rw [he4] at hx4 hl4 hF4 hs4
      rw [he5] at hx5 hl5 hF5 hs5
      have hS : ∀ W, Below wr.drew.heap.size wr.drew W → W.cell? ⟨g, j * 6 + 4, none⟩ = some (.slice A4 f4.length c4) ∧ W.cell? ⟨g, j * 6 + 5, none⟩ = some (.slice A5 f5.length c5) := fun W hB => ⟨(hB.cell hgW).trans hx4, (hB.cell hgW).trans hx5⟩
      have hC4 : ∀ W, Below wr.drew.heap.size wr.drew W → Kd.string.C W A4 f4.length f4 := fun W hB => Kd.F_now (Kd.F_below hF4 hB)
      have hC5 : ∀ W, Below wr.drew.heap.size wr.drew W → (Kd.int .i64).C W A5 f5.length f5 := fun W hB => Kd.F_now (Kd.F_below hF5 hB)
      have hst : ∀ W, Below wr.drew.heap.size wr.drew W → Kd.N k39 39 W w.heap.size (fun _ => True) (.slice (some ⟨g, 0, none⟩) l.length c1) l ∧ W.cell? ⟨g, j * 6 + 4, none⟩ = some (.slice A4 f4.length c4) ∧ W.frozen? ⟨g, j * 6 + 4, none⟩ = false ∧ W.cell? ⟨g, j * 6 + 5, none⟩ = some (.slice A5 f5.length c5) ∧ W.frozen? ⟨g, j * 6 + 5, none⟩ = false := fun W hB => by
        have hNW := Kd.N_below hN0 hB
        obtain ⟨_, _, _, _, _, _, hz, hz2, _⟩ := elem_at hNW j hlt
        exact ⟨hNW, (hS W hB).1, hz, (hS W hB).2, hz2⟩
      have q1 : ((j : Int) < (l.length : Int)) = True := eq_true (by omega)
      clear hF4 hF5 hl4 hl5 hz4 hz5
      go_wp2
      refine start_ (n := 24) (S := fun w' => w'.cell? ⟨g, j * 6 + 4, none⟩ = some (.slice A4 f4.length c4) ∧ w'.cell? ⟨g, j * 6 + 5, none⟩ = some (.slice A5 f5.length c5)) (ds := [20, 23]) #[false, false, false, false, false, false, false, false, false, false, false, false, false, false, false, false, false, false, false, false, false, false, false, false] (by kernel_rfl) rfl rfl ⟨hx4, hx5⟩ (fun hHeld => ?_)
      refine with_tabW copied.tab5 copied.bits5 (fun HT_ HW_ => ?_)
      generalize hW0 : wr.drew = W0 at *
      refine pure_ (i := 0) (N := some 13) (v := ?_) (a' := ?_) #[true, false, false, false, false, false, false, false, false, false, false, false, false, false, false, false, false, false, false, false, false, false, false, false] rfl rfl (any_of HT_.out (by kernel_rfl)) (fun _ _ _ h => h) (Or.inl ⟨by rfl, ?_⟩) ?_ ?_
      rotate_left
      · intro w'
        go_simp
        with_reducible rfl
      rotate_left
      · simp only [Act.put, List.setIfInBounds_toArray, List.set_cons_zero, List.set_cons_succ, i64_w, i32_w]
        rfl
      refine pure_ (i := 1) (N := some 14) (v := ?_) (a' := ?_) #[true, true, false, false, false, false, false, false, false, false, false, false, false, false, false, false, false, false, false, false, false, false, false, false] rfl rfl (any_of HT_.out (by kernel_rfl)) (fun _ _ _ h => h) (Or.inl ⟨by rfl, ?_⟩) ?_ ?_
      rotate_left
      · intro w'
        go_simp
        with_reducible rfl
      rotate_left
      · simp only [Act.put, List.setIfInBounds_toArray, List.set_cons_zero, List.set_cons_succ, i64_w, i32_w]
        rfl
      refine pure_ (i := 2) (N := some 15) (v := ?_) (a' := ?_) #[true, true, true, false, false, false, false, false, false, false, false, false, false, false, false, false, false, false, false, false, false, false, false, false] rfl rfl (any_of HT_.out (by kernel_rfl)) (fun _ _ _ h => h) (Or.inl ⟨by rfl, ?_⟩) ?_ ?_
      rotate_left
      · intro w'
        go_simp
        with_reducible rfl
      rotate_left
      · simp only [Act.put, List.setIfInBounds_toArray, List.set_cons_zero, List.set_cons_succ, i64_w, i32_w]
        rfl
      refine pure_ (i := 3) (N := some 16) (v := ?_) (a' := ?_) #[true, true, true, true, false, false, false, false, false, false, false, false, false, false, false, false, false, false, false, false, false, false, false, false] rfl rfl (any_of HT_.out (by kernel_rfl)) (fun _ _ _ h => h) (Or.inl ⟨by rfl, ?_⟩) ?_ ?_
      rotate_left
      · intro w'
        go_simp
        with_reducible rfl
      rotate_left
      · simp only [Act.put, List.setIfInBounds_toArray, List.set_cons_zero, List.set_cons_succ, i64_w, i32_w]
        rfl
      refine pure_ (i := 5) (N := some 18) (v := ?_) (a' := ?_) #[true, true, true, true, false, true, false, false, false, false, false, false, false, false, false, false, false, false, false, false, false, false, false, false] rfl rfl (any_of HT_.out (by kernel_rfl)) (fun _ _ _ h => h) (Or.inl ⟨by rfl, ?_⟩) ?_ ?_
      rotate_left
      · intro w'
        go_simp
        with_reducible rfl
      rotate_left
      · simp only [Act.put, List.setIfInBounds_toArray, List.set_cons_zero, List.set_cons_succ, i64_w, i32_w]
        rfl
      refine pure_ (i := 6) (N := some 19) (v := ?_) (a' := ?_) #[true, true, true, true, false, true, true, false, false, false, false, false, false, false, false, false, false, false, false, false, false, false, false, false] rfl rfl (any_of HT_.out (by kernel_rfl)) (fun _ _ _ h => h) (Or.inl ⟨by rfl, ?_⟩) ?_ ?_
      rotate_left
      · intro w'
        go_simp
        with_reducible rfl
      rotate_left
      · simp only [Act.put, List.setIfInBounds_toArray, List.set_cons_zero, List.set_cons_succ, i64_w, i32_w]
        rfl
      refine pure_ (i := 7) (N := some 20) (v := ?_) (a' := ?_) #[true, true, true, true, false, true, true, true, false, false, false, false, false, false, false, false, false, false, false, false, false, false, false, false] rfl rfl (any_of HT_.out (by kernel_rfl)) (fun _ _ _ h => h) (Or.inl ⟨by rfl, ?_⟩) ?_ ?_
      rotate_left
      · intro w'
        go_simp
        with_reducible rfl
      rotate_left
      · simp only [Act.put, List.setIfInBounds_toArray, List.set_cons_zero, List.set_cons_succ, i64_w, i32_w]
        rfl
      refine pure_ (i := 8) (N := some 21) (v := ?_) (a' := ?_) #[true, true, true, true, false, true, true, true, true, false, false, false, false, false, false, false, false, false, false, false, false, false, false, false] rfl rfl (any_of HT_.out (by kernel_rfl)) (fun _ _ _ h => h) (Or.inl ⟨by rfl, ?_⟩) ?_ ?_
      rotate_left
      · intro w'
        go_simp
        with_reducible rfl
      rotate_left
      · simp only [Act.put, List.setIfInBounds_toArray, List.set_cons_zero, List.set_cons_succ, i64_w, i32_w]
        rfl
      refine pure_ (i := 12) (N := some 25) (v := ?_) (a' := ?_) #[true, true, true, true, false, true, true, true, true, false, false, false, true, false, false, false, false, false, false, false, false, false, false, false] rfl rfl (any_of HT_.out (by kernel_rfl)) (fun _ _ _ h => h) (Or.inl ⟨by rfl, ?_⟩) ?_ ?_
      rotate_left
      · intro w'
        go_simp
        with_reducible rfl
      rotate_left
      · simp only [Act.put, List.setIfInBounds_toArray, List.set_cons_zero, List.set_cons_succ, i64_w, i32_w]
        rfl
      refine pure_ (i := 13) (N := some 26) (v := ?_) (a' := ?_) #[true, true, true, true, false, true, true, true, true, false, false, false, true, true, false, false, false, false, false, false, false, false, false, false] rfl rfl (any_of HT_.out (by kernel_rfl)) (fun _ _ _ h => h) (Or.inl ⟨by rfl, ?_⟩) ?_ ?_
      rotate_left
      · intro w'
        go_simp
        with_reducible rfl
      rotate_left
      · simp only [Act.put, List.setIfInBounds_toArray, List.set_cons_zero, List.set_cons_succ, i64_w, i32_w]
        rfl
      refine pure_ (i := 14) (N := some 27) (v := ?_) (a' := ?_) #[true, true, true, true, false, true, true, true, true, false, false, false, true, true, true, false, false, false, false, false, false, false, false, false] rfl rfl (any_of HT_.out (by kernel_rfl)) (fun _ _ _ h => h) (Or.inl ⟨by rfl, ?_⟩) ?_ ?_
      rotate_left
      · intro w'
        go_simp
        with_reducible rfl
      rotate_left
      · simp only [Act.put, List.setIfInBounds_toArray, List.set_cons_zero, List.set_cons_succ, i64_w, i32_w]
        rfl
      refine pure_ (i := 15) (N := some 28) (v := ?_) (a' := ?_) #[true, true, true, true, false, true, true, true, true, false, false, false, true, true, true, true, false, false, false, false, false, false, false, false] rfl rfl (any_of HT_.out (by kernel_rfl)) (fun _ _ _ h => h) (Or.inl ⟨by rfl, ?_⟩) ?_ ?_
      rotate_left
      · intro w'
        go_simp
        with_reducible rfl
      rotate_left
      · simp only [Act.put, List.setIfInBounds_toArray, List.set_cons_zero, List.set_cons_succ, i64_w, i32_w]
        rfl
      refine take_ (i := 9) (N := some 22) (v := ?_) (a' := ?_) #[true, true, true, true, false, true, true, true, true, true, false, false, true, true, true, true, false, false, false, false, false, false, false, false] rfl rfl (take_ofW HT_.out HW_.out (by kernel_rfl)) (fun _ _ _ h => h) (Or.inl ⟨by rfl, ?_⟩) hHeld ?_ ?_
      rotate_left
      · rintro w' ⟨s0, s1⟩
        go_simp
        with_reducible rfl
      rotate_left
      · simp only [Act.put, List.setIfInBounds_toArray, List.set_cons_zero, List.set_cons_succ, i64_w, i32_w]
        rfl
      refine take_ (i := 16) (N := some 29) (v := ?_) (a' := ?_) #[true, true, true, true, false, true, true, true, true, true, false, false, true, true, true, true, true, false, false, false, false, false, false, false] rfl rfl (take_ofW HT_.out HW_.out (by kernel_rfl)) (fun _ _ _ h => h) (Or.inl ⟨by rfl, ?_⟩) hHeld ?_ ?_
      rotate_left
      · rintro w' ⟨s0, s1⟩
        go_simp
        with_reducible rfl
      rotate_left
      · simp only [Act.put, List.setIfInBounds_toArray, List.set_cons_zero, List.set_cons_succ, i64_w, i32_w]
        rfl
      refine join_ (σ := Value × Value × Value) 7 #[true, true, true, true, true, true, true, true, true, true, true, true, true, true, true, true, true, false, false, false, false, false, false, false] (fun s => [(17, s.1), (24, s.2.1), (23, s.2.2)]) (fun s w' => Kd.string.R 9 w' W0.heap.size (fun _ => True) s.2.2 f4 ∧ (Kd.int .i64).R 3 w' W0.heap.size (fun _ => True) s.2.1 [] ∧ (∀ k, s.2.1.ownBlock = some k → s.2.2.ownBlock ≠ some k) ∧ Below W0.heap.size W0 w') ?cont ?orders
      case orders =>
        intro hjoin
        refine two_ (i := 4) (j := 11) (Ni := some 17) (Nj := some 24) #[true, true, true, true, true, true, true, true, true, true, false, false, true, true, true, true, true, false, false, false, false, false, false, false] #[true, true, true, true, false, true, true, true, true, true, false, true, true, true, true, true, true, false, false, false, false, false, false, false] rfl rfl rfl rfl (two_of HT_.out (by kernel_rfl)) (by decide) (by decide) (fun K hK => ?_) (fun K hK => ?_)
        · refine value_ (v := .slice (some ⟨W0.heap.size, 0, none⟩) 0 0) (w1 := W0.alloc (.cells #[] 9)) (by rfl) rfl (by first | (go_simp; done) | (go_simp; rfl)) ?_
          refine hK.out _ _ (hS _ (below_alloc (Below.refl _ _) _)) (fun hh => ?_)
          clear hK K
          have hB1 : Below W0.heap.size W0 (W0.alloc (.cells #[] 9)) := below_alloc (Below.refl _ _) _
          have hR17 : Kd.string.R 9 (W0.alloc (.cells #[] 9)) W0.heap.size (fun _ => True) (.slice (some ⟨W0.heap.size, 0, none⟩) 0 0) [] := lit_nil _ _ _ _ (Nat.le_refl _) _ trivial
          have hz1 : (W0.alloc (.cells #[] 9)).heap.size = W0.heap.size + 1 := Array.size_push _
          generalize W0.alloc (.cells #[] 9) = W1 at *
          refine two_ (i := 10) (j := 11) (Ni := some 23) (Nj := some 24) #[true, true, true, true, true, true, true, true, true, true, true, false, true, true, true, true, true, false, false, false, false, false, false, false] #[true, true, true, true, true, true, true, true, true, true, false, true, true, true, true, true, true, false, false, false, false, false, false, false] rfl rfl rfl rfl (two_of HT_.out (by kernel_rfl)) (by decide) (by decide) (fun K hK => ?_) (fun K hK => ?_)
          · refine app_step hR17 (hC4 _ hB1) hB1 hs4 (by rfl) rfl rfl rfl ?_
            intro v23 W2 hR23 hB2 hg2 hat2
            refine hK.out _ _ (hS _ hB2) (fun hh => ?_)
            clear hK K
            refine one_ (i := 11) (N := some 24) #[true, true, true, true, true, true, true, true, true, true, true, true, true, true, true, true, true, false, false, false, false, false, false, false] rfl rfl (one_of HT_.out (by kernel_rfl)) (by decide) (fun K hK => ?_)
            refine value_ (v := .slice (some ⟨W2.heap.size, 0, none⟩) 0 0) (w1 := W2.alloc (.cells #[] 3)) (by rfl) rfl (by first | (go_simp; done) | (go_simp; rfl)) ?_
            refine hK.out _ _ (hS _ (below_alloc hB2 _)) (fun hh => ?_)
            clear hK K
            exact hjoin ((.slice (some ⟨W0.heap.size, 0, none⟩) 0 0), .slice (some ⟨W2.heap.size, 0, none⟩) 0 0, v23) _ ⟨Kd.R_alloc hR23 _, lit_nil _ _ _ _ hB2.size _ trivial, fun k hk he => by have := Kd.R_lt hR23 k he; simp [Value.ownBlock] at hk; omega, below_alloc hB2 _⟩
          · refine value_ (v := .slice (some ⟨W1.heap.size, 0, none⟩) 0 0) (w1 := W1.alloc (.cells #[] 3)) (by rfl) rfl (by first | (go_simp; done) | (go_simp; rfl)) ?_
            refine hK.out _ _ (hS _ (below_alloc hB1 _)) (fun hh => ?_)
            clear hK K
            refine one_ (i := 10) (N := some 23) #[true, true, true, true, true, true, true, true, true, true, true, true, true, true, true, true, true, false, false, false, false, false, false, false] rfl rfl (one_of HT_.out (by kernel_rfl)) (by decide) (fun K hK => ?_)
            have hB2 := below_alloc hB1 (.cells #[] 3)
            have hR24 : (Kd.int .i64).R 3 (W1.alloc (.cells #[] 3)) W0.heap.size (fun k => k = W1.heap.size) (.slice (some ⟨W1.heap.size, 0, none⟩) 0 0) [] := lit_nil _ _ _ _ hB1.size _ rfl
            refine app_step (Kd.R_alloc hR17 _) (hC4 _ hB2) hB2 hs4 (by rfl) rfl rfl rfl ?_
            intro v23 W3 hR23 hB3 hg3 hat3
            refine hK.out _ _ (hS _ hB3) (fun hh => ?_)
            clear hK K
            exact hjoin ((.slice (some ⟨W0.heap.size, 0, none⟩) 0 0), .slice (some ⟨W1.heap.size, 0, none⟩) 0 0, v23) _ ⟨hR23, Kd.R_mono (Kd.R_grown hR24 hg3 (fun k hk he => by subst hk; simp [Value.ownBlock] at he; omega)) (fun _ _ => trivial), fun k hk he => by (have hk' : W1.heap.size = k := by simpa [Value.ownBlock] using hk); (rcases hat3 with h | ⟨b, h, hle⟩); (rw [h] at he; have he' : W0.heap.size = k := by simpa [Value.ownBlock] using he); (omega); (rw [h] at he; injection he with he; have hz2 : (W1.alloc (.cells #[] 3)).heap.size = W1.heap.size + 1 := Array.size_push _); (omega), hB3⟩
        · refine value_ (v := .slice (some ⟨W0.heap.size, 0, none⟩) 0 0) (w1 := W0.alloc (.cells #[] 3)) (by rfl) rfl (by first | (go_simp; done) | (go_simp; rfl)) ?_
          refine hK.out _ _ (hS _ (below_alloc (Below.refl _ _) _)) (fun hh => ?_)
          clear hK K
          have hB1 : Below W0.heap.size W0 (W0.alloc (.cells #[] 3)) := below_alloc (Below.refl _ _) _
          have hR24 : (Kd.int .i64).R 3 (W0.alloc (.cells #[] 3)) W0.heap.size (fun k => k = W0.heap.size) (.slice (some ⟨W0.heap.size, 0, none⟩) 0 0) [] := lit_nil _ _ _ _ (Nat.le_refl _) _ rfl
          have hz1 : (W0.alloc (.cells #[] 3)).heap.size = W0.heap.size + 1 := Array.size_push _
          generalize W0.alloc (.cells #[] 3) = W1 at *
          refine one_ (i := 4) (N := some 17) #[true, true, true, true, true, true, true, true, true, true, false, true, true, true, true, true, true, false, false, false, false, false, false, false] rfl rfl (one_of HT_.out (by kernel_rfl)) (by decide) (fun K hK => ?_)
          refine value_ (v := .slice (some ⟨W1.heap.size, 0, none⟩) 0 0) (w1 := W1.alloc (.cells #[] 9)) (by rfl) rfl (by first | (go_simp; done) | (go_simp; rfl)) ?_
          refine hK.out _ _ (hS _ (below_alloc hB1 _)) (fun hh => ?_)
          clear hK K
          have hR17 : Kd.string.R 9 (W1.alloc (.cells #[] 9)) W0.heap.size (fun _ => True) (.slice (some ⟨W1.heap.size, 0, none⟩) 0 0) [] := lit_nil _ _ _ _ hB1.size _ trivial
          have hB2 := below_alloc hB1 (.cells #[] 9)
          refine one_ (i := 10) (N := some 23) #[true, true, true, true, true, true, true, true, true, true, true, true, true, true, true, true, true, false, false, false, false, false, false, false] rfl rfl (one_of HT_.out (by kernel_rfl)) (by decide) (fun K hK => ?_)
          refine app_step hR17 (hC4 _ hB2) hB2 hs4 (by rfl) rfl rfl rfl ?_
          intro v23 W3 hR23 hB3 hg3 hat3
          refine hK.out _ _ (hS _ hB3) (fun hh => ?_)
          clear hK K
          exact hjoin (.slice (some ⟨W1.heap.size, 0, none⟩) 0 0, .slice (some ⟨W0.heap.size, 0, none⟩) 0 0, v23) _ ⟨hR23, Kd.R_mono (Kd.R_grown (Kd.R_alloc hR24 _) hg3 (fun k hk he => by subst hk; simp [Value.ownBlock] at he; omega)) (fun _ _ => trivial), fun k hk he => by (have hk' : W0.heap.size = k := by simpa [Value.ownBlock] using hk); (rcases hat3 with h | ⟨b, h, hle⟩); (rw [h] at he; have he' : W1.heap.size = k := by simpa [Value.ownBlock] using he); (omega); (rw [h] at he; injection he with he; have hz2 : (W1.alloc (.cells #[] 9)).heap.size = W1.heap.size + 1 := Array.size_push _); (omega), hB3⟩
      case cont =>
        rintro ⟨v17, v24, v23⟩ W5 ⟨hR23, hR24, hne, hB5⟩
        dsimp only at hR23 hR24 hne
        obtain ⟨A23, c23, rfl⟩ := Kd.R_slice hR23
        refine norm_ (a' := ?_) ?_ ?_
        rotate_left
        · simp only [putAll, Act.put, List.setIfInBounds_toArray, List.set_cons_zero, List.set_cons_succ, i64_w, i32_w]
          rfl
        refine one_ (i := 17) (oi := { dst := some 30, op := Go.Op.call { callee := Go.Callee.builtin Go.Builtin.append, args := #[Go.Operand.tmp 24, Go.Operand.tmp 29], argTypes := #[37, 37] }, type := 37, pos := "law.go:23", after := #[{ on := 11, ground := Go.Ground.data }, { on := 16, ground := Go.Ground.data }, { on := 10, ground := Go.Ground.chain }], guard := none }) (N := some 30) #[true, true, true, true, true, true, true, true, true, true, true, true, true, true, true, true, true, true, false, false, false, false, false, false] (by (kernel_rfl)) rfl (one_of HT_.out (by kernel_rfl)) (by decide) (fun K hK => ?_)
        refine appi_step hR24 (hC5 _ hB5) hB5 hs5 (by rfl) rfl rfl rfl ?_
        intro v30 W6 hR30 hB6 hg6 hat6
        refine hK.out _ _ (hS _ hB6) (fun hh => ?_)
        clear hK K
        obtain ⟨A30, c30, rfl⟩ := Kd.R_slice hR30
        have hR23' := Kd.R_grown (Kd.R_tight rfl hR23) hg6 (fun k hk he => hne k he.symm hk.symm)
        obtain ⟨hN6, hx46, hf46, hx56, hf56⟩ := hst W6 hB6
        refine pure_ (i := 18) (N := some 31) (v := ?_) (a' := ?_) #[true, true, true, true, true, true, true, true, true, true, true, true, true, true, true, true, true, true, true, false, false, false, false, false] rfl rfl (any_of HT_.out (by kernel_rfl)) (fun _ _ _ h => h) (Or.inl ⟨by rfl, ?_⟩) ?_ ?_
        rotate_left
        · intro w'
          go_simp
          with_reducible rfl
        rotate_left
        · simp only [Act.put, List.setIfInBounds_toArray, List.set_cons_zero, List.set_cons_succ, i64_w, i32_w]
          rfl
        refine pure_ (i := 19) (N := some 32) (v := ?_) (a' := ?_) #[true, true, true, true, true, true, true, true, true, true, true, true, true, true, true, true, true, true, true, true, false, false, false, false] rfl rfl (any_of HT_.out (by kernel_rfl)) (fun _ _ _ h => h) (Or.inl ⟨by rfl, ?_⟩) ?_ ?_
        rotate_left
        · intro w'
          go_simp
          with_reducible rfl
        rotate_left
        · simp only [Act.put, List.setIfInBounds_toArray, List.set_cons_zero, List.set_cons_succ, i64_w, i32_w]
          rfl
        refine last_skip (i := 20) (oi := { dst := none, op := Go.Op.store 36 (Go.Operand.tmp 32) (Go.Operand.tmp 23), type := 0, pos := "law.go:23", after := #[{ on := 19, ground := Go.Ground.data }, { on := 10, ground := Go.Ground.data }, { on := 17, ground := Go.Ground.chain }, { on := 0, ground := Go.Ground.phase }, { on := 1, ground := Go.Ground.phase }, { on := 2, ground := Go.Ground.textOnly Go.Departure.lateStores }, { on := 3, ground := Go.Ground.textOnly Go.Departure.lateStores }, { on := 4, ground := Go.Ground.phase }, { on := 5, ground := Go.Ground.phase }, { on := 6, ground := Go.Ground.phase }, { on := 7, ground := Go.Ground.phase }, { on := 8, ground := Go.Ground.phase }, { on := 9, ground := Go.Ground.phase }, { on := 10, ground := Go.Ground.phase }, { on := 11, ground := Go.Ground.textOnly Go.Departure.lateStoresUnsure }, { on := 12, ground := Go.Ground.textOnly Go.Departure.lateStores }, { on := 13, ground := Go.Ground.textOnly Go.Departure.lateStores }, { on := 14, ground := Go.Ground.textOnly Go.Departure.lateStoresUnsure }, { on := 15, ground := Go.Ground.textOnly Go.Departure.lateStoresUnsure }, { on := 16, ground := Go.Ground.phase }, { on := 17, ground := Go.Ground.phase }], guard := none }) (w1 := ?_) #[true, true, true, true, true, true, true, true, true, true, true, true, true, true, true, true, true, true, true, true, true, false, false, false] (by (kernel_rfl)) rfl (one_of HT_.out (by kernel_rfl)) (by decide) rfl ?_ ?_
        rotate_left
        · go_simp
          rfl
        refine pure_ (i := 21) (N := some 33) (v := ?_) (a' := ?_) #[true, true, true, true, true, true, true, true, true, true, true, true, true, true, true, true, true, true, true, true, true, true, false, false] rfl rfl (any_of HT_.out (by kernel_rfl)) (fun _ _ _ h => h) (Or.inl ⟨by rfl, ?_⟩) ?_ ?_
        rotate_left
        · intro w'
          go_simp
          with_reducible rfl
        rotate_left
        · simp only [Act.put, List.setIfInBounds_toArray, List.set_cons_zero, List.set_cons_succ, i64_w, i32_w]
          rfl
        refine pure_ (i := 22) (N := some 34) (v := ?_) (a' := ?_) #[true, true, true, true, true, true, true, true, true, true, true, true, true, true, true, true, true, true, true, true, true, true, true, false] rfl rfl (any_of HT_.out (by kernel_rfl)) (fun _ _ _ h => h) (Or.inl ⟨by rfl, ?_⟩) ?_ ?_
        rotate_left
        · intro w'
          go_simp
          with_reducible rfl
        rotate_left
        · simp only [Act.put, List.setIfInBounds_toArray, List.set_cons_zero, List.set_cons_succ, i64_w, i32_w]
          rfl
        refine last_skip (i := 23) (oi := { dst := none, op := Go.Op.store 37 (Go.Operand.tmp 34) (Go.Operand.tmp 30), type := 0, pos := "law.go:23", after := #[{ on := 22, ground := Go.Ground.data }, { on := 17, ground := Go.Ground.data }, { on := 20, ground := Go.Ground.chain }, { on := 0, ground := Go.Ground.phase }, { on := 1, ground := Go.Ground.phase }, { on := 2, ground := Go.Ground.phase }, { on := 3, ground := Go.Ground.phase }, { on := 4, ground := Go.Ground.phase }, { on := 5, ground := Go.Ground.phase }, { on := 6, ground := Go.Ground.phase }, { on := 7, ground := Go.Ground.phase }, { on := 8, ground := Go.Ground.phase }, { on := 9, ground := Go.Ground.phase }, { on := 10, ground := Go.Ground.phase }, { on := 11, ground := Go.Ground.phase }, { on := 12, ground := Go.Ground.phase }, { on := 13, ground := Go.Ground.phase }, { on := 14, ground := Go.Ground.phase }, { on := 15, ground := Go.Ground.phase }, { on := 16, ground := Go.Ground.phase }, { on := 17, ground := Go.Ground.phase }, { on := 18, ground := Go.Ground.phase }, { on := 19, ground := Go.Ground.phase }, { on := 20, ground := Go.Ground.phase }], guard := none }) (w1 := ?_) #[true, true, true, true, true, true, true, true, true, true, true, true, true, true, true, true, true, true, true, true, true, true, true, true] (by (kernel_rfl)) rfl (one_of HT_.out (by kernel_rfl)) (by decide) rfl ?_ ?_
        rotate_left
        · go_simp
          rfl
        refine done_ (done_of HT_.out (by kernel_rfl)) ?_
        have hB6' := hB0.trans (hB6.mono hB0.size)
        obtain ⟨hN7, hg7⟩ := put4 hN6 j hlt (b0 := W0.heap.size) (by rw [he4]; exact Kd.R_mono hR23' (fun _ _ => trivial)) hgW
        have hR30' : (Kd.int .i64).R 3 (W6.setCell ⟨g, j * 6 + 4, none⟩ (.slice A23 f4.length c23)) W0.heap.size (fun _ => True) (.slice A30 f5.length c30) f5 := Kd.R_mono (Kd.R_grown (Kd.R_bound hR30) hg7 (fun k hk he => by have := hk.2.1; injection he with he; omega)) (fun _ _ => trivial)
        obtain ⟨hN8, hg8⟩ := put5 hN7 j hlt (b0 := W0.heap.size) (by rw [he5]; exact hR30') hgW
        have hB7' := hB6'.grown hg7 hB6'.size (fun k e => by injection e with e; omega)
        have hB8' := hB7'.grown hg8 hB7'.size (fun k e => by injection e with e; omega)
        go_wp2
        go_roundw
        case rel => exact ⟨j + 1, by omega, by go_num, hN8, hB8'⟩
        case measure => simp [intOf]; omega
    · obtain rfl : j = l.length := by omega
      go_wp2
      go_ret
      exact ⟨_, rfl, hNr, hBr⟩
end Go.Proofs.YtldlkoncndlbhaaDoor.Cp
namespace Go.Proofs.YtldlkoncndlbhaaDoor.Pure
open Go.RowKit Go.Proofs.YtldlkoncndlbhaaDoor.PSh Go.Proofs.YtldlkoncndlbhaaDoor.Cp Go.Proofs.YtldlkoncndlbhaaDoor.Aw Go.Proofs.YtldlkoncndlbhaaDoorW.PrintWords Go.Proofs.YtldlkoncndlbhaaDoorW.PrintLast Go.Proofs.YtldlkoncndlbhaaDoorW.PrintMore
set_option linter.unusedSimpArgs false
set_option linter.unusedVariables false
end Go.Proofs.YtldlkoncndlbhaaDoor.Pure
namespace Go.Proofs.YtldlkoncndlbhaaDoor.Rd
open Go.ChangeShapes Go.WideShapes Go.RowKit Go.Proofs.YtldlkoncndlbhaaDoor.PSh Go.Proofs.YtldlkoncndlbhaaDoor.Pure Go.Proofs.YtldlkoncndlbhaaDoorW.PrintWords Go.Proofs.YtldlkoncndlbhaaDoorW.PrintLast Go.Proofs.YtldlkoncndlbhaaDoorW.PrintMore
set_option linter.unusedSimpArgs false
set_option linter.unusedVariables false
section
variable {H : Type} {enc : TypeId × Value → H} {W : World} {base : Nat} {spare : Nat → Bool} {held : Bool} {fuel : Nat} {cs : List Value} {x : DataW H × List MemPlace}
/-- Within the reach. -/
def Fits (t : TypeId) (d : DataW H) : Prop := ∀ n ∈ d.weights Tryd.prog t, n ≤ reachBytes
theorem six {α : Type} (l : List α) (h : l.length = 6) : ∃ a b c d e f, l = [a, b, c, d, e, f] := by
  cases l with
  | nil => cases h
  | cons a l => cases l with
    | nil => cases h
    | cons b l => cases l with
      | nil => cases h
      | cons c l => cases l with
        | nil => cases h
        | cons d l => cases l with
          | nil => cases h
          | cons e l => cases l with
            | nil => cases h
            | cons f l => cases l with
              | nil => exact ⟨a, b, c, d, e, f, rfl⟩
              | cons g l => simp at h
/-- What a value's sizes are. -/
def Ok (v : S39) : Prop := (∀ s ∈ v.f4, s.size ≤ 140737488351232) ∧ v.f3.size ≤ 140737488351232 ∧ v.f4.length * 16 ≤ 140737488351232 ∧ v.f5.length * 8 ≤ 140737488351232
end
end Go.Proofs.YtldlkoncndlbhaaDoor.Rd
namespace Go.Proofs.YtldlkoncndlbhaaDoor.Bulk
open Go.ChangeShapes Go.WideShapes
theorem one_le {H : Type} (d : DataW H) : 1 ≤ Rows.uptoBulk d := by
  cases d with
  | lit l => cases l <;> simp [Rows.uptoBulk]
  | nil => simp [Rows.uptoBulk]
  | ptr d => simp [Rows.uptoBulk]
  | slice elems spare => simp [Rows.uptoBulk]
  | agg parts => simp [Rows.uptoBulk]
  | iface t d => simp [Rows.uptoBulk]
  | map entries => simp [Rows.uptoBulk]
  | held h => simp [Rows.uptoBulk]
theorem part_le {H : Type} {d : DataW H} {l : List (DataW H)} (h : d ∈ l) : Rows.uptoBulk d ≤ Rows.uptoBulkAll l := by
  induction l with
  | nil => cases h
  | cons x r ih =>
    simp only [Rows.uptoBulkAll]
    cases List.mem_cons.1 h with
    | inl e => subst e; omega
    | inr e => have := ih e; omega
theorem length_le {H : Type} (l : List (DataW H)) : l.length ≤ Rows.uptoBulkAll l := by
  induction l with
  | nil => simp [Rows.uptoBulkAll]
  | cons x r ih => have := one_le x; simp only [Rows.uptoBulkAll, List.length_cons]; omega
theorem slice_le {H : Type} (elems spare : List (DataW H)) : elems.length + spare.length + 1 ≤ Rows.uptoBulk (.slice elems spare) := by
  have h1 := length_le elems
  have h2 := length_le spare
  simp only [Rows.uptoBulk]
  omega
theorem small {H : Type} {l : List (DataW H)} (hk : Rows.uptoSmall H l = true) : Rows.uptoBulkAll l ≤ 1048576 := of_decide_eq_true hk
end Go.Proofs.YtldlkoncndlbhaaDoor.Bulk
namespace Go.Proofs.YtldlkoncndlbhaaDoor.Rd
open Go.ChangeShapes Go.WideShapes Go.RowKit Go.Proofs.YtldlkoncndlbhaaDoor.PSh Go.Proofs.YtldlkoncndlbhaaDoor.Pure Go.Proofs.YtldlkoncndlbhaaDoorW.PrintWords Go.Proofs.YtldlkoncndlbhaaDoorW.PrintLast Go.Proofs.YtldlkoncndlbhaaDoorW.PrintMore
set_option linter.unusedSimpArgs false
set_option linter.unusedVariables false
/-- How much a value holds. -/
def cost (v : S39) : Nat := 1 + v.f3.size + (v.f4.map fun s => s.size + 1).sum + v.f5.length
section
variable {H : Type} {enc : TypeId × Value → H} {W : World} {base : Nat} {spare : Nat → Bool} {held : Bool} {fuel : Nat} {cs : List Value} {x : DataW H × List MemPlace}
theorem bulk_strs : ∀ ss : List ByteArray, Rows.uptoBulkAll (strs (H := H) ss) = (ss.map fun s => s.size + 1).sum
  | [] => rfl
  | s :: r => by
    have h := bulk_strs r
    unfold strs at h ⊢
    rw [List.map_cons, Rows.uptoBulkAll, h, List.map_cons, List.sum_cons]
    simp [Rows.uptoBulk, data_length]
theorem names_ofB (h : DataW.trod enc Tryd.prog W base spare held fuel 36 cs = some x) :
    ∃ (A : Option Addr) (c : Nat) (ss : List ByteArray), cs = [.slice A ss.length c] ∧ ss.length ≤ c ∧ Kd.string.C W A ss.length ss ∧ (ss.map fun s => s.size + 1).sum ≤ Rows.uptoBulk x.1 := by
  have hb : Tryd.prog.bytesOf 9 = 16 := by kernel_rfl
  rcases open_strings Tryd.underlying36 Tryd.underlying9 (by kernel_rfl) h with ⟨rfl, rfl⟩ | ⟨a, len, cap, ss, rfl, _, hl, hm, hlen, rfl, hcell, hsz⟩
  · exact ⟨none, 0, [], rfl, Nat.le_refl _, Kd.C_nil _ _, Nat.zero_le _⟩
  · have hls : len ≤ ss.length := by rw [hlen]; split <;> omega
    have hlt : (ss.take len).length = len := by rw [List.length_take]; omega
    refine ⟨some a, cap, ss.take len, by rw [hlt], by rw [hlt]; exact hl, ?_, ?_⟩
    · rw [hlt]
      refine ⟨hlt, by unfold maxLen at hm; omega, fun hp => ⟨a, rfl, fun j p hj => ⟨[.string p], rfl, rfl, fun i u hu => ?_⟩⟩⟩
      match i, hu with
      | 0, hu =>
        cases hu
        have hjl : j < len := by have := (List.getElem?_eq_some_iff.1 hj).1; omega
        rw [Nat.add_zero, show j * Kd.string.sz = j from Nat.mul_one j, hcell j (by omega)]
        rw [List.getElem?_take, if_pos hjl] at hj
        rw [List.getD_eq_getElem?_getD, hj]
        rfl
      | i + 1, hu => cases hu
    · rw [← bulk_strs (H := H)]
      simp only [Rows.uptoBulk]
      omega
theorem kids_ofB (h : DataW.trod enc Tryd.prog W base spare held fuel 37 cs = some x) :
    ∃ (A : Option Addr) (c : Nat) (zs : List Int), cs = [.slice A zs.length c] ∧ zs.length ≤ c ∧ (Kd.int .i64).C W A zs.length zs ∧ zs.length ≤ Rows.uptoBulk x.1 := by
  have hb : Tryd.prog.bytesOf 3 = 8 := by kernel_rfl
  rcases open_ints Tryd.underlying37 Tryd.underlying3 (by kernel_rfl) h with ⟨rfl, rfl⟩ | ⟨a, len, cap, zs, rfl, _, hl, hm, hlen, rfl, hcell, _⟩
  · exact ⟨none, 0, [], rfl, Nat.le_refl _, Kd.C_nil _ _, Nat.zero_le _⟩
  · have hls : len ≤ zs.length := by rw [hlen]; split <;> omega
    have hlt : (zs.take len).length = len := by rw [List.length_take]; omega
    refine ⟨some a, cap, zs.take len, by rw [hlt], by rw [hlt]; exact hl, ?_, ?_⟩
    · rw [hlt]
      refine ⟨hlt, by unfold maxLen at hm; omega, fun hp => ⟨a, rfl, fun j p hj => ⟨[.int .i64 p], rfl, rfl, fun i u hu => ?_⟩⟩⟩
      match i, hu with
      | 0, hu =>
        cases hu
        have hjl : j < len := by have := (List.getElem?_eq_some_iff.1 hj).1; omega
        rw [Nat.add_zero, show j * (Kd.int .i64).sz = j from Nat.mul_one j, hcell j (by omega)]
        rw [List.getElem?_take, if_pos hjl] at hj
        rw [List.getD_eq_getElem?_getD, hj]
        rfl
      | i + 1, hu => cases hu
    · have h1 := Bulk.slice_le (lits (H := H) .i64 (zs.take len)) (lits (H := H) .i64 (zs.drop len))
      have h2 : (lits (H := H) .i64 (zs.take len)).length = len := by unfold lits; rw [List.length_map, hlt]
      rw [hlt]
      rw [h2] at h1
      exact Nat.le_trans (by omega) h1
/-- A value. -/
theorem value_ofB (h : DataW.trod enc Tryd.prog W base spare held fuel 39 cs = some x) : ∃ v : S39, k39.K W v cs ∧ cost v ≤ Rows.uptoBulk x.1 := by
  obtain ⟨xs, n, _, rfl, hcl, hxl, hfi⟩ := DataW.trod_struct Tryd.underlying39 h
  have hc6 : cs.length = 6 := hcl.trans (by kernel_rfl)
  have hx6 : xs.length = 6 := hxl
  obtain ⟨x0, x1, x2, x3, x4, x5, rfl⟩ := six xs hx6
  obtain ⟨c0, c1, c2, c3, c4, c5, rfl⟩ := six cs hc6
  have e35 : Tryd.prog.cellsOf 35 = 1 := by kernel_rfl
  have e4 : Tryd.prog.cellsOf 4 = 1 := by kernel_rfl
  have e3 : Tryd.prog.cellsOf 3 = 1 := by kernel_rfl
  have e9 : Tryd.prog.cellsOf 9 = 1 := by kernel_rfl
  have e36 : Tryd.prog.cellsOf 36 = 1 := by kernel_rfl
  have e37 : Tryd.prog.cellsOf 37 = 1 := by kernel_rfl
  have h0 : DataW.trod enc Tryd.prog W base spare held n 35 (([c0, c1, c2, c3, c4, c5].drop 0).take (Tryd.prog.cellsOf 35)) = some x0 := hfi 0 _ rfl
  have h1 : DataW.trod enc Tryd.prog W base spare held n 4 (([c0, c1, c2, c3, c4, c5].drop 1).take (Tryd.prog.cellsOf 4)) = some x1 := hfi 1 _ rfl
  have h2 : DataW.trod enc Tryd.prog W base spare held n 3 (([c0, c1, c2, c3, c4, c5].drop 2).take (Tryd.prog.cellsOf 3)) = some x2 := hfi 2 _ rfl
  have h3 : DataW.trod enc Tryd.prog W base spare held n 9 (([c0, c1, c2, c3, c4, c5].drop 3).take (Tryd.prog.cellsOf 9)) = some x3 := hfi 3 _ rfl
  have h4 : DataW.trod enc Tryd.prog W base spare held n 36 (([c0, c1, c2, c3, c4, c5].drop 4).take (Tryd.prog.cellsOf 36)) = some x4 := hfi 4 _ rfl
  have h5 : DataW.trod enc Tryd.prog W base spare held n 37 (([c0, c1, c2, c3, c4, c5].drop 5).take (Tryd.prog.cellsOf 37)) = some x5 := hfi 5 _ rfl
  rw [e35] at h0
  rw [e4] at h1
  rw [e3] at h2
  rw [e9] at h3
  rw [e36] at h4
  rw [e37] at h5
  obtain ⟨n0, g0, _, _⟩ := DataW.trod_int Tryd.underlying35 h0
  obtain ⟨b1, g1, _⟩ := DataW.trod_bool Tryd.underlying4 h1
  obtain ⟨n2, g2, _, _⟩ := DataW.trod_int Tryd.underlying3 h2
  obtain ⟨s3, g3, hx3, _⟩ := DataW.trod_string Tryd.underlying9 h3
  obtain ⟨A4, k4, ss, g4, l4, C4, z4⟩ := names_ofB h4
  obtain ⟨A5, k5, zs, g5, l5, C5, z5⟩ := kids_ofB h5
  have b0 := Bulk.one_le x0.1
  have b1' := Bulk.one_le x1.1
  have b2 := Bulk.one_le x2.1
  have w3 : Rows.uptoBulk x3.1 = s3.size + 1 := by rw [hx3]; simp [Rows.uptoBulk, data_length]
  cases g0
  cases g1
  cases g2
  cases g3
  cases g4
  cases g5
  refine ⟨⟨n0, b1, n2, s3, ss, zs⟩, k39_mk W ⟨n0, b1, n2, s3, ss, zs⟩ l4 C4 l5 C5, ?_⟩
  show 1 + s3.size + (ss.map fun s => s.size + 1).sum + zs.length ≤ _
  simp only [List.map_cons, List.map_nil, Rows.uptoBulk, Rows.uptoBulkAll]
  omega
theorem sum_range (f g : Nat → Nat) : ∀ n, (∀ i, i < n → f i ≤ g i) → ((List.range n).map f).sum ≤ ((List.range n).map g).sum
  | 0, _ => Nat.le_refl _
  | n + 1, h => by
    rw [List.range_succ, List.map_append, List.map_append, List.sum_append, List.sum_append]
    have := sum_range f g n (fun i hi => h i (by omega))
    have := h n (by omega)
    simp
    omega
theorem bulk_all : ∀ l : List (DataW H), Rows.uptoBulkAll l = (l.map Rows.uptoBulk).sum
  | [] => rfl
  | d :: r => by rw [Rows.uptoBulkAll, bulk_all r, List.map_cons, List.sum_cons]
/-- A tree. -/
theorem tree_ofB (h : DataW.trod enc Tryd.prog W base spare held fuel 23 cs = some x) :
    ∃ (A : Option Addr) (c : Nat) (l : List S39), cs = [.slice A l.length c] ∧ l.length ≤ c ∧ Kd.C k39 W A l.length l ∧ (l.map cost).sum ≤ Rows.uptoBulk x.1 := by
  have e39 : Tryd.prog.cellsOf 39 = 6 := by kernel_rfl
  rcases Go.Deep.open_slice Tryd.underlying23 h with ⟨rfl, rfl⟩ | ⟨a, len, cap, m, n, D, Pl, rfl, _, hl, hm, hmm, rfl, hel⟩
  · exact ⟨none, 0, [], rfl, Nat.le_refl _, Kd.C_nil _ _, Nat.zero_le _⟩
  · have hlm : len ≤ m := by rw [hmm]; split <;> omega
    have hval : ∀ i, i < len → ∃ v : S39, (∃ c : List Value, c.length = 6 ∧ k39.K W v c ∧ ∀ j u, c[j]? = some u → W.cell? (a.add (i * 6 + j)) = some u) ∧ cost v ≤ Rows.uptoBulk (D i) := by
      intro i hi
      obtain ⟨cs', hcs, htr⟩ := hel i (by omega)
      rw [e39] at hcs
      obtain ⟨_, hcl, hce⟩ := World.cells?_some hcs
      obtain ⟨v, hK, hok⟩ := value_ofB htr
      refine ⟨v, ⟨cs', hcl, hK, fun j u hu => ?_⟩, hok⟩
      have hj : j < 6 := by have := (List.getElem?_eq_some_iff.1 hu).1; omega
      rw [← Go.Deep.add_add, hce j hj]
      exact hu
    let f : Nat → S39 := fun i => if hi : i < len then Classical.choose (hval i hi) else z39
    have hfs : ∀ i (hi : i < len), f i = Classical.choose (hval i hi) := fun i hi => dif_pos hi
    refine ⟨some a, cap, (List.range len).map f, by rw [List.length_map, List.length_range], by rw [List.length_map, List.length_range]; exact hl, ?_, ?_⟩
    · rw [List.length_map, List.length_range]
      refine ⟨by rw [List.length_map, List.length_range], by unfold maxLen at hm; omega, fun hp => ⟨a, rfl, fun j p hj => ?_⟩⟩
      have hjl : j < len := by have := (List.getElem?_eq_some_iff.1 hj).1; rwa [List.length_map, List.length_range] at this
      rw [List.getElem?_map, List.getElem?_range hjl] at hj
      cases hj
      obtain ⟨c, h1, h2, h3⟩ := (Classical.choose_spec (hval j hjl)).1
      rw [hfs j hjl]
      exact ⟨c, h1, h2, h3⟩
    · have h1 := sum_range (fun i => cost (f i)) (fun i => Rows.uptoBulk (D i)) len (fun i hi => by rw [hfs i hi]; exact (Classical.choose_spec (hval i hi)).2)
      rw [List.map_map]
      show ((List.range len).map fun i => cost (f i)).sum ≤ _
      refine Nat.le_trans h1 ?_
      have h2 : Rows.uptoBulkAll ((List.range len).map D) = ((List.range len).map fun i => Rows.uptoBulk (D i)).sum := by
        rw [bulk_all, List.map_map]
        rfl
      rw [← h2]
      simp only [Rows.uptoBulk]
      omega
end
/-! What a bounded cost gives. -/
theorem cost_pos (v : S39) : 1 ≤ cost v := by unfold cost; omega
theorem sum_mem (l : List S39) (v : S39) (h : v ∈ l) : cost v ≤ (l.map cost).sum := by
  induction l with
  | nil => cases h
  | cons a r ih =>
    rw [List.map_cons, List.sum_cons]
    rcases List.mem_cons.1 h with rfl | h
    · omega
    · have := ih h; omega
theorem len_cost (l : List S39) : l.length ≤ (l.map cost).sum := by
  induction l with
  | nil => exact Nat.le_refl _
  | cons a r ih => rw [List.map_cons, List.sum_cons, List.length_cons]; have := cost_pos a; omega
theorem names_len (ss : List ByteArray) : ss.length ≤ (ss.map fun s => s.size + 1).sum := by
  induction ss with
  | nil => exact Nat.le_refl _
  | cons a r ih => rw [List.map_cons, List.sum_cons, List.length_cons]; omega
theorem name_le (ss : List ByteArray) (s : ByteArray) (h : s ∈ ss) : s.size + 1 ≤ (ss.map fun s => s.size + 1).sum := by
  induction ss with
  | nil => cases h
  | cons a r ih =>
    rw [List.map_cons, List.sum_cons]
    rcases List.mem_cons.1 h with rfl | h
    · omega
    · have := ih h; omega
end Go.Proofs.YtldlkoncndlbhaaDoor.Rd
namespace Go.Proofs.YtldlkoncndlbhaaDoor.Pure
open Go.RowKit Go.Proofs.YtldlkoncndlbhaaDoor.Utf Go.Proofs.YtldlkoncndlbhaaDoor.Pl Go.Proofs.YtldlkoncndlbhaaDoor.Tx Go.Proofs.YtldlkoncndlbhaaDoor.PSh Go.Proofs.YtldlkoncndlbhaaDoorW.PrintWords Go.Proofs.YtldlkoncndlbhaaDoorW.PrintLast Go.Proofs.YtldlkoncndlbhaaDoorW.PrintMore
set_option linter.unusedSimpArgs false
set_option linter.unusedVariables false
theorem joined_congr (g h : Nat → List UInt8) : ∀ n, (∀ i, i < n → g i = h i) → joined g n = joined h n
  | 0, _ => rfl
  | n + 1, e => by rw [joined, joined, joined_congr g h n (fun i hi => e i (by omega)), e n (by omega)]
/-- A place's text, whatever the rounds. -/
theorem txt_stable (l : List S39) (ht : Tree l) : ∀ (f g : Nat) (a : Int), 0 ≤ a → a < l.length → a.toNat < f → a.toNat < g → txt l f a = txt l g a := by
  intro f
  induction f with
  | zero => intro g a h0 h1 h2; omega
  | succ f ih =>
    intro g a h0 h1 h2 h3
    obtain ⟨g, rfl⟩ : ∃ m, g = m + 1 := ⟨g - 1, by omega⟩
    obtain ⟨hp, hk⟩ := ht a h0 h1
    rw [txt_succ, txt_succ]
    have e : ∀ i : Nat, i < (rd_T39 l a).f5.length → txt l f (rd (rd_T39 l a).f5 (i : Int)) = txt l g (rd (rd_T39 l a).f5 (i : Int)) := fun i hi => by
      obtain ⟨k0, k1⟩ := hk i hi
      exact ih g _ k0 (by omega) (by omega) (by omega)
    rcases plain_kind hp with k | k | k | k | k | k
    · rw [txtOf_1 _ _ k, txtOf_1 _ _ k]
    · rw [txtOf_2 _ _ k, txtOf_2 _ _ k]
    · rw [txtOf_3 _ _ k.1, txtOf_3 _ _ k.1]
    · rw [txtOf_4 _ _ k, txtOf_4 _ _ k]
    · rw [txtOf_5 _ _ k, txtOf_5 _ _ k, joined_congr _ _ _ e]
    · rw [txtOf_6 _ _ k.1, txtOf_6 _ _ k.1, joined_congr _ _ _ (fun i hi => by rw [e i hi])]
/-- A sum over the places below. -/
def sumN (g : Nat → Nat) : Nat → Nat
  | 0 => 0
  | n + 1 => sumN g n + g n
theorem sumN_le (g h : Nat → Nat) : ∀ n, (∀ i, i < n → g i ≤ h i) → sumN g n ≤ sumN h n
  | 0, _ => Nat.le_refl _
  | n + 1, e => by have := sumN_le g h n (fun i hi => e i (by omega)); have := e n (by omega); rw [sumN, sumN]; omega
theorem sumN_congr (g h : Nat → Nat) : ∀ n, (∀ i, i < n → g i = h i) → sumN g n = sumN h n
  | 0, _ => rfl
  | n + 1, e => by rw [sumN, sumN, sumN_congr g h n (fun i hi => e i (by omega)), e n (by omega)]
theorem sumN_add (g h : Nat → Nat) : ∀ n, sumN (fun i => g i + h i) n = sumN g n + sumN h n
  | 0 => rfl
  | n + 1 => by rw [sumN, sumN, sumN, sumN_add g h n]; omega
theorem joined_len (g : Nat → List UInt8) : ∀ n, (joined g n).length ≤ sumN (fun i => (g i).length + 1) n
  | 0 => Nat.le_refl _
  | n + 1 => by
    have := joined_len g n
    rw [joined, sumN, List.length_append, List.length_append]
    split <;> simp <;> omega
/-- What is not yet a kid, below place i. -/
def openSum (cost : Nat → Nat) (fl : List Bool) (i : Nat) : Nat := sumN (fun j => if rdOf false fl (j : Int) = true then 0 else cost j) i
theorem openSum_set (cost : Nat → Nat) (fl : List Bool) (k : Nat) (hk : k < fl.length) (hf : rdOf false fl (k : Int) = false) : ∀ i, k < i → openSum cost (fl.set k true) i + cost k = openSum cost fl i := by
  intro i
  unfold openSum
  induction i with
  | zero => intro h; omega
  | succ i ih =>
    intro h
    rw [sumN, sumN]
    by_cases e : k = i
    · subst e
      have h1 : sumN (fun j => if rdOf false (fl.set k true) (j : Int) = true then 0 else cost j) k = sumN (fun j => if rdOf false fl (j : Int) = true then 0 else cost j) k :=
        sumN_congr _ _ _ fun j hj => by
          have e := rdF_set fl k j true hk
          rw [if_neg (by omega)] at e
          rw [e]
      have e2 := rdF_set fl k k true hk
      rw [if_pos rfl] at e2
      rw [h1, e2, hf]
      simp
    · have := ih (by omega)
      have e2 := rdF_set fl k i true hk
      rw [if_neg e] at e2
      rw [e2]
      omega
/-- The kids' costs are taken out of what is open. -/
theorem kids_sum (cost : Nat → Nat) (dp : List Int) (i : Nat) : ∀ (kids : List Int) (fl fl' : List Bool) (m m' : Int), kidsGo dp i fl kids m = some (fl', m') → i ≤ fl.length →
    fl'.length = fl.length ∧ openSum cost fl' i + (kids.map fun k => cost k.toNat).sum = openSum cost fl i ∧ ∀ j : Nat, i ≤ j → rdOf false fl' (j : Int) = rdOf false fl (j : Int)
  | [], fl, fl', m, m', h, hi => by
    cases h
    exact ⟨rfl, by simp, fun _ _ => rfl⟩
  | k :: r, fl, fl', m, m', h, hi => by
    rw [kidsGo] at h
    split at h
    · rename_i hc
      obtain ⟨h0, h1, h2⟩ := hc
      have hk : k.toNat < i := by omega
      have e : ((k.toNat : Nat) : Int) = k := Int.toNat_of_nonneg h0
      obtain ⟨g1, g2, g3⟩ := kids_sum cost dp i r _ fl' _ m' h (by rw [List.length_set]; exact hi)
      have hs := openSum_set cost fl k.toNat (by omega) (by rw [e]; exact h2) i hk
      refine ⟨by rw [g1, List.length_set], ?_, fun j hj => ?_⟩
      · rw [List.map_cons, List.sum_cons]
        omega
      · have e2 := rdF_set fl k.toNat j true (by omega)
        rw [if_neg (by omega)] at e2
        rw [g3 j hj, e2]
    · cases h
theorem inner_len : ∀ (n : Nat) (l : List UInt8), l.length ≤ n → (inner l).length ≤ 6 * l.length
  | 0, l, h => by
    obtain rfl : l = [] := List.eq_nil_of_length_eq_zero (by omega)
    rw [Qu.inner_nil]
    exact Nat.le_refl _
  | n + 1, l, h => by
    by_cases hne : l = []
    · subst hne
      rw [Qu.inner_nil]
      exact Nat.le_refl _
    · have hp := Qu.piece_le l
      have hw := wid_le l
      have h0 := adv_pos l
      have hl : 0 < l.length := List.length_pos_iff.2 hne
      have ha : adv l ≤ l.length := by unfold adv; split <;> omega
      have hi := inner_len n (l.drop (adv l)) (by rw [List.length_drop]; omega)
      rw [List.length_drop] at hi
      rw [Qu.inner_step l hne, List.length_append]
      omega
theorem quotes_len (s : ByteArray) : (inQuotes s.data.toList).length ≤ 6 * s.size + 2 := by
  have := inner_len _ s.data.toList (Nat.le_refl _)
  rw [data_length] at this
  unfold inQuotes
  simp only [List.length_append, List.length_cons, List.length_nil]
  omega
theorem digits_len : ∀ (k u : Nat), u < 10 ^ (k + 1) → (Lib.decDigits u).length ≤ k + 1
  | 0, u, h => by
    unfold Lib.decDigits
    rw [dif_pos (by omega)]
    exact Nat.le_refl _
  | k + 1, u, h => by
    unfold Lib.decDigits
    split
    · simp
    · have := digits_len k (u / 10) (by rw [Nat.pow_succ] at h; omega)
      rw [List.length_append, List.length_singleton]
      omega
theorem itoa_len (n : Int) (h0 : -4611686018427387903 ≤ n) (h1 : n ≤ 4611686018427387903) : (Lib.itoa n).length ≤ 20 := by
  unfold Lib.itoa
  split
  · have := digits_len 18 n.natAbs (by omega)
    rw [List.length_cons]
    omega
  · have := digits_len 18 n.toNat (by omega)
    omega
/-- A value's own part of the text, at most. -/
def ownLen (x : S39) : Nat := 32 + 6 * x.f3.size + sumN (fun i => 6 * (rdOf ByteArray.empty x.f4 (i : Int)).size + 3) x.f4.length + x.f5.length
theorem sum_kids (c : Int → Nat) (xs : List Int) : ∀ m, m ≤ xs.length → sumN (fun i => c (rd xs (i : Int))) m = ((xs.take m).map c).sum
  | 0, _ => by rw [List.take_zero]; rfl
  | m + 1, h => by
    rw [sumN, sum_kids c xs m (by omega), List.take_succ_eq_append_getElem (by omega), List.map_append, List.sum_append, rd_nat xs m (by omega)]
    simp
theorem txtOf_len (g : Int → List UInt8) (x : S39) (hp : plainOf x = true) : (txtOf g x).length ≤ ownLen x + (x.f5.map fun k => (g k).length).sum := by
  have hs := sum_kids (fun k => (g k).length) x.f5 x.f5.length (Nat.le_refl _)
  rw [List.take_length] at hs
  unfold ownLen
  rcases plain_kind hp with k | k | k | k | k | k
  · rw [txtOf_1 _ _ k]; simp; omega
  · rw [txtOf_2 _ _ k]; split <;> simp <;> omega
  · rw [txtOf_3 _ _ k.1]; have := itoa_len x.f2 k.2.1 k.2.2; omega
  · rw [txtOf_4 _ _ k]; have := quotes_len x.f3; omega
  · rw [txtOf_5 _ _ k]
    have h1 := joined_len (fun i : Nat => g (rd x.f5 (i : Int))) x.f5.length
    have h2 : sumN (fun i => (g (rd x.f5 (i : Int))).length + 1) x.f5.length = sumN (fun i => (g (rd x.f5 (i : Int))).length) x.f5.length + sumN (fun _ => 1) x.f5.length := sumN_add _ _ _
    have h3 : sumN (fun _ => 1) x.f5.length = x.f5.length := by
      generalize x.f5.length = n
      induction n with
      | zero => rfl
      | succ n ih => rw [sumN, ih]
    simp only [List.length_append, List.length_cons, List.length_nil]
    omega
  · rw [txtOf_6 _ _ k.1]
    have h1 := joined_len (fun i : Nat => inQuotes (rdOf ByteArray.empty x.f4 (i : Int)).data.toList ++ [58] ++ g (rd x.f5 (i : Int))) x.f5.length
    have h2 := sumN_le (fun i => (inQuotes (rdOf ByteArray.empty x.f4 (i : Int)).data.toList ++ [58] ++ g (rd x.f5 (i : Int))).length + 1) (fun i => (6 * (rdOf ByteArray.empty x.f4 (i : Int)).size + 3) + ((g (rd x.f5 (i : Int))).length + 1)) x.f5.length (fun i _ => by
      have := quotes_len (rdOf ByteArray.empty x.f4 (i : Int))
      simp only [List.length_append, List.length_cons, List.length_nil]
      omega)
    have h3 := sumN_add (fun i => 6 * (rdOf ByteArray.empty x.f4 (i : Int)).size + 3) (fun i => (g (rd x.f5 (i : Int))).length + 1) x.f5.length
    have h4 : sumN (fun i => (g (rd x.f5 (i : Int))).length + 1) x.f5.length = sumN (fun i => (g (rd x.f5 (i : Int))).length) x.f5.length + sumN (fun _ => 1) x.f5.length := sumN_add _ _ _
    have h5 : sumN (fun _ => 1) x.f5.length = x.f5.length := by
      generalize x.f5.length = n
      induction n with
      | zero => rfl
      | succ n ih => rw [sumN, ih]
    rw [k.2]
    simp only [List.length_append, List.length_cons, List.length_nil] at h1 h2 h3 ⊢
    omega
theorem kids_in (dp : List Int) (i : Nat) : ∀ (kids : List Int) (fl fl' : List Bool) (m m' : Int), kidsGo dp i fl kids m = some (fl', m') → ∀ x ∈ kids, 0 ≤ x ∧ x < i
  | [], _, _, _, _, _, _, hx => by cases hx
  | k :: r, fl, fl', m, m', h, x, hx => by
    rw [kidsGo] at h
    split at h
    · rename_i hc
      rcases List.mem_cons.1 hx with rfl | hx
      · exact ⟨hc.1, hc.2.1⟩
      · exact kids_in dp i r _ fl' _ m' h x hx
    · cases h
theorem nodes_succ (l : List S39) (d i : Nat) (fl : List Bool) (dp : List Int) (z : List Bool × List Int) (h : nodesGo l (d + 1) i fl dp = some z) :
    plainOf (rd_T39 l (i : Int)) = true ∧ ∃ fl' m, kidsGo dp i fl (rd_T39 l (i : Int)).f5 0 = some (fl', m) ∧ nodesGo l d (i + 1) fl' (dp.set i (if 5 ≤ (rd_T39 l (i : Int)).f0 then m + 1 else m)) = some z := by
  rw [nodesGo] at h
  by_cases hp : plainOf (rd_T39 l (i : Int)) = true
  · rw [if_pos hp] at h
    refine ⟨hp, ?_⟩
    cases hk : kidsGo dp i fl (rd_T39 l (i : Int)).f5 0 with
    | none => rw [hk] at h; cases h
    | some p => rw [hk] at h; exact ⟨p.1, p.2, rfl, h⟩
  · rw [if_neg hp] at h
    cases h
theorem nodes_tree (l : List S39) : ∀ (d i : Nat) (fl : List Bool) (dp : List Int) (z : List Bool × List Int), nodesGo l d i fl dp = some z → ∀ a : Nat, i ≤ a → a < i + d →
    plainOf (rd_T39 l (a : Int)) = true ∧ ∀ x ∈ (rd_T39 l (a : Int)).f5, 0 ≤ x ∧ x < a
  | 0, i, fl, dp, z, h, a, h0, h1 => by omega
  | d + 1, i, fl, dp, z, h, a, h0, h1 => by
    obtain ⟨hp, fl', m, hk, hn⟩ := nodes_succ l d i fl dp z h
    by_cases e : a = i
    · subst e
      exact ⟨hp, kids_in dp a _ fl fl' 0 m hk⟩
    · exact nodes_tree l d (i + 1) fl' _ z hn a (by omega) (by omega)
theorem check_nodes (l : List S39) (h : checkOf l = 0) : 0 < l.length ∧ l.length ≤ 8192 ∧ ∃ z, nodesGo l l.length 0 (List.replicate l.length false) (List.replicate l.length 0) = some z := by
  unfold checkOf at h
  by_cases h0 : l.length = 0
  · rw [if_pos h0] at h; cases h
  rw [if_neg h0] at h
  by_cases h1 : 8192 < l.length
  · rw [if_pos h1] at h; cases h
  rw [if_neg h1] at h
  cases hn : nodesGo l l.length 0 (List.replicate l.length false) (List.replicate l.length 0) with
  | none => rw [hn] at h; cases h
  | some z => exact ⟨by omega, by omega, z, rfl⟩
theorem check_tree (l : List S39) (h : checkOf l = 0) : Tree l := by
  obtain ⟨_, _, z, hn⟩ := check_nodes l h
  intro a h0 h1
  have e : ((a.toNat : Nat) : Int) = a := Int.toNat_of_nonneg h0
  obtain ⟨h2, h3⟩ := nodes_tree l _ _ _ _ z hn a.toNat (Nat.zero_le _) (by omega)
  rw [e] at h2 h3
  refine ⟨h2, fun i hi => ?_⟩
  have := h3 (rd (rd_T39 l a).f5 (i : Int)) (by rw [rd_nat _ _ hi]; exact List.getElem_mem hi)
  exact ⟨this.1, by omega⟩
/-- What is open comes from the values' own parts. -/
theorem nodes_sum (l : List S39) (ht : Tree l) : ∀ (d i : Nat) (fl : List Bool) (dp : List Int) (z : List Bool × List Int), nodesGo l d i fl dp = some z → i + d = l.length → fl.length = l.length →
    openSum (fun j => (txt l l.length (j : Int)).length) fl i ≤ sumN (fun j => ownLen (rd_T39 l (j : Int))) i → (∀ j : Nat, i ≤ j → rdOf false fl (j : Int) = false) →
    openSum (fun j => (txt l l.length (j : Int)).length) z.1 l.length ≤ sumN (fun j => ownLen (rd_T39 l (j : Int))) l.length ∧ (0 < d → rdOf false z.1 ((l.length - 1 : Nat) : Int) = false)
  | 0, i, fl, dp, z, h, hi, hf, hs, ho => by
    obtain rfl : i = l.length := by omega
    cases h
    exact ⟨hs, fun e => absurd e (Nat.lt_irrefl _)⟩
  | d + 1, i, fl, dp, z, h, hi, hf, hs, ho => by
    obtain ⟨hp, fl', m, hk, hn⟩ := nodes_succ l d i fl dp z h
    obtain ⟨g1, g2, g3⟩ := kids_sum (fun j => (txt l l.length (j : Int)).length) dp i _ fl fl' 0 m hk (by omega)
    have hin := kids_in dp i _ fl fl' 0 m hk
    have hc : (txt l l.length (i : Int)).length ≤ ownLen (rd_T39 l (i : Int)) + ((rd_T39 l (i : Int)).f5.map fun k => (txt l l.length (k.toNat : Int)).length).sum := by
      rw [txt_stable l ht l.length (l.length + 1) (i : Int) (Int.natCast_nonneg _) (by omega) (by omega) (by omega), txt_succ]
      have := txtOf_len (txt l l.length) (rd_T39 l (i : Int)) hp
      have e : ((rd_T39 l (i : Int)).f5.map fun k => (txt l l.length k).length) = ((rd_T39 l (i : Int)).f5.map fun k => (txt l l.length (k.toNat : Int)).length) := List.map_congr_left fun k hk => by rw [Int.toNat_of_nonneg (hin k hk).1]
      rw [e] at this
      exact this
    have hs2 : openSum (fun j => (txt l l.length (j : Int)).length) fl' (i + 1) ≤ sumN (fun j => ownLen (rd_T39 l (j : Int))) (i + 1) := by
      unfold openSum at g2 hs ⊢
      rw [sumN, sumN]
      have e1 : (if rdOf false fl' (i : Int) = true then 0 else (txt l l.length (i : Int)).length) = (txt l l.length (i : Int)).length := by rw [g3 i (Nat.le_refl _), ho i (Nat.le_refl _), if_neg (by decide)]
      show _ + (if rdOf false fl' (i : Int) = true then 0 else (txt l l.length (i : Int)).length) ≤ _ + ownLen (rd_T39 l (i : Int))
      rw [e1]
      simp only at g2 hs hc ⊢
      omega
    have ho2 : ∀ j : Nat, i + 1 ≤ j → rdOf false fl' (j : Int) = false := fun j hj => by rw [g3 j (by omega)]; exact ho j (by omega)
    obtain ⟨r1, r2⟩ := nodes_sum l ht d (i + 1) fl' _ z hn (by omega) (by omega) hs2 ho2
    refine ⟨r1, fun _ => ?_⟩
    by_cases hd : 0 < d
    · exact r2 hd
    · obtain rfl : d = 0 := by omega
      cases hn
      rw [g3 _ (by omega)]
      exact ho _ (by omega)
theorem sumN_one (g : Nat → Nat) : ∀ n i, i < n → g i ≤ sumN g n
  | 0, _, h => by omega
  | n + 1, i, h => by
    rw [sumN]
    by_cases e : i = n
    · subst e; omega
    · have := sumN_one g n i (by omega); omega
/-- The bound. -/
theorem text_len (l : List S39) (h : checkOf l = 0) : (Wr.textOf l).length ≤ sumN (fun j => ownLen (rd_T39 l (j : Int))) l.length := by
  have ht := check_tree l h
  obtain ⟨hp, _, z, hn⟩ := check_nodes l h
  obtain ⟨r1, r2⟩ := nodes_sum l ht _ 0 _ _ z hn (by omega) List.length_replicate (Nat.le_refl _) (fun j _ => by
    unfold rdOf
    rw [Int.toNat_natCast, List.getD_eq_getElem?_getD, List.getElem?_replicate]
    split <;> rfl)
  have h1 := sumN_one (fun j => if rdOf false z.1 (j : Int) = true then 0 else (txt l l.length (j : Int)).length) l.length (l.length - 1) (by omega)
  have e1 : (if rdOf false z.1 ((l.length - 1 : Nat) : Int) = true then 0 else (txt l l.length ((l.length - 1 : Nat) : Int)).length) = (txt l l.length ((l.length - 1 : Nat) : Int)).length := by rw [r2 hp, if_neg (by decide)]
  have h2 := Nat.le_trans (Nat.le_of_eq e1.symm) h1
  unfold Wr.textOf
  rw [show (l.length : Int) - 1 = ((l.length - 1 : Nat) : Int) by omega]
  exact Nat.le_trans h2 r1
end Go.Proofs.YtldlkoncndlbhaaDoor.Pure
