/- The law's 'Copied', walked by hand: a tree with its own lists. -/
import Derived.Test.YtldlkoncndlbhaaDoorPShx0
set_option linter.unusedVariables false
set_option linter.unusedSimpArgs false
namespace Go.Proofs.YtldlkoncndlbhaaDoor.Cp
open Go.RowKit Go.Proofs.YtldlkoncndlbhaaDoor.PSh Go.Proofs.YtldlkoncndlbhaaDoorW.PrintWords Go.Proofs.YtldlkoncndlbhaaDoorW.PrintLast Go.Proofs.YtldlkoncndlbhaaDoorW.PrintMore

theorem heap39 : Kd.Heap k39 := Kd.heap_iso _ (Kd.heap_pair (Kd.heap_int _) (Kd.heap_pair Kd.heap_bool (Kd.heap_pair (Kd.heap_int _) (Kd.heap_pair Kd.heap_string (Kd.heap_pair (Kd.heap_slice _ Kd.heap_string) (Kd.heap_slice _ (Kd.heap_int _)))))))
theorem info39 : (Tryd.prog.info? 39).map (fun i => (i.zero, i.size, i.bytes)) = some (some (.agg #[(.int .i64 0), (.bool false), (.int .i64 0), (.string ⟨#[]⟩), (.slice none 0 0), (.slice none 0 0)]), 6, 88) := by kernel_rfl
theorem k39_openF {W : World} {ok : Nat → Prop} {x : S39} {cs : List Value} (h : Kd.FK k39 W ok x cs) : ∃ A4 c4 A5 c5, cs = [.int .i64 x.f0, .bool x.f1, .int .i64 x.f2, .string x.f3, .slice A4 x.f4.length c4, .slice A5 x.f5.length c5] ∧ x.f4.length ≤ c4 ∧ Kd.F Kd.string W ok A4 x.f4.length x.f4 ∧ x.f5.length ≤ c5 ∧ Kd.F (Kd.int .i64) W ok A5 x.f5.length x.f5 := by
  obtain ⟨A4, c4, A5, c5, rfl, l4, _, l5, _⟩ := k39_open (Kd.FK_now h)
  exact ⟨A4, c4, A5, c5, rfl, l4, (fun W' hW => by obtain ⟨A4_, c4_, A5_, c5_, he, l4_, g4_, l5_, g5_⟩ := k39_open (h W' hW); injection (Option.some.inj (show some (Value.slice A4 x.f4.length c4) = some (Value.slice A4_ x.f4.length c4_) from congrArg (fun l => l[4]?) he)) with ha_ _ _; rw [ha_]; exact g4_), l5, (fun W' hW => by obtain ⟨A4_, c4_, A5_, c5_, he, l4_, g4_, l5_, g5_⟩ := k39_open (h W' hW); injection (Option.some.inj (show some (Value.slice A5 x.f5.length c5) = some (Value.slice A5_ x.f5.length c5_) from congrArg (fun l => l[5]?) he)) with ha_ _ _; rw [ha_]; exact g5_)⟩
theorem k39_mkF (W : World) (ok : Nat → Prop) (x : S39) {A4 : Option Addr} {c4 : Nat} (l4 : x.f4.length ≤ c4) (g4 : Kd.F Kd.string W ok A4 x.f4.length x.f4) {A5 : Option Addr} {c5 : Nat} (l5 : x.f5.length ≤ c5) (g5 : Kd.F (Kd.int .i64) W ok A5 x.f5.length x.f5) : Kd.FK k39 W ok x [.int .i64 x.f0, .bool x.f1, .int .i64 x.f2, .string x.f3, .slice A4 x.f4.length c4, .slice A5 x.f5.length c5] := fun W2 hW => k39_mk W2 x l4 (g4 W2 hW) l5 (g5 W2 hW)
theorem info9 : (Tryd.prog.info? 9).map (fun i => (i.zero, i.size, i.bytes)) = some (some (.string ⟨#[]⟩), 1, 16) := by kernel_rfl
def lz0 : Value := .agg #[(.int .i64 0), (.bool false), (.int .i64 0), (.string ⟨#[]⟩), (.slice none 0 0), (.slice none 0 0)]

theorem lit_nil {α : Type} (d : Kd α) (e : Nat) (W : World) (base : Nat) (hb : base ≤ W.heap.size) (ok : Nat → Prop) (hok : ok W.heap.size) : d.R e (W.alloc (.cells #[] e)) base ok (.slice (some ⟨W.heap.size, 0, none⟩) 0 0) [] := by
  refine ⟨fun k hk => ?_, [], ?_, ?_⟩
  · have : W.heap.size = k := by simpa [Value.ownBlock] using hk
    subst this
    exact hok
  · have := World.ownsRow_lit (base := base) (e := e) (size := d.sz) W #[] 0 hb (by simp [maxLen]) (by simp)
    simpa using this
  · exact ⟨by simp, fun j x hx => by simp at hx⟩

def copied.T5 : Bool × List (List Nat × List Nat) := (true, [([], []), ([], []), ([], []), ([], []), ([], []), ([], []), ([], []), ([5, 6], [5, 6]), ([7], [7]), ([8], [8]), ([4, 9], [4, 9]), ([], []), ([], []), ([], []), ([12, 13], [12, 13]), ([14], [14]), ([15], [15]), ([11, 16, 10], [11, 16]), ([0, 1, 0, 1, 4, 5, 6, 7, 8, 9, 10, 16, 17], [0, 1]), ([18, 0, 1, 4, 5, 6, 7, 8, 9, 10, 16, 17], [18]), ([19, 10, 17, 0, 1, 4, 5, 6, 7, 8, 9, 10, 16, 17], [10, 19]), ([2, 3, 0, 1, 2, 3, 4, 5, 6, 7, 8, 9, 10, 11, 12, 13, 14, 15, 16, 17, 18, 19, 20], [2, 3]), ([21, 0, 1, 2, 3, 4, 5, 6, 7, 8, 9, 10, 11, 12, 13, 14, 15, 16, 17, 18, 19, 20], [21]), ([22, 17, 20, 0, 1, 2, 3, 4, 5, 6, 7, 8, 9, 10, 11, 12, 13, 14, 15, 16, 17, 18, 19, 20], [17, 22])])
def copied.B5 : List Nat := [0, 0, 0, 0, 0, 0, 0, 96, 224, 480, 1008, 0, 0, 0, 12288, 28672, 61440, 131056, 262131, 524275, 1048563, 2097151, 4194303, 8388607]
theorem copied.tab5 : rtab .any (opsOf Tryd.f12 5) = copied.T5 := by kernel_rfl
theorem copied.bits5 : waitsOk copied.T5.2 copied.B5 = true := by kernel_rfl

section
variable {ops : Array Oper} {o : Oper} {a : Act} {K : Act → World → Prop} {Q : Exit → Act → World → Prop} {W0 W : World} {v : Value}
/-- A store, one of the last. -/
theorem last_skip {P : Program} {md : Region.Mode} {S : World → Prop} {ds : List Nat} {i : Nat} {oi : Oper} {fuel : Nat} {l : Array Bool} {w w1 : World} (l' : Array Bool) (hi : ops[i]? = some oi) (hN : oi.dst = none) (hc : readyB md ops l l' i = true) (hd : i ∈ ds) (hg : oi.guard = none)
    (hrun : (execOp a.eval oi).run P w = .ok .skip w1) (h : wpAnyLast P md ops Q S ds fuel l' a w1) : wpAnyLast P md ops Q S ds (fuel + 1) l a w :=
  last_ l' hi hN hc hd (fun K hK => skip_ (by unfold Region.wanted; rw [hg]) hN hrun (hK.out _ _ h))
/-- append([]string{}, names...), in the region. -/
theorem app_step {f4 : List ByteArray} {A4 : Option Addr} {c4 : Nat} (HR : Kd.string.R 9 W W0.heap.size (fun _ => True) v []) (HC : Kd.string.C W A4 f4.length f4) (HB : Below W0.heap.size W0 W) (hs : f4.length * 16 ≤ 140737488355328)
    (hw : Region.wanted o (yielded ops a.tmps) = true) (ho : o.op = .call { callee := .builtin .append, args := #[.tmp 17, .tmp 22], argTypes := #[36, 36] }) (hv : a.eval (.tmp 17) = v) (hx : a.eval (.tmp 22) = .slice A4 f4.length c4)
    (h : ∀ v1 w1, Kd.string.R 9 w1 W0.heap.size (fun _ => True) v1 f4 → Below W0.heap.size W0 w1 → W.grownBy w1 v.ownBlock → (v1.ownBlock = v.ownBlock ∨ ∃ b, v1.ownBlock = some b ∧ W.heap.size ≤ b) → K (a.put o.dst v1) w1) :
    if Region.wanted o (yielded ops a.tmps) = true then Oper.wp Tryd.prog o a W K Q else K (a.put o.dst undef) W :=
  Kd.R_append_rows_step Kd.string (Rr := fun x cs => Kd.string.K W x cs) (w0 := W0) W0.heap.size hw (.tmp 17) (.tmp 22) 36 9 (.string ⟨#[]⟩) 16 ho Tryd.underlying36 info9 rfl (by decide) (by decide) v [] f4 A4 f4.length c4 (fun _ => True) (fun _ => False) hv hx HR HC (fun _ _ hk => hk) (fun _ hk => hk.elim) (fun _ _ => trivial) HB HB.size (by simpa using hs) h
/-- append([]int{}, kids...), in the region. -/
theorem appi_step {f5 : List Int} {A5 : Option Addr} {c5 : Nat} (HR : (Kd.int .i64).R 3 W W0.heap.size (fun _ => True) v []) (HC : (Kd.int .i64).C W A5 f5.length f5) (HB : Below W0.heap.size W0 W) (hs : f5.length * 8 ≤ 140737488355328)
    (hw : Region.wanted o (yielded ops a.tmps) = true) (ho : o.op = .call { callee := .builtin .append, args := #[.tmp 24, .tmp 29], argTypes := #[37, 37] }) (hv : a.eval (.tmp 24) = v) (hx : a.eval (.tmp 29) = .slice A5 f5.length c5)
    (h : ∀ v1 w1, (Kd.int .i64).R 3 w1 W0.heap.size (fun _ => True) v1 f5 → Below W0.heap.size W0 w1 → W.grownBy w1 v.ownBlock → (v1.ownBlock = v.ownBlock ∨ ∃ b, v1.ownBlock = some b ∧ W.heap.size ≤ b) → K (a.put o.dst v1) w1) :
    if Region.wanted o (yielded ops a.tmps) = true then Oper.wp Tryd.prog o a W K Q else K (a.put o.dst undef) W :=
  Kd.R_append_rows_step (Kd.int .i64) (Rr := fun x cs => (Kd.int .i64).K W x cs) (w0 := W0) W0.heap.size hw (.tmp 24) (.tmp 29) 37 3 (.int .i64 0) 8 ho Tryd.underlying37 info3 rfl (by decide) (by decide) v [] f5 A5 f5.length c5 (fun _ => True) (fun _ => False) hv hx HR HC (fun _ _ hk => hk) (fun _ hk => hk.elim) (fun _ _ => trivial) HB HB.size (by simpa using hs) h
end

section
variable {W : World} {base g n cap : Nat} {l : List S39}
theorem getD_rd (l : List S39) (j : Nat) : l.getD ((j : Int)).toNat z39 = rd_T39 l (j : Int) := rfl
/-- What stands at element j. -/
theorem elem_at (hN : Kd.N k39 39 W base (fun _ => True) (.slice (some ⟨g, 0, none⟩) n cap) l) (j : Nat) (hj : j < l.length) :
    ∃ A4 c4 A5 c5, W.cell? ⟨g, j * 6 + 4, none⟩ = some (.slice A4 (rd_T39 l (j : Int)).f4.length c4) ∧ W.cell? ⟨g, j * 6 + 5, none⟩ = some (.slice A5 (rd_T39 l (j : Int)).f5.length c5) ∧ W.frozen? ⟨g, j * 6 + 4, none⟩ = false ∧ W.frozen? ⟨g, j * 6 + 5, none⟩ = false ∧
      (rd_T39 l (j : Int)).f4.length ≤ c4 ∧ Kd.F Kd.string W (fun k => k ≠ g) A4 (rd_T39 l (j : Int)).f4.length (rd_T39 l (j : Int)).f4 ∧ (rd_T39 l (j : Int)).f5.length ≤ c5 ∧ Kd.F (Kd.int .i64) W (fun k => k ≠ g) A5 (rd_T39 l (j : Int)).f5.length (rd_T39 l (j : Int)).f5 := by
  have hn := (Kd.N_reads' hN).1
  obtain ⟨c, hcl, hF, hcc, hfr⟩ := Kd.N_elem hN z39 (j : Int) (by omega) (by omega)
  rw [getD_rd] at hF
  obtain ⟨A4, c4, A5, c5, rfl, l4, g4, l5, g5⟩ := k39_openF hF
  exact ⟨A4, c4, A5, c5, hcc 4 _ rfl, hcc 5 _ rfl, hfr 4, hfr 5, l4, Kd.F_mono g4 (fun _ hk => hk.2), l5, Kd.F_mono g5 (fun _ hk => hk.2)⟩
theorem set_self (l : List S39) (j : Nat) (hj : j < l.length) : l.set ((j : Int)).toNat (rd_T39 l (j : Int)) = l := by
  have : rd_T39 l (j : Int) = l[j] := by unfold rd_T39; simp [List.getD, hj]
  rw [this]
  simp
theorem put4 (hN : Kd.N k39 39 W base (fun _ => True) (.slice (some ⟨g, 0, none⟩) n cap) l) (j : Nat) (hj : j < l.length) {v : Value} {b0 : Nat} (hR : Kd.string.R 9 W b0 (fun _ => True) v (rd_T39 l (j : Int)).f4) (hb : g < b0) :
    Kd.N k39 39 (W.setCell ⟨g, j * 6 + 4, none⟩ v) base (fun _ => True) (.slice (some ⟨g, 0, none⟩) n cap) l ∧ W.grownBy (W.setCell ⟨g, j * 6 + 4, none⟩ v) (some g) := by
  have hn := (Kd.N_reads' hN).1
  obtain ⟨c, hcl, hF, hcc, hfr⟩ := Kd.N_elem hN z39 (j : Int) (by omega) (by omega)
  rw [getD_rd] at hF
  obtain ⟨A4, c4, A5, c5, rfl, l4, g4, l5, g5⟩ := k39_openF hF
  obtain ⟨A, c', rfl, hc', hC⟩ := Kd.R_reads hR
  have hF4 : Kd.F Kd.string W (fun k => k ≠ g) A (rd_T39 l (j : Int)).f4.length (rd_T39 l (j : Int)).f4 := Kd.F_mono (Kd.R_F (Kd.R_bound hR)) (fun k hk => by have := hk.2.1; omega)
  have := Kd.N_seg hN (j : Int) (by omega) (by omega) (seg := [.slice A (rd_T39 l (j : Int)).f4.length c']) (j := 4) (x' := rd_T39 l (j : Int)) (okp := fun k => k ≠ g) hcl hcc (by show _ + 1 ≤ 6; decide)
    (k39_mkF W _ (rd_T39 l (j : Int)) hc' hF4 l5 (Kd.F_mono g5 (fun _ hk => hk.2))) (fun k hk => ⟨trivial, hk⟩)
  rw [set_self l j hj] at this
  exact this
theorem put5 (hN : Kd.N k39 39 W base (fun _ => True) (.slice (some ⟨g, 0, none⟩) n cap) l) (j : Nat) (hj : j < l.length) {v : Value} {b0 : Nat} (hR : (Kd.int .i64).R 3 W b0 (fun _ => True) v (rd_T39 l (j : Int)).f5) (hb : g < b0) :
    Kd.N k39 39 (W.setCell ⟨g, j * 6 + 5, none⟩ v) base (fun _ => True) (.slice (some ⟨g, 0, none⟩) n cap) l ∧ W.grownBy (W.setCell ⟨g, j * 6 + 5, none⟩ v) (some g) := by
  have hn := (Kd.N_reads' hN).1
  obtain ⟨c, hcl, hF, hcc, hfr⟩ := Kd.N_elem hN z39 (j : Int) (by omega) (by omega)
  rw [getD_rd] at hF
  obtain ⟨A4, c4, A5, c5, rfl, l4, g4, l5, g5⟩ := k39_openF hF
  obtain ⟨A, c', rfl, hc', hC⟩ := Kd.R_reads hR
  have hF5 : Kd.F (Kd.int .i64) W (fun k => k ≠ g) A (rd_T39 l (j : Int)).f5.length (rd_T39 l (j : Int)).f5 := Kd.F_mono (Kd.R_F (Kd.R_bound hR)) (fun k hk => by have := hk.2.1; omega)
  have := Kd.N_seg hN (j : Int) (by omega) (by omega) (seg := [.slice A (rd_T39 l (j : Int)).f5.length c']) (j := 5) (x' := rd_T39 l (j : Int)) (okp := fun k => k ≠ g) hcl hcc (by show _ + 1 ≤ 6; decide)
    (k39_mkF W _ (rd_T39 l (j : Int)) l4 (Kd.F_mono g4 (fun _ hk => hk.2)) hc' hF5) (fun k hk => ⟨trivial, hk⟩)
  rw [set_self l j hj] at this
  exact this
end

set_option maxHeartbeats 4000000 in
set_option maxRecDepth 100000 in
theorem copied_walk (l : List S39) (A : Option Addr) (cp : Nat) (w : World) (hr : Kd.C k39 w A l.length l) (hc : l.length ≤ cp) (hcap : l.length ≤ 1048576)
    (hs : ∀ a : Int, 0 ≤ a → a < l.length → (rd_T39 l a).f4.length * 16 ≤ 140737488355328 ∧ (rd_T39 l a).f5.length * 8 ≤ 140737488355328) :
    Calls Tryd.prog 12 #[.slice A l.length cp] w fun e w' => ∃ v, e = .returned v ∧ Kd.N k39 39 w' w.heap.size (fun _ => True) v l ∧ Below w.heap.size w w' := by
  have hF := Kd.C_F heap39 hr
  go_enter Tryd.func12, Tryd.ntmps12
  go_wp2_with (at_builtin; refine Kd.N_append_rows k39 (w0 := w) w.heap.size rfl (.tmp 5) (.tmp 6) 23 39 lz0 88 rfl Tryd.underlying23 info39 rfl (by decide) (by decide) (.slice (some ⟨w.heap.size, 0, none⟩) 0 0) [] l A l.length cp (fun _ => True) (fun k => k < w.heap.size) rfl rfl (Kd.R_N (lit_nil k39 _ w _ (Nat.le_refl _) _ trivial)) (Kd.F_alloc hF _) (fun k hk => ⟨trivial, fun e => by simp [Value.ownBlock] at e; omega⟩) (fun _ _ => trivial) (below_alloc (Below.refl _ _) _) (by simp) (by simp; omega) ?_; intro v1 w1 hN hB hg hat; clear hg hat; obtain ⟨A1, c1, rfl⟩ := Kd.N_slice hN)
  simp only [List.nil_append] at hN
  go_loopw [10] (fun i wr => ∃ j : Nat, j ≤ l.length ∧ i = .int .i64 j ∧ Kd.N k39 39 wr w.heap.size (fun _ => True) (.slice A1 l.length c1) l ∧ Below w.heap.size w wr) (fun i _ => l.length - (intOf i).toNat)
  case atStart => exact ⟨0, Nat.zero_le _, rfl, hN, hB⟩
  case round =>
    obtain ⟨j, hj, rfl, hNr, hBr⟩ := hrel
    by_cases hlt : j < l.length
    · obtain ⟨g, cap, he, hg0, hg1, cells, hcells⟩ := Kd.N_form hNr (by omega)
      injection he with h1 h2 h3
      subst h1
      subst h3
      have hN0 := Kd.N_drew hNr
      have hB0 : Below w.heap.size w wr.drew := below_drew hBr
      have hgW : g < wr.drew.heap.size := hg1
      obtain ⟨A4, c4, A5, c5, hx4, hx5, hz4, hz5, hl4, hF4, hl5, hF5⟩ := elem_at hN0 j hlt
      obtain ⟨hs4, hs5⟩ := hs (j : Int) (by omega) (by omega)
      obtain ⟨f4, he4⟩ : ∃ f4, (rd_T39 l (j : Int)).f4 = f4 := ⟨_, rfl⟩
      obtain ⟨f5, he5⟩ : ∃ f5, (rd_T39 l (j : Int)).f5 = f5 := ⟨_, rfl⟩
      rw [he4] at hx4 hl4 hF4 hs4
      rw [he5] at hx5 hl5 hF5 hs5
      have hS : ∀ W, Below wr.drew.heap.size wr.drew W → W.cell? ⟨g, j * 6 + 4, none⟩ = some (.slice A4 f4.length c4) ∧ W.cell? ⟨g, j * 6 + 5, none⟩ = some (.slice A5 f5.length c5) := fun W hB => ⟨(hB.cell hgW).trans hx4, (hB.cell hgW).trans hx5⟩
      have hC4 : ∀ W, Below wr.drew.heap.size wr.drew W → Kd.string.C W A4 f4.length f4 := fun W hB => Kd.F_now (Kd.F_below hF4 hB)
      have hC5 : ∀ W, Below wr.drew.heap.size wr.drew W → (Kd.int .i64).C W A5 f5.length f5 := fun W hB => Kd.F_now (Kd.F_below hF5 hB)
      have hst : ∀ W, Below wr.drew.heap.size wr.drew W → Kd.N k39 39 W w.heap.size (fun _ => True) (.slice (some ⟨g, 0, none⟩) l.length c1) l ∧ W.cell? ⟨g, j * 6 + 4, none⟩ = some (.slice A4 f4.length c4) ∧ W.frozen? ⟨g, j * 6 + 4, none⟩ = false ∧ W.cell? ⟨g, j * 6 + 5, none⟩ = some (.slice A5 f5.length c5) ∧ W.frozen? ⟨g, j * 6 + 5, none⟩ = false := fun W hB => by
        have hNW := Kd.N_below hN0 hB
        obtain ⟨_, _, _, _, _, _, hz, hz2, _⟩ := elem_at hNW j hlt
        exact ⟨hNW, (hS W hB).1, hz, (hS W hB).2, hz2⟩
      have q1 : ((j : Int) < (l.length : Int)) = True := eq_true (by omega)
      clear hF4 hF5 hl4 hl5 hz4 hz5
      go_wp2
      refine start_ (n := 24) (S := fun w' => w'.cell? ⟨g, j * 6 + 4, none⟩ = some (.slice A4 f4.length c4) ∧ w'.cell? ⟨g, j * 6 + 5, none⟩ = some (.slice A5 f5.length c5)) (ds := [20, 23]) #[false, false, false, false, false, false, false, false, false, false, false, false, false, false, false, false, false, false, false, false, false, false, false, false] (by kernel_rfl) rfl rfl ⟨hx4, hx5⟩ (fun hHeld => ?_)
      refine with_tabW copied.tab5 copied.bits5 (fun HT_ HW_ => ?_)
      generalize hW0 : wr.drew = W0 at *
      refine pure_ (i := 0) (N := some 13) (v := ?_) (a' := ?_) #[true, false, false, false, false, false, false, false, false, false, false, false, false, false, false, false, false, false, false, false, false, false, false, false] rfl rfl (any_of HT_.out (by kernel_rfl)) (fun _ _ _ h => h) (Or.inl ⟨by rfl, ?_⟩) ?_ ?_
      rotate_left
      · intro w'
        go_simp
        with_reducible rfl
      rotate_left
      · simp only [Act.put, List.setIfInBounds_toArray, List.set_cons_zero, List.set_cons_succ, i64_w, i32_w]
        rfl
      refine pure_ (i := 1) (N := some 14) (v := ?_) (a' := ?_) #[true, true, false, false, false, false, false, false, false, false, false, false, false, false, false, false, false, false, false, false, false, false, false, false] rfl rfl (any_of HT_.out (by kernel_rfl)) (fun _ _ _ h => h) (Or.inl ⟨by rfl, ?_⟩) ?_ ?_
      rotate_left
      · intro w'
        go_simp
        with_reducible rfl
      rotate_left
      · simp only [Act.put, List.setIfInBounds_toArray, List.set_cons_zero, List.set_cons_succ, i64_w, i32_w]
        rfl
      refine pure_ (i := 2) (N := some 15) (v := ?_) (a' := ?_) #[true, true, true, false, false, false, false, false, false, false, false, false, false, false, false, false, false, false, false, false, false, false, false, false] rfl rfl (any_of HT_.out (by kernel_rfl)) (fun _ _ _ h => h) (Or.inl ⟨by rfl, ?_⟩) ?_ ?_
      rotate_left
      · intro w'
        go_simp
        with_reducible rfl
      rotate_left
      · simp only [Act.put, List.setIfInBounds_toArray, List.set_cons_zero, List.set_cons_succ, i64_w, i32_w]
        rfl
      refine pure_ (i := 3) (N := some 16) (v := ?_) (a' := ?_) #[true, true, true, true, false, false, false, false, false, false, false, false, false, false, false, false, false, false, false, false, false, false, false, false] rfl rfl (any_of HT_.out (by kernel_rfl)) (fun _ _ _ h => h) (Or.inl ⟨by rfl, ?_⟩) ?_ ?_
      rotate_left
      · intro w'
        go_simp
        with_reducible rfl
      rotate_left
      · simp only [Act.put, List.setIfInBounds_toArray, List.set_cons_zero, List.set_cons_succ, i64_w, i32_w]
        rfl
      refine pure_ (i := 5) (N := some 18) (v := ?_) (a' := ?_) #[true, true, true, true, false, true, false, false, false, false, false, false, false, false, false, false, false, false, false, false, false, false, false, false] rfl rfl (any_of HT_.out (by kernel_rfl)) (fun _ _ _ h => h) (Or.inl ⟨by rfl, ?_⟩) ?_ ?_
      rotate_left
      · intro w'
        go_simp
        with_reducible rfl
      rotate_left
      · simp only [Act.put, List.setIfInBounds_toArray, List.set_cons_zero, List.set_cons_succ, i64_w, i32_w]
        rfl
      refine pure_ (i := 6) (N := some 19) (v := ?_) (a' := ?_) #[true, true, true, true, false, true, true, false, false, false, false, false, false, false, false, false, false, false, false, false, false, false, false, false] rfl rfl (any_of HT_.out (by kernel_rfl)) (fun _ _ _ h => h) (Or.inl ⟨by rfl, ?_⟩) ?_ ?_
      rotate_left
      · intro w'
        go_simp
        with_reducible rfl
      rotate_left
      · simp only [Act.put, List.setIfInBounds_toArray, List.set_cons_zero, List.set_cons_succ, i64_w, i32_w]
        rfl
      refine pure_ (i := 7) (N := some 20) (v := ?_) (a' := ?_) #[true, true, true, true, false, true, true, true, false, false, false, false, false, false, false, false, false, false, false, false, false, false, false, false] rfl rfl (any_of HT_.out (by kernel_rfl)) (fun _ _ _ h => h) (Or.inl ⟨by rfl, ?_⟩) ?_ ?_
      rotate_left
      · intro w'
        go_simp
        with_reducible rfl
      rotate_left
      · simp only [Act.put, List.setIfInBounds_toArray, List.set_cons_zero, List.set_cons_succ, i64_w, i32_w]
        rfl
      refine pure_ (i := 8) (N := some 21) (v := ?_) (a' := ?_) #[true, true, true, true, false, true, true, true, true, false, false, false, false, false, false, false, false, false, false, false, false, false, false, false] rfl rfl (any_of HT_.out (by kernel_rfl)) (fun _ _ _ h => h) (Or.inl ⟨by rfl, ?_⟩) ?_ ?_
      rotate_left
      · intro w'
        go_simp
        with_reducible rfl
      rotate_left
      · simp only [Act.put, List.setIfInBounds_toArray, List.set_cons_zero, List.set_cons_succ, i64_w, i32_w]
        rfl
      refine pure_ (i := 12) (N := some 25) (v := ?_) (a' := ?_) #[true, true, true, true, false, true, true, true, true, false, false, false, true, false, false, false, false, false, false, false, false, false, false, false] rfl rfl (any_of HT_.out (by kernel_rfl)) (fun _ _ _ h => h) (Or.inl ⟨by rfl, ?_⟩) ?_ ?_
      rotate_left
      · intro w'
        go_simp
        with_reducible rfl
      rotate_left
      · simp only [Act.put, List.setIfInBounds_toArray, List.set_cons_zero, List.set_cons_succ, i64_w, i32_w]
        rfl
      refine pure_ (i := 13) (N := some 26) (v := ?_) (a' := ?_) #[true, true, true, true, false, true, true, true, true, false, false, false, true, true, false, false, false, false, false, false, false, false, false, false] rfl rfl (any_of HT_.out (by kernel_rfl)) (fun _ _ _ h => h) (Or.inl ⟨by rfl, ?_⟩) ?_ ?_
      rotate_left
      · intro w'
        go_simp
        with_reducible rfl
      rotate_left
      · simp only [Act.put, List.setIfInBounds_toArray, List.set_cons_zero, List.set_cons_succ, i64_w, i32_w]
        rfl
      refine pure_ (i := 14) (N := some 27) (v := ?_) (a' := ?_) #[true, true, true, true, false, true, true, true, true, false, false, false, true, true, true, false, false, false, false, false, false, false, false, false] rfl rfl (any_of HT_.out (by kernel_rfl)) (fun _ _ _ h => h) (Or.inl ⟨by rfl, ?_⟩) ?_ ?_
      rotate_left
      · intro w'
        go_simp
        with_reducible rfl
      rotate_left
      · simp only [Act.put, List.setIfInBounds_toArray, List.set_cons_zero, List.set_cons_succ, i64_w, i32_w]
        rfl
      refine pure_ (i := 15) (N := some 28) (v := ?_) (a' := ?_) #[true, true, true, true, false, true, true, true, true, false, false, false, true, true, true, true, false, false, false, false, false, false, false, false] rfl rfl (any_of HT_.out (by kernel_rfl)) (fun _ _ _ h => h) (Or.inl ⟨by rfl, ?_⟩) ?_ ?_
      rotate_left
      · intro w'
        go_simp
        with_reducible rfl
      rotate_left
      · simp only [Act.put, List.setIfInBounds_toArray, List.set_cons_zero, List.set_cons_succ, i64_w, i32_w]
        rfl
      refine take_ (i := 9) (N := some 22) (v := ?_) (a' := ?_) #[true, true, true, true, false, true, true, true, true, true, false, false, true, true, true, true, false, false, false, false, false, false, false, false] rfl rfl (take_ofW HT_.out HW_.out (by kernel_rfl)) (fun _ _ _ h => h) (Or.inl ⟨by rfl, ?_⟩) hHeld ?_ ?_
      rotate_left
      · rintro w' ⟨s0, s1⟩
        go_simp
        with_reducible rfl
      rotate_left
      · simp only [Act.put, List.setIfInBounds_toArray, List.set_cons_zero, List.set_cons_succ, i64_w, i32_w]
        rfl
      refine take_ (i := 16) (N := some 29) (v := ?_) (a' := ?_) #[true, true, true, true, false, true, true, true, true, true, false, false, true, true, true, true, true, false, false, false, false, false, false, false] rfl rfl (take_ofW HT_.out HW_.out (by kernel_rfl)) (fun _ _ _ h => h) (Or.inl ⟨by rfl, ?_⟩) hHeld ?_ ?_
      rotate_left
      · rintro w' ⟨s0, s1⟩
        go_simp
        with_reducible rfl
      rotate_left
      · simp only [Act.put, List.setIfInBounds_toArray, List.set_cons_zero, List.set_cons_succ, i64_w, i32_w]
        rfl
      refine join_ (σ := Value × Value × Value) 7 #[true, true, true, true, true, true, true, true, true, true, true, true, true, true, true, true, true, false, false, false, false, false, false, false] (fun s => [(17, s.1), (24, s.2.1), (23, s.2.2)]) (fun s w' => Kd.string.R 9 w' W0.heap.size (fun _ => True) s.2.2 f4 ∧ (Kd.int .i64).R 3 w' W0.heap.size (fun _ => True) s.2.1 [] ∧ (∀ k, s.2.1.ownBlock = some k → s.2.2.ownBlock ≠ some k) ∧ Below W0.heap.size W0 w') ?cont ?orders
      case orders =>
        intro hjoin
        refine two_ (i := 4) (j := 11) (Ni := some 17) (Nj := some 24) #[true, true, true, true, true, true, true, true, true, true, false, false, true, true, true, true, true, false, false, false, false, false, false, false] #[true, true, true, true, false, true, true, true, true, true, false, true, true, true, true, true, true, false, false, false, false, false, false, false] rfl rfl rfl rfl (two_of HT_.out (by kernel_rfl)) (by decide) (by decide) (fun K hK => ?_) (fun K hK => ?_)
        · refine value_ (v := .slice (some ⟨W0.heap.size, 0, none⟩) 0 0) (w1 := W0.alloc (.cells #[] 9)) (by rfl) rfl (by first | (go_simp; done) | (go_simp; rfl)) ?_
          refine hK.out _ _ (hS _ (below_alloc (Below.refl _ _) _)) (fun hh => ?_)
          clear hK K
          have hB1 : Below W0.heap.size W0 (W0.alloc (.cells #[] 9)) := below_alloc (Below.refl _ _) _
          have hR17 : Kd.string.R 9 (W0.alloc (.cells #[] 9)) W0.heap.size (fun _ => True) (.slice (some ⟨W0.heap.size, 0, none⟩) 0 0) [] := lit_nil _ _ _ _ (Nat.le_refl _) _ trivial
          have hz1 : (W0.alloc (.cells #[] 9)).heap.size = W0.heap.size + 1 := Array.size_push _
          generalize W0.alloc (.cells #[] 9) = W1 at *
          refine two_ (i := 10) (j := 11) (Ni := some 23) (Nj := some 24) #[true, true, true, true, true, true, true, true, true, true, true, false, true, true, true, true, true, false, false, false, false, false, false, false] #[true, true, true, true, true, true, true, true, true, true, false, true, true, true, true, true, true, false, false, false, false, false, false, false] rfl rfl rfl rfl (two_of HT_.out (by kernel_rfl)) (by decide) (by decide) (fun K hK => ?_) (fun K hK => ?_)
          · refine app_step hR17 (hC4 _ hB1) hB1 hs4 (by rfl) rfl rfl rfl ?_
            intro v23 W2 hR23 hB2 hg2 hat2
            refine hK.out _ _ (hS _ hB2) (fun hh => ?_)
            clear hK K
            refine one_ (i := 11) (N := some 24) #[true, true, true, true, true, true, true, true, true, true, true, true, true, true, true, true, true, false, false, false, false, false, false, false] rfl rfl (one_of HT_.out (by kernel_rfl)) (by decide) (fun K hK => ?_)
            refine value_ (v := .slice (some ⟨W2.heap.size, 0, none⟩) 0 0) (w1 := W2.alloc (.cells #[] 3)) (by rfl) rfl (by first | (go_simp; done) | (go_simp; rfl)) ?_
            refine hK.out _ _ (hS _ (below_alloc hB2 _)) (fun hh => ?_)
            clear hK K
            exact hjoin ((.slice (some ⟨W0.heap.size, 0, none⟩) 0 0), .slice (some ⟨W2.heap.size, 0, none⟩) 0 0, v23) _ ⟨Kd.R_alloc hR23 _, lit_nil _ _ _ _ hB2.size _ trivial, fun k hk he => by have := Kd.R_lt hR23 k he; simp [Value.ownBlock] at hk; omega, below_alloc hB2 _⟩
          · refine value_ (v := .slice (some ⟨W1.heap.size, 0, none⟩) 0 0) (w1 := W1.alloc (.cells #[] 3)) (by rfl) rfl (by first | (go_simp; done) | (go_simp; rfl)) ?_
            refine hK.out _ _ (hS _ (below_alloc hB1 _)) (fun hh => ?_)
            clear hK K
            refine one_ (i := 10) (N := some 23) #[true, true, true, true, true, true, true, true, true, true, true, true, true, true, true, true, true, false, false, false, false, false, false, false] rfl rfl (one_of HT_.out (by kernel_rfl)) (by decide) (fun K hK => ?_)
            have hB2 := below_alloc hB1 (.cells #[] 3)
            have hR24 : (Kd.int .i64).R 3 (W1.alloc (.cells #[] 3)) W0.heap.size (fun k => k = W1.heap.size) (.slice (some ⟨W1.heap.size, 0, none⟩) 0 0) [] := lit_nil _ _ _ _ hB1.size _ rfl
            refine app_step (Kd.R_alloc hR17 _) (hC4 _ hB2) hB2 hs4 (by rfl) rfl rfl rfl ?_
            intro v23 W3 hR23 hB3 hg3 hat3
            refine hK.out _ _ (hS _ hB3) (fun hh => ?_)
            clear hK K
            exact hjoin ((.slice (some ⟨W0.heap.size, 0, none⟩) 0 0), .slice (some ⟨W1.heap.size, 0, none⟩) 0 0, v23) _ ⟨hR23, Kd.R_mono (Kd.R_grown hR24 hg3 (fun k hk he => by subst hk; simp [Value.ownBlock] at he; omega)) (fun _ _ => trivial), fun k hk he => by (have hk' : W1.heap.size = k := by simpa [Value.ownBlock] using hk); (rcases hat3 with h | ⟨b, h, hle⟩); (rw [h] at he; have he' : W0.heap.size = k := by simpa [Value.ownBlock] using he); (omega); (rw [h] at he; injection he with he; have hz2 : (W1.alloc (.cells #[] 3)).heap.size = W1.heap.size + 1 := Array.size_push _); (omega), hB3⟩
        · refine value_ (v := .slice (some ⟨W0.heap.size, 0, none⟩) 0 0) (w1 := W0.alloc (.cells #[] 3)) (by rfl) rfl (by first | (go_simp; done) | (go_simp; rfl)) ?_
          refine hK.out _ _ (hS _ (below_alloc (Below.refl _ _) _)) (fun hh => ?_)
          clear hK K
          have hB1 : Below W0.heap.size W0 (W0.alloc (.cells #[] 3)) := below_alloc (Below.refl _ _) _
          have hR24 : (Kd.int .i64).R 3 (W0.alloc (.cells #[] 3)) W0.heap.size (fun k => k = W0.heap.size) (.slice (some ⟨W0.heap.size, 0, none⟩) 0 0) [] := lit_nil _ _ _ _ (Nat.le_refl _) _ rfl
          have hz1 : (W0.alloc (.cells #[] 3)).heap.size = W0.heap.size + 1 := Array.size_push _
          generalize W0.alloc (.cells #[] 3) = W1 at *
          refine one_ (i := 4) (N := some 17) #[true, true, true, true, true, true, true, true, true, true, false, true, true, true, true, true, true, false, false, false, false, false, false, false] rfl rfl (one_of HT_.out (by kernel_rfl)) (by decide) (fun K hK => ?_)
          refine value_ (v := .slice (some ⟨W1.heap.size, 0, none⟩) 0 0) (w1 := W1.alloc (.cells #[] 9)) (by rfl) rfl (by first | (go_simp; done) | (go_simp; rfl)) ?_
          refine hK.out _ _ (hS _ (below_alloc hB1 _)) (fun hh => ?_)
          clear hK K
          have hR17 : Kd.string.R 9 (W1.alloc (.cells #[] 9)) W0.heap.size (fun _ => True) (.slice (some ⟨W1.heap.size, 0, none⟩) 0 0) [] := lit_nil _ _ _ _ hB1.size _ trivial
          have hB2 := below_alloc hB1 (.cells #[] 9)
          refine one_ (i := 10) (N := some 23) #[true, true, true, true, true, true, true, true, true, true, true, true, true, true, true, true, true, false, false, false, false, false, false, false] rfl rfl (one_of HT_.out (by kernel_rfl)) (by decide) (fun K hK => ?_)
          refine app_step hR17 (hC4 _ hB2) hB2 hs4 (by rfl) rfl rfl rfl ?_
          intro v23 W3 hR23 hB3 hg3 hat3
          refine hK.out _ _ (hS _ hB3) (fun hh => ?_)
          clear hK K
          exact hjoin (.slice (some ⟨W1.heap.size, 0, none⟩) 0 0, .slice (some ⟨W0.heap.size, 0, none⟩) 0 0, v23) _ ⟨hR23, Kd.R_mono (Kd.R_grown (Kd.R_alloc hR24 _) hg3 (fun k hk he => by subst hk; simp [Value.ownBlock] at he; omega)) (fun _ _ => trivial), fun k hk he => by (have hk' : W0.heap.size = k := by simpa [Value.ownBlock] using hk); (rcases hat3 with h | ⟨b, h, hle⟩); (rw [h] at he; have he' : W1.heap.size = k := by simpa [Value.ownBlock] using he); (omega); (rw [h] at he; injection he with he; have hz2 : (W1.alloc (.cells #[] 9)).heap.size = W1.heap.size + 1 := Array.size_push _); (omega), hB3⟩
      case cont =>
        rintro ⟨v17, v24, v23⟩ W5 ⟨hR23, hR24, hne, hB5⟩
        dsimp only at hR23 hR24 hne
        obtain ⟨A23, c23, rfl⟩ := Kd.R_slice hR23
        refine norm_ (a' := ?_) ?_ ?_
        rotate_left
        · simp only [putAll, Act.put, List.setIfInBounds_toArray, List.set_cons_zero, List.set_cons_succ, i64_w, i32_w]
          rfl
        refine one_ (i := 17) (oi := { dst := some 30, op := Go.Op.call { callee := Go.Callee.builtin Go.Builtin.append, args := #[Go.Operand.tmp 24, Go.Operand.tmp 29], argTypes := #[37, 37] }, type := 37, pos := "law.go:23", after := #[{ on := 11, ground := Go.Ground.data }, { on := 16, ground := Go.Ground.data }, { on := 10, ground := Go.Ground.chain }], guard := none }) (N := some 30) #[true, true, true, true, true, true, true, true, true, true, true, true, true, true, true, true, true, true, false, false, false, false, false, false] (by (kernel_rfl)) rfl (one_of HT_.out (by kernel_rfl)) (by decide) (fun K hK => ?_)
        refine appi_step hR24 (hC5 _ hB5) hB5 hs5 (by rfl) rfl rfl rfl ?_
        intro v30 W6 hR30 hB6 hg6 hat6
        refine hK.out _ _ (hS _ hB6) (fun hh => ?_)
        clear hK K
        obtain ⟨A30, c30, rfl⟩ := Kd.R_slice hR30
        have hR23' := Kd.R_grown (Kd.R_tight rfl hR23) hg6 (fun k hk he => hne k he.symm hk.symm)
        obtain ⟨hN6, hx46, hf46, hx56, hf56⟩ := hst W6 hB6
        refine pure_ (i := 18) (N := some 31) (v := ?_) (a' := ?_) #[true, true, true, true, true, true, true, true, true, true, true, true, true, true, true, true, true, true, true, false, false, false, false, false] rfl rfl (any_of HT_.out (by kernel_rfl)) (fun _ _ _ h => h) (Or.inl ⟨by rfl, ?_⟩) ?_ ?_
        rotate_left
        · intro w'
          go_simp
          with_reducible rfl
        rotate_left
        · simp only [Act.put, List.setIfInBounds_toArray, List.set_cons_zero, List.set_cons_succ, i64_w, i32_w]
          rfl
        refine pure_ (i := 19) (N := some 32) (v := ?_) (a' := ?_) #[true, true, true, true, true, true, true, true, true, true, true, true, true, true, true, true, true, true, true, true, false, false, false, false] rfl rfl (any_of HT_.out (by kernel_rfl)) (fun _ _ _ h => h) (Or.inl ⟨by rfl, ?_⟩) ?_ ?_
        rotate_left
        · intro w'
          go_simp
          with_reducible rfl
        rotate_left
        · simp only [Act.put, List.setIfInBounds_toArray, List.set_cons_zero, List.set_cons_succ, i64_w, i32_w]
          rfl
        refine last_skip (i := 20) (oi := { dst := none, op := Go.Op.store 36 (Go.Operand.tmp 32) (Go.Operand.tmp 23), type := 0, pos := "law.go:23", after := #[{ on := 19, ground := Go.Ground.data }, { on := 10, ground := Go.Ground.data }, { on := 17, ground := Go.Ground.chain }, { on := 0, ground := Go.Ground.phase }, { on := 1, ground := Go.Ground.phase }, { on := 2, ground := Go.Ground.textOnly Go.Departure.lateStores }, { on := 3, ground := Go.Ground.textOnly Go.Departure.lateStores }, { on := 4, ground := Go.Ground.phase }, { on := 5, ground := Go.Ground.phase }, { on := 6, ground := Go.Ground.phase }, { on := 7, ground := Go.Ground.phase }, { on := 8, ground := Go.Ground.phase }, { on := 9, ground := Go.Ground.phase }, { on := 10, ground := Go.Ground.phase }, { on := 11, ground := Go.Ground.textOnly Go.Departure.lateStoresUnsure }, { on := 12, ground := Go.Ground.textOnly Go.Departure.lateStores }, { on := 13, ground := Go.Ground.textOnly Go.Departure.lateStores }, { on := 14, ground := Go.Ground.textOnly Go.Departure.lateStoresUnsure }, { on := 15, ground := Go.Ground.textOnly Go.Departure.lateStoresUnsure }, { on := 16, ground := Go.Ground.phase }, { on := 17, ground := Go.Ground.phase }], guard := none }) (w1 := ?_) #[true, true, true, true, true, true, true, true, true, true, true, true, true, true, true, true, true, true, true, true, true, false, false, false] (by (kernel_rfl)) rfl (one_of HT_.out (by kernel_rfl)) (by decide) rfl ?_ ?_
        rotate_left
        · go_simp
          rfl
        refine pure_ (i := 21) (N := some 33) (v := ?_) (a' := ?_) #[true, true, true, true, true, true, true, true, true, true, true, true, true, true, true, true, true, true, true, true, true, true, false, false] rfl rfl (any_of HT_.out (by kernel_rfl)) (fun _ _ _ h => h) (Or.inl ⟨by rfl, ?_⟩) ?_ ?_
        rotate_left
        · intro w'
          go_simp
          with_reducible rfl
        rotate_left
        · simp only [Act.put, List.setIfInBounds_toArray, List.set_cons_zero, List.set_cons_succ, i64_w, i32_w]
          rfl
        refine pure_ (i := 22) (N := some 34) (v := ?_) (a' := ?_) #[true, true, true, true, true, true, true, true, true, true, true, true, true, true, true, true, true, true, true, true, true, true, true, false] rfl rfl (any_of HT_.out (by kernel_rfl)) (fun _ _ _ h => h) (Or.inl ⟨by rfl, ?_⟩) ?_ ?_
        rotate_left
        · intro w'
          go_simp
          with_reducible rfl
        rotate_left
        · simp only [Act.put, List.setIfInBounds_toArray, List.set_cons_zero, List.set_cons_succ, i64_w, i32_w]
          rfl
        refine last_skip (i := 23) (oi := { dst := none, op := Go.Op.store 37 (Go.Operand.tmp 34) (Go.Operand.tmp 30), type := 0, pos := "law.go:23", after := #[{ on := 22, ground := Go.Ground.data }, { on := 17, ground := Go.Ground.data }, { on := 20, ground := Go.Ground.chain }, { on := 0, ground := Go.Ground.phase }, { on := 1, ground := Go.Ground.phase }, { on := 2, ground := Go.Ground.phase }, { on := 3, ground := Go.Ground.phase }, { on := 4, ground := Go.Ground.phase }, { on := 5, ground := Go.Ground.phase }, { on := 6, ground := Go.Ground.phase }, { on := 7, ground := Go.Ground.phase }, { on := 8, ground := Go.Ground.phase }, { on := 9, ground := Go.Ground.phase }, { on := 10, ground := Go.Ground.phase }, { on := 11, ground := Go.Ground.phase }, { on := 12, ground := Go.Ground.phase }, { on := 13, ground := Go.Ground.phase }, { on := 14, ground := Go.Ground.phase }, { on := 15, ground := Go.Ground.phase }, { on := 16, ground := Go.Ground.phase }, { on := 17, ground := Go.Ground.phase }, { on := 18, ground := Go.Ground.phase }, { on := 19, ground := Go.Ground.phase }, { on := 20, ground := Go.Ground.phase }], guard := none }) (w1 := ?_) #[true, true, true, true, true, true, true, true, true, true, true, true, true, true, true, true, true, true, true, true, true, true, true, true] (by (kernel_rfl)) rfl (one_of HT_.out (by kernel_rfl)) (by decide) rfl ?_ ?_
        rotate_left
        · go_simp
          rfl
        refine done_ (done_of HT_.out (by kernel_rfl)) ?_
        have hB6' := hB0.trans (hB6.mono hB0.size)
        obtain ⟨hN7, hg7⟩ := put4 hN6 j hlt (b0 := W0.heap.size) (by rw [he4]; exact Kd.R_mono hR23' (fun _ _ => trivial)) hgW
        have hR30' : (Kd.int .i64).R 3 (W6.setCell ⟨g, j * 6 + 4, none⟩ (.slice A23 f4.length c23)) W0.heap.size (fun _ => True) (.slice A30 f5.length c30) f5 := Kd.R_mono (Kd.R_grown (Kd.R_bound hR30) hg7 (fun k hk he => by have := hk.2.1; injection he with he; omega)) (fun _ _ => trivial)
        obtain ⟨hN8, hg8⟩ := put5 hN7 j hlt (b0 := W0.heap.size) (by rw [he5]; exact hR30') hgW
        have hB7' := hB6'.grown hg7 hB6'.size (fun k e => by injection e with e; omega)
        have hB8' := hB7'.grown hg8 hB7'.size (fun k e => by injection e with e; omega)
        go_wp2
        go_roundw
        case rel => exact ⟨j + 1, by omega, by go_num, hN8, hB8'⟩
        case measure => simp [intOf]; omega
    · obtain rfl : j = l.length := by omega
      go_wp2
      go_ret
      exact ⟨_, rfl, hNr, hBr⟩

end Go.Proofs.YtldlkoncndlbhaaDoor.Cp
