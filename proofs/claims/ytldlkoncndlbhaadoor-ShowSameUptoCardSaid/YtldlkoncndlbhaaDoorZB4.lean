/- YtldlkoncndlbhaaDoorZB4: this session's texts Copied, ShowChecks, Reads, Bulk, ReadsB, Bound, RefQuote, RefQuoteW, PTxx0, PTxx1, RefText, RefWrite, RefPrint, Same, one behind the other (a claim holds at most 60 files). The last of them states what is proved; its conditions stand there. -/
import Derived.Test.YtldlkoncndlbhaaDoorZB3
import Derived.SliceStrings
import Derived.ChangeSlices
import Derived.Deep.Slices
import Derived.SizedLaws
import Derived.DataReads
import Derived.Test.YtldlkoncndlbhaaDoorRows
import Derived.Lib.OthersKept
import Derived.Lib.OwnKind
import Derived.Lib.AppendStr
import Derived.Lib.BufferWrite
import Derived.Maps.AppendAt
import Derived.Test.YtldlkoncndlbhaaDoorProg
import Derived.Below
import Derived.Deep.Draws
import Derived.Deep.AppendLies
import Derived.OwnWalk
import Derived.Laws.BytesArg
import Derived.Laws.MakeOwn
import Derived.Laws.OwnMore
import Derived.Deep.OwnRows
import Derived.Tactics
import Derived.Lib.ConvBytes
import Derived.Laws.Slices
import Derived.WalkKit
import Derived.KernelRfl
import Derived.RowKit3
import Derived.Deep.LoopGhost
import Derived.Deep.QuietTactic
import Derived.BigQuiet
import Derived.WideLaws
import Derived.Deep.DeepCutAuto
import Derived.Deep.CutBlock
import Derived.Deep.RegionHeld3
import Derived.Laws.Rows
import Derived.ArgAppend
import Derived.Laws.IdiomCopy
import Derived.OrdersHeld
import Derived.Laws.BitsLemmas
import Derived.RowKit
import Derived.Test.YtldlkoncndlbhaaDoorWWords
import Derived.Test.YtldlkoncndlbhaaDoorWLast
import Derived.Test.YtldlkoncndlbhaaDoorWTab
import Derived.Test.YtldlkoncndlbhaaDoorWFour
import Derived.Test.YtldlkoncndlbhaaDoorWQPut
import Derived.Test.YtldlkoncndlbhaaDoorWApart
import Derived.Test.YtldlkoncndlbhaaDoorWArr
import Derived.Test.YtldlkoncndlbhaaDoorWZeros
import Derived.Test.YtldlkoncndlbhaaDoorWFoot
import Derived.Test.YtldlkoncndlbhaaDoorWKept
import Derived.Test.YtldlkoncndlbhaaDoorWShare
import Derived.Test.YtldlkoncndlbhaaDoorWN
import Derived.Test.YtldlkoncndlbhaaDoorWFootNe
import Derived.Test.YtldlkoncndlbhaaDoorWAt
import Derived.Test.YtldlkoncndlbhaaDoorWEqStruct
import Derived.Test.YtldlkoncndlbhaaDoorWRepsOne
import Derived.Test.YtldlkoncndlbhaaDoorWInv
import Derived.Test.YtldlkoncndlbhaaDoorWInvWords
import Derived.Test.YtldlkoncndlbhaaDoorWGuard
import Derived.Test.YtldlkoncndlbhaaDoorWNEv
import Derived.Test.YtldlkoncndlbhaaDoorWMore
import Derived.Lib.ItoaNum

/- The law's 'Copied', walked by hand: a tree with its own lists. -/
set_option linter.unusedVariables false
set_option linter.unusedSimpArgs false
namespace Go.Proofs.YtldlkoncndlbhaaDoor.Cp
open Go.RowKit Go.Proofs.YtldlkoncndlbhaaDoor.PSh Go.Proofs.YtldlkoncndlbhaaDoorW.PrintWords Go.Proofs.YtldlkoncndlbhaaDoorW.PrintLast Go.Proofs.YtldlkoncndlbhaaDoorW.PrintMore

theorem heap39 : Kd.Heap k39 := Kd.heap_iso _ (Kd.heap_pair (Kd.heap_int _) (Kd.heap_pair Kd.heap_bool (Kd.heap_pair (Kd.heap_int _) (Kd.heap_pair Kd.heap_string (Kd.heap_pair (Kd.heap_slice _ Kd.heap_string) (Kd.heap_slice _ (Kd.heap_int _)))))))
theorem info39 : (Tryd.prog.info? 39).map (fun i => (i.zero, i.size, i.bytes)) = some (some (.agg #[(.int .i64 0), (.bool false), (.int .i64 0), (.string ⟨#[]⟩), (.slice none 0 0), (.slice none 0 0)]), 6, 88) := by kernel_rfl
theorem k39_openF {W : World} {ok : Nat → Prop} {x : S39} {cs : List Value} (h : Kd.FK k39 W ok x cs) : ∃ A4 c4 A5 c5, cs = [.int .i64 x.f0, .bool x.f1, .int .i64 x.f2, .string x.f3, .slice A4 x.f4.length c4, .slice A5 x.f5.length c5] ∧ x.f4.length ≤ c4 ∧ Kd.F Kd.string W ok A4 x.f4.length x.f4 ∧ x.f5.length ≤ c5 ∧ Kd.F (Kd.int .i64) W ok A5 x.f5.length x.f5 := by
  obtain ⟨A4, c4, A5, c5, rfl, l4, _, l5, _⟩ := k39_open (Kd.FK_now h)
  exact ⟨A4, c4, A5, c5, rfl, l4, (fun W' hW => by obtain ⟨A4_, c4_, A5_, c5_, he, l4_, g4_, l5_, g5_⟩ := k39_open (h W' hW); injection (Option.some.inj (show some (Value.slice A4 x.f4.length c4) = some (Value.slice A4_ x.f4.length c4_) from congrArg (fun l => l[4]?) he)) with ha_ _ _; rw [ha_]; exact g4_), l5, (fun W' hW => by obtain ⟨A4_, c4_, A5_, c5_, he, l4_, g4_, l5_, g5_⟩ := k39_open (h W' hW); injection (Option.some.inj (show some (Value.slice A5 x.f5.length c5) = some (Value.slice A5_ x.f5.length c5_) from congrArg (fun l => l[5]?) he)) with ha_ _ _; rw [ha_]; exact g5_)⟩
theorem k39_mkF (W : World) (ok : Nat → Prop) (x : S39) {A4 : Option Addr} {c4 : Nat} (l4 : x.f4.length ≤ c4) (g4 : Kd.F Kd.string W ok A4 x.f4.length x.f4) {A5 : Option Addr} {c5 : Nat} (l5 : x.f5.length ≤ c5) (g5 : Kd.F (Kd.int .i64) W ok A5 x.f5.length x.f5) : Kd.FK k39 W ok x [.int .i64 x.f0, .bool x.f1, .int .i64 x.f2, .string x.f3, .slice A4 x.f4.length c4, .slice A5 x.f5.length c5] := fun W2 hW => k39_mk W2 x l4 (g4 W2 hW) l5 (g5 W2 hW)
theorem info9 : (Tryd.prog.info? 9).map (fun i => (i.zero, i.size, i.bytes)) = some (some (.string ⟨#[]⟩), 1, 16) := by kernel_rfl
def lz0 : Value := .agg #[(.int .i64 0), (.bool false), (.int .i64 0), (.string ⟨#[]⟩), (.slice none 0 0), (.slice none 0 0)]

theorem lit_nil {α : Type} (d : Kd α) (e : Nat) (W : World) (base : Nat) (hb : base ≤ W.heap.size) (ok : Nat → Prop) (hok : ok W.heap.size) : d.R e (W.alloc (.cells #[] e)) base ok (.slice (some ⟨W.heap.size, 0, none⟩) 0 0) [] := by
  refine ⟨fun k hk => ?_, [], ?_, ?_⟩
  · have : W.heap.size = k := by simpa [Value.ownBlock] using hk
    subst this
    exact hok
  · have := World.ownsRow_lit (base := base) (e := e) (size := d.sz) W #[] 0 hb (by simp [maxLen]) (by simp)
    simpa using this
  · exact ⟨by simp, fun j x hx => by simp at hx⟩

def copied.T5 : Bool × List (List Nat × List Nat) := (true, [([], []), ([], []), ([], []), ([], []), ([], []), ([], []), ([], []), ([5, 6], [5, 6]), ([7], [7]), ([8], [8]), ([4, 9], [4, 9]), ([], []), ([], []), ([], []), ([12, 13], [12, 13]), ([14], [14]), ([15], [15]), ([11, 16, 10], [11, 16]), ([0, 1, 0, 1, 4, 5, 6, 7, 8, 9, 10, 16, 17], [0, 1]), ([18, 0, 1, 4, 5, 6, 7, 8, 9, 10, 16, 17], [18]), ([19, 10, 17, 0, 1, 4, 5, 6, 7, 8, 9, 10, 16, 17], [10, 19]), ([2, 3, 0, 1, 2, 3, 4, 5, 6, 7, 8, 9, 10, 11, 12, 13, 14, 15, 16, 17, 18, 19, 20], [2, 3]), ([21, 0, 1, 2, 3, 4, 5, 6, 7, 8, 9, 10, 11, 12, 13, 14, 15, 16, 17, 18, 19, 20], [21]), ([22, 17, 20, 0, 1, 2, 3, 4, 5, 6, 7, 8, 9, 10, 11, 12, 13, 14, 15, 16, 17, 18, 19, 20], [17, 22])])
def copied.B5 : List Nat := [0, 0, 0, 0, 0, 0, 0, 96, 224, 480, 1008, 0, 0, 0, 12288, 28672, 61440, 131056, 262131, 524275, 1048563, 2097151, 4194303, 8388607]
theorem copied.tab5 : rtab .any (opsOf Tryd.f12 5) = copied.T5 := by kernel_rfl
theorem copied.bits5 : waitsOk copied.T5.2 copied.B5 = true := by kernel_rfl

section
variable {ops : Array Oper} {o : Oper} {a : Act} {K : Act → World → Prop} {Q : Exit → Act → World → Prop} {W0 W : World} {v : Value}
/-- A store, one of the last. -/
theorem last_skip {P : Program} {md : Region.Mode} {S : World → Prop} {ds : List Nat} {i : Nat} {oi : Oper} {fuel : Nat} {l : Array Bool} {w w1 : World} (l' : Array Bool) (hi : ops[i]? = some oi) (hN : oi.dst = none) (hc : readyB md ops l l' i = true) (hd : i ∈ ds) (hg : oi.guard = none)
    (hrun : (execOp a.eval oi).run P w = .ok .skip w1) (h : wpAnyLast P md ops Q S ds fuel l' a w1) : wpAnyLast P md ops Q S ds (fuel + 1) l a w :=
  last_ l' hi hN hc hd (fun K hK => skip_ (by unfold Region.wanted; rw [hg]) hN hrun (hK.out _ _ h))
/-- append([]string{}, names...), in the region. -/
theorem app_step {f4 : List ByteArray} {A4 : Option Addr} {c4 : Nat} (HR : Kd.string.R 9 W W0.heap.size (fun _ => True) v []) (HC : Kd.string.C W A4 f4.length f4) (HB : Below W0.heap.size W0 W) (hs : f4.length * 16 ≤ 140737488355328)
    (hw : Region.wanted o (yielded ops a.tmps) = true) (ho : o.op = .call { callee := .builtin .append, args := #[.tmp 17, .tmp 22], argTypes := #[36, 36] }) (hv : a.eval (.tmp 17) = v) (hx : a.eval (.tmp 22) = .slice A4 f4.length c4)
    (h : ∀ v1 w1, Kd.string.R 9 w1 W0.heap.size (fun _ => True) v1 f4 → Below W0.heap.size W0 w1 → W.grownBy w1 v.ownBlock → (v1.ownBlock = v.ownBlock ∨ ∃ b, v1.ownBlock = some b ∧ W.heap.size ≤ b) → K (a.put o.dst v1) w1) :
    if Region.wanted o (yielded ops a.tmps) = true then Oper.wp Tryd.prog o a W K Q else K (a.put o.dst undef) W :=
  Kd.R_append_rows_step Kd.string (Rr := fun x cs => Kd.string.K W x cs) (w0 := W0) W0.heap.size hw (.tmp 17) (.tmp 22) 36 9 (.string ⟨#[]⟩) 16 ho Tryd.underlying36 info9 rfl (by decide) (by decide) v [] f4 A4 f4.length c4 (fun _ => True) (fun _ => False) hv hx HR HC (fun _ _ hk => hk) (fun _ hk => hk.elim) (fun _ _ => trivial) HB HB.size (by simpa using hs) h
/-- append([]int{}, kids...), in the region. -/
theorem appi_step {f5 : List Int} {A5 : Option Addr} {c5 : Nat} (HR : (Kd.int .i64).R 3 W W0.heap.size (fun _ => True) v []) (HC : (Kd.int .i64).C W A5 f5.length f5) (HB : Below W0.heap.size W0 W) (hs : f5.length * 8 ≤ 140737488355328)
    (hw : Region.wanted o (yielded ops a.tmps) = true) (ho : o.op = .call { callee := .builtin .append, args := #[.tmp 24, .tmp 29], argTypes := #[37, 37] }) (hv : a.eval (.tmp 24) = v) (hx : a.eval (.tmp 29) = .slice A5 f5.length c5)
    (h : ∀ v1 w1, (Kd.int .i64).R 3 w1 W0.heap.size (fun _ => True) v1 f5 → Below W0.heap.size W0 w1 → W.grownBy w1 v.ownBlock → (v1.ownBlock = v.ownBlock ∨ ∃ b, v1.ownBlock = some b ∧ W.heap.size ≤ b) → K (a.put o.dst v1) w1) :
    if Region.wanted o (yielded ops a.tmps) = true then Oper.wp Tryd.prog o a W K Q else K (a.put o.dst undef) W :=
  Kd.R_append_rows_step (Kd.int .i64) (Rr := fun x cs => (Kd.int .i64).K W x cs) (w0 := W0) W0.heap.size hw (.tmp 24) (.tmp 29) 37 3 (.int .i64 0) 8 ho Tryd.underlying37 info3 rfl (by decide) (by decide) v [] f5 A5 f5.length c5 (fun _ => True) (fun _ => False) hv hx HR HC (fun _ _ hk => hk) (fun _ hk => hk.elim) (fun _ _ => trivial) HB HB.size (by simpa using hs) h
end

section
variable {W : World} {base g n cap : Nat} {l : List S39}
theorem getD_rd (l : List S39) (j : Nat) : l.getD ((j : Int)).toNat z39 = rd_T39 l (j : Int) := rfl
/-- What stands at element j. -/
theorem elem_at (hN : Kd.N k39 39 W base (fun _ => True) (.slice (some ⟨g, 0, none⟩) n cap) l) (j : Nat) (hj : j < l.length) :
    ∃ A4 c4 A5 c5, W.cell? ⟨g, j * 6 + 4, none⟩ = some (.slice A4 (rd_T39 l (j : Int)).f4.length c4) ∧ W.cell? ⟨g, j * 6 + 5, none⟩ = some (.slice A5 (rd_T39 l (j : Int)).f5.length c5) ∧ W.frozen? ⟨g, j * 6 + 4, none⟩ = false ∧ W.frozen? ⟨g, j * 6 + 5, none⟩ = false ∧
      (rd_T39 l (j : Int)).f4.length ≤ c4 ∧ Kd.F Kd.string W (fun k => k ≠ g) A4 (rd_T39 l (j : Int)).f4.length (rd_T39 l (j : Int)).f4 ∧ (rd_T39 l (j : Int)).f5.length ≤ c5 ∧ Kd.F (Kd.int .i64) W (fun k => k ≠ g) A5 (rd_T39 l (j : Int)).f5.length (rd_T39 l (j : Int)).f5 := by
  have hn := (Kd.N_reads' hN).1
  obtain ⟨c, hcl, hF, hcc, hfr⟩ := Kd.N_elem hN z39 (j : Int) (by omega) (by omega)
  rw [getD_rd] at hF
  obtain ⟨A4, c4, A5, c5, rfl, l4, g4, l5, g5⟩ := k39_openF hF
  exact ⟨A4, c4, A5, c5, hcc 4 _ rfl, hcc 5 _ rfl, hfr 4, hfr 5, l4, Kd.F_mono g4 (fun _ hk => hk.2), l5, Kd.F_mono g5 (fun _ hk => hk.2)⟩
theorem set_self (l : List S39) (j : Nat) (hj : j < l.length) : l.set ((j : Int)).toNat (rd_T39 l (j : Int)) = l := by
  have : rd_T39 l (j : Int) = l[j] := by unfold rd_T39; simp [List.getD, hj]
  rw [this]
  simp
theorem put4 (hN : Kd.N k39 39 W base (fun _ => True) (.slice (some ⟨g, 0, none⟩) n cap) l) (j : Nat) (hj : j < l.length) {v : Value} {b0 : Nat} (hR : Kd.string.R 9 W b0 (fun _ => True) v (rd_T39 l (j : Int)).f4) (hb : g < b0) :
    Kd.N k39 39 (W.setCell ⟨g, j * 6 + 4, none⟩ v) base (fun _ => True) (.slice (some ⟨g, 0, none⟩) n cap) l ∧ W.grownBy (W.setCell ⟨g, j * 6 + 4, none⟩ v) (some g) := by
  have hn := (Kd.N_reads' hN).1
  obtain ⟨c, hcl, hF, hcc, hfr⟩ := Kd.N_elem hN z39 (j : Int) (by omega) (by omega)
  rw [getD_rd] at hF
  obtain ⟨A4, c4, A5, c5, rfl, l4, g4, l5, g5⟩ := k39_openF hF
  obtain ⟨A, c', rfl, hc', hC⟩ := Kd.R_reads hR
  have hF4 : Kd.F Kd.string W (fun k => k ≠ g) A (rd_T39 l (j : Int)).f4.length (rd_T39 l (j : Int)).f4 := Kd.F_mono (Kd.R_F (Kd.R_bound hR)) (fun k hk => by have := hk.2.1; omega)
  have := Kd.N_seg hN (j : Int) (by omega) (by omega) (seg := [.slice A (rd_T39 l (j : Int)).f4.length c']) (j := 4) (x' := rd_T39 l (j : Int)) (okp := fun k => k ≠ g) hcl hcc (by show _ + 1 ≤ 6; decide)
    (k39_mkF W _ (rd_T39 l (j : Int)) hc' hF4 l5 (Kd.F_mono g5 (fun _ hk => hk.2))) (fun k hk => ⟨trivial, hk⟩)
  rw [set_self l j hj] at this
  exact this
theorem put5 (hN : Kd.N k39 39 W base (fun _ => True) (.slice (some ⟨g, 0, none⟩) n cap) l) (j : Nat) (hj : j < l.length) {v : Value} {b0 : Nat} (hR : (Kd.int .i64).R 3 W b0 (fun _ => True) v (rd_T39 l (j : Int)).f5) (hb : g < b0) :
    Kd.N k39 39 (W.setCell ⟨g, j * 6 + 5, none⟩ v) base (fun _ => True) (.slice (some ⟨g, 0, none⟩) n cap) l ∧ W.grownBy (W.setCell ⟨g, j * 6 + 5, none⟩ v) (some g) := by
  have hn := (Kd.N_reads' hN).1
  obtain ⟨c, hcl, hF, hcc, hfr⟩ := Kd.N_elem hN z39 (j : Int) (by omega) (by omega)
  rw [getD_rd] at hF
  obtain ⟨A4, c4, A5, c5, rfl, l4, g4, l5, g5⟩ := k39_openF hF
  obtain ⟨A, c', rfl, hc', hC⟩ := Kd.R_reads hR
  have hF5 : Kd.F (Kd.int .i64) W (fun k => k ≠ g) A (rd_T39 l (j : Int)).f5.length (rd_T39 l (j : Int)).f5 := Kd.F_mono (Kd.R_F (Kd.R_bound hR)) (fun k hk => by have := hk.2.1; omega)
  have := Kd.N_seg hN (j : Int) (by omega) (by omega) (seg := [.slice A (rd_T39 l (j : Int)).f5.length c']) (j := 5) (x' := rd_T39 l (j : Int)) (okp := fun k => k ≠ g) hcl hcc (by show _ + 1 ≤ 6; decide)
    (k39_mkF W _ (rd_T39 l (j : Int)) l4 (Kd.F_mono g4 (fun _ hk => hk.2)) hc' hF5) (fun k hk => ⟨trivial, hk⟩)
  rw [set_self l j hj] at this
  exact this
end

set_option maxHeartbeats 4000000 in
set_option maxRecDepth 100000 in
theorem copied_walk (l : List S39) (A : Option Addr) (cp : Nat) (w : World) (hr : Kd.C k39 w A l.length l) (hc : l.length ≤ cp) (hcap : l.length ≤ 1048576)
    (hs : ∀ a : Int, 0 ≤ a → a < l.length → (rd_T39 l a).f4.length * 16 ≤ 140737488355328 ∧ (rd_T39 l a).f5.length * 8 ≤ 140737488355328) :
    Calls Tryd.prog 12 #[.slice A l.length cp] w fun e w' => ∃ v, e = .returned v ∧ Kd.N k39 39 w' w.heap.size (fun _ => True) v l ∧ Below w.heap.size w w' := by
  have hF := Kd.C_F heap39 hr
  go_enter Tryd.func12, Tryd.ntmps12
  go_wp2_with (at_builtin; refine Kd.N_append_rows k39 (w0 := w) w.heap.size rfl (.tmp 5) (.tmp 6) 23 39 lz0 88 rfl Tryd.underlying23 info39 rfl (by decide) (by decide) (.slice (some ⟨w.heap.size, 0, none⟩) 0 0) [] l A l.length cp (fun _ => True) (fun k => k < w.heap.size) rfl rfl (Kd.R_N (lit_nil k39 _ w _ (Nat.le_refl _) _ trivial)) (Kd.F_alloc hF _) (fun k hk => ⟨trivial, fun e => by simp [Value.ownBlock] at e; omega⟩) (fun _ _ => trivial) (below_alloc (Below.refl _ _) _) (by simp) (by simp; omega) ?_; intro v1 w1 hN hB hg hat; clear hg hat; obtain ⟨A1, c1, rfl⟩ := Kd.N_slice hN)
  simp only [List.nil_append] at hN
  go_loopw [10] (fun i wr => ∃ j : Nat, j ≤ l.length ∧ i = .int .i64 j ∧ Kd.N k39 39 wr w.heap.size (fun _ => True) (.slice A1 l.length c1) l ∧ Below w.heap.size w wr) (fun i _ => l.length - (intOf i).toNat)
  case atStart => exact ⟨0, Nat.zero_le _, rfl, hN, hB⟩
  case round =>
    obtain ⟨j, hj, rfl, hNr, hBr⟩ := hrel
    by_cases hlt : j < l.length
    · obtain ⟨g, cap, he, hg0, hg1, cells, hcells⟩ := Kd.N_form hNr (by omega)
      injection he with h1 h2 h3
      subst h1
      subst h3
      have hN0 := Kd.N_drew hNr
      have hB0 : Below w.heap.size w wr.drew := below_drew hBr
      have hgW : g < wr.drew.heap.size := hg1
      obtain ⟨A4, c4, A5, c5, hx4, hx5, hz4, hz5, hl4, hF4, hl5, hF5⟩ := elem_at hN0 j hlt
      obtain ⟨hs4, hs5⟩ := hs (j : Int) (by omega) (by omega)
      obtain ⟨f4, he4⟩ : ∃ f4, (rd_T39 l (j : Int)).f4 = f4 := ⟨_, rfl⟩
      obtain ⟨f5, he5⟩ : ∃ f5, (rd_T39 l (j : Int)).f5 = f5 := ⟨_, rfl⟩
      rw [he4] at hx4 hl4 hF4 hs4
      rw [he5] at hx5 hl5 hF5 hs5
      have hS : ∀ W, Below wr.drew.heap.size wr.drew W → W.cell? ⟨g, j * 6 + 4, none⟩ = some (.slice A4 f4.length c4) ∧ W.cell? ⟨g, j * 6 + 5, none⟩ = some (.slice A5 f5.length c5) := fun W hB => ⟨(hB.cell hgW).trans hx4, (hB.cell hgW).trans hx5⟩
      have hC4 : ∀ W, Below wr.drew.heap.size wr.drew W → Kd.string.C W A4 f4.length f4 := fun W hB => Kd.F_now (Kd.F_below hF4 hB)
      have hC5 : ∀ W, Below wr.drew.heap.size wr.drew W → (Kd.int .i64).C W A5 f5.length f5 := fun W hB => Kd.F_now (Kd.F_below hF5 hB)
      have hst : ∀ W, Below wr.drew.heap.size wr.drew W → Kd.N k39 39 W w.heap.size (fun _ => True) (.slice (some ⟨g, 0, none⟩) l.length c1) l ∧ W.cell? ⟨g, j * 6 + 4, none⟩ = some (.slice A4 f4.length c4) ∧ W.frozen? ⟨g, j * 6 + 4, none⟩ = false ∧ W.cell? ⟨g, j * 6 + 5, none⟩ = some (.slice A5 f5.length c5) ∧ W.frozen? ⟨g, j * 6 + 5, none⟩ = false := fun W hB => by
        have hNW := Kd.N_below hN0 hB
        obtain ⟨_, _, _, _, _, _, hz, hz2, _⟩ := elem_at hNW j hlt
        exact ⟨hNW, (hS W hB).1, hz, (hS W hB).2, hz2⟩
      have q1 : ((j : Int) < (l.length : Int)) = True := eq_true (by omega)
      clear hF4 hF5 hl4 hl5 hz4 hz5
      go_wp2
      refine start_ (n := 24) (S := fun w' => w'.cell? ⟨g, j * 6 + 4, none⟩ = some (.slice A4 f4.length c4) ∧ w'.cell? ⟨g, j * 6 + 5, none⟩ = some (.slice A5 f5.length c5)) (ds := [20, 23]) #[false, false, false, false, false, false, false, false, false, false, false, false, false, false, false, false, false, false, false, false, false, false, false, false] (by kernel_rfl) rfl rfl ⟨hx4, hx5⟩ (fun hHeld => ?_)
      refine with_tabW copied.tab5 copied.bits5 (fun HT_ HW_ => ?_)
      generalize hW0 : wr.drew = W0 at *
      refine pure_ (i := 0) (N := some 13) (v := ?_) (a' := ?_) #[true, false, false, false, false, false, false, false, false, false, false, false, false, false, false, false, false, false, false, false, false, false, false, false] rfl rfl (any_of HT_.out (by kernel_rfl)) (fun _ _ _ h => h) (Or.inl ⟨by rfl, ?_⟩) ?_ ?_
      rotate_left
      · intro w'
        go_simp
        with_reducible rfl
      rotate_left
      · simp only [Act.put, List.setIfInBounds_toArray, List.set_cons_zero, List.set_cons_succ, i64_w, i32_w]
        rfl
      refine pure_ (i := 1) (N := some 14) (v := ?_) (a' := ?_) #[true, true, false, false, false, false, false, false, false, false, false, false, false, false, false, false, false, false, false, false, false, false, false, false] rfl rfl (any_of HT_.out (by kernel_rfl)) (fun _ _ _ h => h) (Or.inl ⟨by rfl, ?_⟩) ?_ ?_
      rotate_left
      · intro w'
        go_simp
        with_reducible rfl
      rotate_left
      · simp only [Act.put, List.setIfInBounds_toArray, List.set_cons_zero, List.set_cons_succ, i64_w, i32_w]
        rfl
      refine pure_ (i := 2) (N := some 15) (v := ?_) (a' := ?_) #[true, true, true, false, false, false, false, false, false, false, false, false, false, false, false, false, false, false, false, false, false, false, false, false] rfl rfl (any_of HT_.out (by kernel_rfl)) (fun _ _ _ h => h) (Or.inl ⟨by rfl, ?_⟩) ?_ ?_
      rotate_left
      · intro w'
        go_simp
        with_reducible rfl
      rotate_left
      · simp only [Act.put, List.setIfInBounds_toArray, List.set_cons_zero, List.set_cons_succ, i64_w, i32_w]
        rfl
      refine pure_ (i := 3) (N := some 16) (v := ?_) (a' := ?_) #[true, true, true, true, false, false, false, false, false, false, false, false, false, false, false, false, false, false, false, false, false, false, false, false] rfl rfl (any_of HT_.out (by kernel_rfl)) (fun _ _ _ h => h) (Or.inl ⟨by rfl, ?_⟩) ?_ ?_
      rotate_left
      · intro w'
        go_simp
        with_reducible rfl
      rotate_left
      · simp only [Act.put, List.setIfInBounds_toArray, List.set_cons_zero, List.set_cons_succ, i64_w, i32_w]
        rfl
      refine pure_ (i := 5) (N := some 18) (v := ?_) (a' := ?_) #[true, true, true, true, false, true, false, false, false, false, false, false, false, false, false, false, false, false, false, false, false, false, false, false] rfl rfl (any_of HT_.out (by kernel_rfl)) (fun _ _ _ h => h) (Or.inl ⟨by rfl, ?_⟩) ?_ ?_
      rotate_left
      · intro w'
        go_simp
        with_reducible rfl
      rotate_left
      · simp only [Act.put, List.setIfInBounds_toArray, List.set_cons_zero, List.set_cons_succ, i64_w, i32_w]
        rfl
      refine pure_ (i := 6) (N := some 19) (v := ?_) (a' := ?_) #[true, true, true, true, false, true, true, false, false, false, false, false, false, false, false, false, false, false, false, false, false, false, false, false] rfl rfl (any_of HT_.out (by kernel_rfl)) (fun _ _ _ h => h) (Or.inl ⟨by rfl, ?_⟩) ?_ ?_
      rotate_left
      · intro w'
        go_simp
        with_reducible rfl
      rotate_left
      · simp only [Act.put, List.setIfInBounds_toArray, List.set_cons_zero, List.set_cons_succ, i64_w, i32_w]
        rfl
      refine pure_ (i := 7) (N := some 20) (v := ?_) (a' := ?_) #[true, true, true, true, false, true, true, true, false, false, false, false, false, false, false, false, false, false, false, false, false, false, false, false] rfl rfl (any_of HT_.out (by kernel_rfl)) (fun _ _ _ h => h) (Or.inl ⟨by rfl, ?_⟩) ?_ ?_
      rotate_left
      · intro w'
        go_simp
        with_reducible rfl
      rotate_left
      · simp only [Act.put, List.setIfInBounds_toArray, List.set_cons_zero, List.set_cons_succ, i64_w, i32_w]
        rfl
      refine pure_ (i := 8) (N := some 21) (v := ?_) (a' := ?_) #[true, true, true, true, false, true, true, true, true, false, false, false, false, false, false, false, false, false, false, false, false, false, false, false] rfl rfl (any_of HT_.out (by kernel_rfl)) (fun _ _ _ h => h) (Or.inl ⟨by rfl, ?_⟩) ?_ ?_
      rotate_left
      · intro w'
        go_simp
        with_reducible rfl
      rotate_left
      · simp only [Act.put, List.setIfInBounds_toArray, List.set_cons_zero, List.set_cons_succ, i64_w, i32_w]
        rfl
      refine pure_ (i := 12) (N := some 25) (v := ?_) (a' := ?_) #[true, true, true, true, false, true, true, true, true, false, false, false, true, false, false, false, false, false, false, false, false, false, false, false] rfl rfl (any_of HT_.out (by kernel_rfl)) (fun _ _ _ h => h) (Or.inl ⟨by rfl, ?_⟩) ?_ ?_
      rotate_left
      · intro w'
        go_simp
        with_reducible rfl
      rotate_left
      · simp only [Act.put, List.setIfInBounds_toArray, List.set_cons_zero, List.set_cons_succ, i64_w, i32_w]
        rfl
      refine pure_ (i := 13) (N := some 26) (v := ?_) (a' := ?_) #[true, true, true, true, false, true, true, true, true, false, false, false, true, true, false, false, false, false, false, false, false, false, false, false] rfl rfl (any_of HT_.out (by kernel_rfl)) (fun _ _ _ h => h) (Or.inl ⟨by rfl, ?_⟩) ?_ ?_
      rotate_left
      · intro w'
        go_simp
        with_reducible rfl
      rotate_left
      · simp only [Act.put, List.setIfInBounds_toArray, List.set_cons_zero, List.set_cons_succ, i64_w, i32_w]
        rfl
      refine pure_ (i := 14) (N := some 27) (v := ?_) (a' := ?_) #[true, true, true, true, false, true, true, true, true, false, false, false, true, true, true, false, false, false, false, false, false, false, false, false] rfl rfl (any_of HT_.out (by kernel_rfl)) (fun _ _ _ h => h) (Or.inl ⟨by rfl, ?_⟩) ?_ ?_
      rotate_left
      · intro w'
        go_simp
        with_reducible rfl
      rotate_left
      · simp only [Act.put, List.setIfInBounds_toArray, List.set_cons_zero, List.set_cons_succ, i64_w, i32_w]
        rfl
      refine pure_ (i := 15) (N := some 28) (v := ?_) (a' := ?_) #[true, true, true, true, false, true, true, true, true, false, false, false, true, true, true, true, false, false, false, false, false, false, false, false] rfl rfl (any_of HT_.out (by kernel_rfl)) (fun _ _ _ h => h) (Or.inl ⟨by rfl, ?_⟩) ?_ ?_
      rotate_left
      · intro w'
        go_simp
        with_reducible rfl
      rotate_left
      · simp only [Act.put, List.setIfInBounds_toArray, List.set_cons_zero, List.set_cons_succ, i64_w, i32_w]
        rfl
      refine take_ (i := 9) (N := some 22) (v := ?_) (a' := ?_) #[true, true, true, true, false, true, true, true, true, true, false, false, true, true, true, true, false, false, false, false, false, false, false, false] rfl rfl (take_ofW HT_.out HW_.out (by kernel_rfl)) (fun _ _ _ h => h) (Or.inl ⟨by rfl, ?_⟩) hHeld ?_ ?_
      rotate_left
      · rintro w' ⟨s0, s1⟩
        go_simp
        with_reducible rfl
      rotate_left
      · simp only [Act.put, List.setIfInBounds_toArray, List.set_cons_zero, List.set_cons_succ, i64_w, i32_w]
        rfl
      refine take_ (i := 16) (N := some 29) (v := ?_) (a' := ?_) #[true, true, true, true, false, true, true, true, true, true, false, false, true, true, true, true, true, false, false, false, false, false, false, false] rfl rfl (take_ofW HT_.out HW_.out (by kernel_rfl)) (fun _ _ _ h => h) (Or.inl ⟨by rfl, ?_⟩) hHeld ?_ ?_
      rotate_left
      · rintro w' ⟨s0, s1⟩
        go_simp
        with_reducible rfl
      rotate_left
      · simp only [Act.put, List.setIfInBounds_toArray, List.set_cons_zero, List.set_cons_succ, i64_w, i32_w]
        rfl
      refine join_ (σ := Value × Value × Value) 7 #[true, true, true, true, true, true, true, true, true, true, true, true, true, true, true, true, true, false, false, false, false, false, false, false] (fun s => [(17, s.1), (24, s.2.1), (23, s.2.2)]) (fun s w' => Kd.string.R 9 w' W0.heap.size (fun _ => True) s.2.2 f4 ∧ (Kd.int .i64).R 3 w' W0.heap.size (fun _ => True) s.2.1 [] ∧ (∀ k, s.2.1.ownBlock = some k → s.2.2.ownBlock ≠ some k) ∧ Below W0.heap.size W0 w') ?cont ?orders
      case orders =>
        intro hjoin
        refine two_ (i := 4) (j := 11) (Ni := some 17) (Nj := some 24) #[true, true, true, true, true, true, true, true, true, true, false, false, true, true, true, true, true, false, false, false, false, false, false, false] #[true, true, true, true, false, true, true, true, true, true, false, true, true, true, true, true, true, false, false, false, false, false, false, false] rfl rfl rfl rfl (two_of HT_.out (by kernel_rfl)) (by decide) (by decide) (fun K hK => ?_) (fun K hK => ?_)
        · refine value_ (v := .slice (some ⟨W0.heap.size, 0, none⟩) 0 0) (w1 := W0.alloc (.cells #[] 9)) (by rfl) rfl (by first | (go_simp; done) | (go_simp; rfl)) ?_
          refine hK.out _ _ (hS _ (below_alloc (Below.refl _ _) _)) (fun hh => ?_)
          clear hK K
          have hB1 : Below W0.heap.size W0 (W0.alloc (.cells #[] 9)) := below_alloc (Below.refl _ _) _
          have hR17 : Kd.string.R 9 (W0.alloc (.cells #[] 9)) W0.heap.size (fun _ => True) (.slice (some ⟨W0.heap.size, 0, none⟩) 0 0) [] := lit_nil _ _ _ _ (Nat.le_refl _) _ trivial
          have hz1 : (W0.alloc (.cells #[] 9)).heap.size = W0.heap.size + 1 := Array.size_push _
          generalize W0.alloc (.cells #[] 9) = W1 at *
          refine two_ (i := 10) (j := 11) (Ni := some 23) (Nj := some 24) #[true, true, true, true, true, true, true, true, true, true, true, false, true, true, true, true, true, false, false, false, false, false, false, false] #[true, true, true, true, true, true, true, true, true, true, false, true, true, true, true, true, true, false, false, false, false, false, false, false] rfl rfl rfl rfl (two_of HT_.out (by kernel_rfl)) (by decide) (by decide) (fun K hK => ?_) (fun K hK => ?_)
          · refine app_step hR17 (hC4 _ hB1) hB1 hs4 (by rfl) rfl rfl rfl ?_
            intro v23 W2 hR23 hB2 hg2 hat2
            refine hK.out _ _ (hS _ hB2) (fun hh => ?_)
            clear hK K
            refine one_ (i := 11) (N := some 24) #[true, true, true, true, true, true, true, true, true, true, true, true, true, true, true, true, true, false, false, false, false, false, false, false] rfl rfl (one_of HT_.out (by kernel_rfl)) (by decide) (fun K hK => ?_)
            refine value_ (v := .slice (some ⟨W2.heap.size, 0, none⟩) 0 0) (w1 := W2.alloc (.cells #[] 3)) (by rfl) rfl (by first | (go_simp; done) | (go_simp; rfl)) ?_
            refine hK.out _ _ (hS _ (below_alloc hB2 _)) (fun hh => ?_)
            clear hK K
            exact hjoin ((.slice (some ⟨W0.heap.size, 0, none⟩) 0 0), .slice (some ⟨W2.heap.size, 0, none⟩) 0 0, v23) _ ⟨Kd.R_alloc hR23 _, lit_nil _ _ _ _ hB2.size _ trivial, fun k hk he => by have := Kd.R_lt hR23 k he; simp [Value.ownBlock] at hk; omega, below_alloc hB2 _⟩
          · refine value_ (v := .slice (some ⟨W1.heap.size, 0, none⟩) 0 0) (w1 := W1.alloc (.cells #[] 3)) (by rfl) rfl (by first | (go_simp; done) | (go_simp; rfl)) ?_
            refine hK.out _ _ (hS _ (below_alloc hB1 _)) (fun hh => ?_)
            clear hK K
            refine one_ (i := 10) (N := some 23) #[true, true, true, true, true, true, true, true, true, true, true, true, true, true, true, true, true, false, false, false, false, false, false, false] rfl rfl (one_of HT_.out (by kernel_rfl)) (by decide) (fun K hK => ?_)
            have hB2 := below_alloc hB1 (.cells #[] 3)
            have hR24 : (Kd.int .i64).R 3 (W1.alloc (.cells #[] 3)) W0.heap.size (fun k => k = W1.heap.size) (.slice (some ⟨W1.heap.size, 0, none⟩) 0 0) [] := lit_nil _ _ _ _ hB1.size _ rfl
            refine app_step (Kd.R_alloc hR17 _) (hC4 _ hB2) hB2 hs4 (by rfl) rfl rfl rfl ?_
            intro v23 W3 hR23 hB3 hg3 hat3
            refine hK.out _ _ (hS _ hB3) (fun hh => ?_)
            clear hK K
            exact hjoin ((.slice (some ⟨W0.heap.size, 0, none⟩) 0 0), .slice (some ⟨W1.heap.size, 0, none⟩) 0 0, v23) _ ⟨hR23, Kd.R_mono (Kd.R_grown hR24 hg3 (fun k hk he => by subst hk; simp [Value.ownBlock] at he; omega)) (fun _ _ => trivial), fun k hk he => by (have hk' : W1.heap.size = k := by simpa [Value.ownBlock] using hk); (rcases hat3 with h | ⟨b, h, hle⟩); (rw [h] at he; have he' : W0.heap.size = k := by simpa [Value.ownBlock] using he); (omega); (rw [h] at he; injection he with he; have hz2 : (W1.alloc (.cells #[] 3)).heap.size = W1.heap.size + 1 := Array.size_push _); (omega), hB3⟩
        · refine value_ (v := .slice (some ⟨W0.heap.size, 0, none⟩) 0 0) (w1 := W0.alloc (.cells #[] 3)) (by rfl) rfl (by first | (go_simp; done) | (go_simp; rfl)) ?_
          refine hK.out _ _ (hS _ (below_alloc (Below.refl _ _) _)) (fun hh => ?_)
          clear hK K
          have hB1 : Below W0.heap.size W0 (W0.alloc (.cells #[] 3)) := below_alloc (Below.refl _ _) _
          have hR24 : (Kd.int .i64).R 3 (W0.alloc (.cells #[] 3)) W0.heap.size (fun k => k = W0.heap.size) (.slice (some ⟨W0.heap.size, 0, none⟩) 0 0) [] := lit_nil _ _ _ _ (Nat.le_refl _) _ rfl
          have hz1 : (W0.alloc (.cells #[] 3)).heap.size = W0.heap.size + 1 := Array.size_push _
          generalize W0.alloc (.cells #[] 3) = W1 at *
          refine one_ (i := 4) (N := some 17) #[true, true, true, true, true, true, true, true, true, true, false, true, true, true, true, true, true, false, false, false, false, false, false, false] rfl rfl (one_of HT_.out (by kernel_rfl)) (by decide) (fun K hK => ?_)
          refine value_ (v := .slice (some ⟨W1.heap.size, 0, none⟩) 0 0) (w1 := W1.alloc (.cells #[] 9)) (by rfl) rfl (by first | (go_simp; done) | (go_simp; rfl)) ?_
          refine hK.out _ _ (hS _ (below_alloc hB1 _)) (fun hh => ?_)
          clear hK K
          have hR17 : Kd.string.R 9 (W1.alloc (.cells #[] 9)) W0.heap.size (fun _ => True) (.slice (some ⟨W1.heap.size, 0, none⟩) 0 0) [] := lit_nil _ _ _ _ hB1.size _ trivial
          have hB2 := below_alloc hB1 (.cells #[] 9)
          refine one_ (i := 10) (N := some 23) #[true, true, true, true, true, true, true, true, true, true, true, true, true, true, true, true, true, false, false, false, false, false, false, false] rfl rfl (one_of HT_.out (by kernel_rfl)) (by decide) (fun K hK => ?_)
          refine app_step hR17 (hC4 _ hB2) hB2 hs4 (by rfl) rfl rfl rfl ?_
          intro v23 W3 hR23 hB3 hg3 hat3
          refine hK.out _ _ (hS _ hB3) (fun hh => ?_)
          clear hK K
          exact hjoin (.slice (some ⟨W1.heap.size, 0, none⟩) 0 0, .slice (some ⟨W0.heap.size, 0, none⟩) 0 0, v23) _ ⟨hR23, Kd.R_mono (Kd.R_grown (Kd.R_alloc hR24 _) hg3 (fun k hk he => by subst hk; simp [Value.ownBlock] at he; omega)) (fun _ _ => trivial), fun k hk he => by (have hk' : W0.heap.size = k := by simpa [Value.ownBlock] using hk); (rcases hat3 with h | ⟨b, h, hle⟩); (rw [h] at he; have he' : W1.heap.size = k := by simpa [Value.ownBlock] using he); (omega); (rw [h] at he; injection he with he; have hz2 : (W1.alloc (.cells #[] 9)).heap.size = W1.heap.size + 1 := Array.size_push _); (omega), hB3⟩
      case cont =>
        rintro ⟨v17, v24, v23⟩ W5 ⟨hR23, hR24, hne, hB5⟩
        dsimp only at hR23 hR24 hne
        obtain ⟨A23, c23, rfl⟩ := Kd.R_slice hR23
        refine norm_ (a' := ?_) ?_ ?_
        rotate_left
        · simp only [putAll, Act.put, List.setIfInBounds_toArray, List.set_cons_zero, List.set_cons_succ, i64_w, i32_w]
          rfl
        refine one_ (i := 17) (oi := { dst := some 30, op := Go.Op.call { callee := Go.Callee.builtin Go.Builtin.append, args := #[Go.Operand.tmp 24, Go.Operand.tmp 29], argTypes := #[37, 37] }, type := 37, pos := "law.go:23", after := #[{ on := 11, ground := Go.Ground.data }, { on := 16, ground := Go.Ground.data }, { on := 10, ground := Go.Ground.chain }], guard := none }) (N := some 30) #[true, true, true, true, true, true, true, true, true, true, true, true, true, true, true, true, true, true, false, false, false, false, false, false] (by (kernel_rfl)) rfl (one_of HT_.out (by kernel_rfl)) (by decide) (fun K hK => ?_)
        refine appi_step hR24 (hC5 _ hB5) hB5 hs5 (by rfl) rfl rfl rfl ?_
        intro v30 W6 hR30 hB6 hg6 hat6
        refine hK.out _ _ (hS _ hB6) (fun hh => ?_)
        clear hK K
        obtain ⟨A30, c30, rfl⟩ := Kd.R_slice hR30
        have hR23' := Kd.R_grown (Kd.R_tight rfl hR23) hg6 (fun k hk he => hne k he.symm hk.symm)
        obtain ⟨hN6, hx46, hf46, hx56, hf56⟩ := hst W6 hB6
        refine pure_ (i := 18) (N := some 31) (v := ?_) (a' := ?_) #[true, true, true, true, true, true, true, true, true, true, true, true, true, true, true, true, true, true, true, false, false, false, false, false] rfl rfl (any_of HT_.out (by kernel_rfl)) (fun _ _ _ h => h) (Or.inl ⟨by rfl, ?_⟩) ?_ ?_
        rotate_left
        · intro w'
          go_simp
          with_reducible rfl
        rotate_left
        · simp only [Act.put, List.setIfInBounds_toArray, List.set_cons_zero, List.set_cons_succ, i64_w, i32_w]
          rfl
        refine pure_ (i := 19) (N := some 32) (v := ?_) (a' := ?_) #[true, true, true, true, true, true, true, true, true, true, true, true, true, true, true, true, true, true, true, true, false, false, false, false] rfl rfl (any_of HT_.out (by kernel_rfl)) (fun _ _ _ h => h) (Or.inl ⟨by rfl, ?_⟩) ?_ ?_
        rotate_left
        · intro w'
          go_simp
          with_reducible rfl
        rotate_left
        · simp only [Act.put, List.setIfInBounds_toArray, List.set_cons_zero, List.set_cons_succ, i64_w, i32_w]
          rfl
        refine last_skip (i := 20) (oi := { dst := none, op := Go.Op.store 36 (Go.Operand.tmp 32) (Go.Operand.tmp 23), type := 0, pos := "law.go:23", after := #[{ on := 19, ground := Go.Ground.data }, { on := 10, ground := Go.Ground.data }, { on := 17, ground := Go.Ground.chain }, { on := 0, ground := Go.Ground.phase }, { on := 1, ground := Go.Ground.phase }, { on := 2, ground := Go.Ground.textOnly Go.Departure.lateStores }, { on := 3, ground := Go.Ground.textOnly Go.Departure.lateStores }, { on := 4, ground := Go.Ground.phase }, { on := 5, ground := Go.Ground.phase }, { on := 6, ground := Go.Ground.phase }, { on := 7, ground := Go.Ground.phase }, { on := 8, ground := Go.Ground.phase }, { on := 9, ground := Go.Ground.phase }, { on := 10, ground := Go.Ground.phase }, { on := 11, ground := Go.Ground.textOnly Go.Departure.lateStoresUnsure }, { on := 12, ground := Go.Ground.textOnly Go.Departure.lateStores }, { on := 13, ground := Go.Ground.textOnly Go.Departure.lateStores }, { on := 14, ground := Go.Ground.textOnly Go.Departure.lateStoresUnsure }, { on := 15, ground := Go.Ground.textOnly Go.Departure.lateStoresUnsure }, { on := 16, ground := Go.Ground.phase }, { on := 17, ground := Go.Ground.phase }], guard := none }) (w1 := ?_) #[true, true, true, true, true, true, true, true, true, true, true, true, true, true, true, true, true, true, true, true, true, false, false, false] (by (kernel_rfl)) rfl (one_of HT_.out (by kernel_rfl)) (by decide) rfl ?_ ?_
        rotate_left
        · go_simp
          rfl
        refine pure_ (i := 21) (N := some 33) (v := ?_) (a' := ?_) #[true, true, true, true, true, true, true, true, true, true, true, true, true, true, true, true, true, true, true, true, true, true, false, false] rfl rfl (any_of HT_.out (by kernel_rfl)) (fun _ _ _ h => h) (Or.inl ⟨by rfl, ?_⟩) ?_ ?_
        rotate_left
        · intro w'
          go_simp
          with_reducible rfl
        rotate_left
        · simp only [Act.put, List.setIfInBounds_toArray, List.set_cons_zero, List.set_cons_succ, i64_w, i32_w]
          rfl
        refine pure_ (i := 22) (N := some 34) (v := ?_) (a' := ?_) #[true, true, true, true, true, true, true, true, true, true, true, true, true, true, true, true, true, true, true, true, true, true, true, false] rfl rfl (any_of HT_.out (by kernel_rfl)) (fun _ _ _ h => h) (Or.inl ⟨by rfl, ?_⟩) ?_ ?_
        rotate_left
        · intro w'
          go_simp
          with_reducible rfl
        rotate_left
        · simp only [Act.put, List.setIfInBounds_toArray, List.set_cons_zero, List.set_cons_succ, i64_w, i32_w]
          rfl
        refine last_skip (i := 23) (oi := { dst := none, op := Go.Op.store 37 (Go.Operand.tmp 34) (Go.Operand.tmp 30), type := 0, pos := "law.go:23", after := #[{ on := 22, ground := Go.Ground.data }, { on := 17, ground := Go.Ground.data }, { on := 20, ground := Go.Ground.chain }, { on := 0, ground := Go.Ground.phase }, { on := 1, ground := Go.Ground.phase }, { on := 2, ground := Go.Ground.phase }, { on := 3, ground := Go.Ground.phase }, { on := 4, ground := Go.Ground.phase }, { on := 5, ground := Go.Ground.phase }, { on := 6, ground := Go.Ground.phase }, { on := 7, ground := Go.Ground.phase }, { on := 8, ground := Go.Ground.phase }, { on := 9, ground := Go.Ground.phase }, { on := 10, ground := Go.Ground.phase }, { on := 11, ground := Go.Ground.phase }, { on := 12, ground := Go.Ground.phase }, { on := 13, ground := Go.Ground.phase }, { on := 14, ground := Go.Ground.phase }, { on := 15, ground := Go.Ground.phase }, { on := 16, ground := Go.Ground.phase }, { on := 17, ground := Go.Ground.phase }, { on := 18, ground := Go.Ground.phase }, { on := 19, ground := Go.Ground.phase }, { on := 20, ground := Go.Ground.phase }], guard := none }) (w1 := ?_) #[true, true, true, true, true, true, true, true, true, true, true, true, true, true, true, true, true, true, true, true, true, true, true, true] (by (kernel_rfl)) rfl (one_of HT_.out (by kernel_rfl)) (by decide) rfl ?_ ?_
        rotate_left
        · go_simp
          rfl
        refine done_ (done_of HT_.out (by kernel_rfl)) ?_
        have hB6' := hB0.trans (hB6.mono hB0.size)
        obtain ⟨hN7, hg7⟩ := put4 hN6 j hlt (b0 := W0.heap.size) (by rw [he4]; exact Kd.R_mono hR23' (fun _ _ => trivial)) hgW
        have hR30' : (Kd.int .i64).R 3 (W6.setCell ⟨g, j * 6 + 4, none⟩ (.slice A23 f4.length c23)) W0.heap.size (fun _ => True) (.slice A30 f5.length c30) f5 := Kd.R_mono (Kd.R_grown (Kd.R_bound hR30) hg7 (fun k hk he => by have := hk.2.1; injection he with he; omega)) (fun _ _ => trivial)
        obtain ⟨hN8, hg8⟩ := put5 hN7 j hlt (b0 := W0.heap.size) (by rw [he5]; exact hR30') hgW
        have hB7' := hB6'.grown hg7 hB6'.size (fun k e => by injection e with e; omega)
        have hB8' := hB7'.grown hg8 hB7'.size (fun k e => by injection e with e; omega)
        go_wp2
        go_roundw
        case rel => exact ⟨j + 1, by omega, by go_num, hN8, hB8'⟩
        case measure => simp [intOf]; omega
    · obtain rfl : j = l.length := by omega
      go_wp2
      go_ret
      exact ⟨_, rfl, hNr, hBr⟩

end Go.Proofs.YtldlkoncndlbhaaDoor.Cp

/- ShowChecks, the walk: of any tree of a size that can be read, the law answers true. -/
namespace Go.Proofs.YtldlkoncndlbhaaDoor.Pure
open Go.RowKit Go.Proofs.YtldlkoncndlbhaaDoor.PSh Go.Proofs.YtldlkoncndlbhaaDoor.Cp Go.Proofs.YtldlkoncndlbhaaDoor.Aw Go.Proofs.YtldlkoncndlbhaaDoorW.PrintWords Go.Proofs.YtldlkoncndlbhaaDoorW.PrintLast Go.Proofs.YtldlkoncndlbhaaDoorW.PrintMore
set_option linter.unusedSimpArgs false
set_option linter.unusedVariables false

set_option maxHeartbeats 4000000 in
set_option maxRecDepth 100000 in
theorem showChecks_walk (A : Option Addr) (c : Nat) (l : List S39) (w : World) (hG : Aside0 (Glob w)) (hr : Kd.C k39 w A l.length l) (hc : l.length ≤ c) (hz : Sz l)
    (hs : ∀ a : Int, 0 ≤ a → a < l.length → (rd_T39 l a).f4.length * 16 ≤ 140737488355328 ∧ (rd_T39 l a).f5.length * 8 ≤ 140737488355328) :
    Calls Tryd.prog 3 #[.slice A l.length c] w fun e w' => e = .returned (.bool true) ∧ Below w.heap.size w w' := by
  obtain ⟨K1, hK1⟩ := check_tells l hz
  have h1 : show_Check.f K1 l = some (checkOf l) := hK1 K1 (Nat.le_refl _)
  obtain ⟨K2, hK2⟩ := refcheck_tells l hz
  have h2 : haulierref03_Check.f K2 l = some (checkOf l) := hK2 K2 (Nat.le_refl _)
  clear hK1 hK2
  by_cases hbig : 9000 < l.length
  · have hb1 : ((l.length : Int) > 9000) = True := eq_true (by omega)
    have hb2 : decide ((9000 : Int) < (l.length : Int)) = true := decide_eq_true (by omega)
    have hb3 : decide (9000 < l.length) = true := decide_eq_true hbig
    go_enter Tryd.func3, Tryd.ntmps3
    go_wp2_with (go_at_call 10; refine (awake_walk w hG).mono ?_; rintro e w2 ⟨rfl, hb⟩)
    go_ret
    exact ⟨rfl, hb⟩
  · have hb2 : decide ((9000 : Int) < (l.length : Int)) = false := decide_eq_false (by omega)
    have hb3 : decide (9000 < l.length) = false := decide_eq_false hbig
    go_enter Tryd.func3, Tryd.ntmps3
    go_wp2_with (first
      | (go_at_call 10; refine (awake_walk w hG).mono ?_; rintro e w2 ⟨rfl, hb⟩; have hr2 := Kd.C_below hr hb; have hG2 := hG.out.below hb)
      | (go_at_call 12; refine (copied_walk l A c w2 hr2 hc (by omega) hs).mono ?_; rintro e w3 ⟨v, rfl, hN, hb3⟩; obtain ⟨A3, c3, rfl, hc3, hr3⟩ := Kd.N_reads hN; have hB3 := hb.trans (hb3.mono hb.size); have hG3 := hG.out.below hB3)
      | (go_at_call 11; refine (show_Check.calls K1 A3 c3 l (checkOf l) w3 ⟨hG3⟩ hr3 hc3 h1).mono ?_; rintro e w4 ⟨rfl, hb4⟩; have hB4 := hB3.trans (hb4.mono hB3.size); have hr4 := Kd.C_below hr hB4; have hG4 := hG.out.below hB4)
      | (go_at_call 13; refine (haulierref03_Check.calls K2 A c l (checkOf l) w4 ⟨hG4⟩ hr4 hc h2).mono ?_; rintro e w5 ⟨rfl, hb5⟩))
    go_ret
    exact ⟨rfl, hB4.trans (hb5.mono hB4.size)⟩

end Go.Proofs.YtldlkoncndlbhaaDoor.Pure

/- What can be read as a tree, within the reach, is one: the step from the row's reading to the walk's. -/
namespace Go.Proofs.YtldlkoncndlbhaaDoor.Rd
open Go.ChangeShapes Go.WideShapes Go.RowKit Go.Proofs.YtldlkoncndlbhaaDoor.PSh Go.Proofs.YtldlkoncndlbhaaDoor.Pure Go.Proofs.YtldlkoncndlbhaaDoorW.PrintWords Go.Proofs.YtldlkoncndlbhaaDoorW.PrintLast Go.Proofs.YtldlkoncndlbhaaDoorW.PrintMore
set_option linter.unusedSimpArgs false
set_option linter.unusedVariables false

section
variable {H : Type} {enc : TypeId × Value → H} {W : World} {base : Nat} {spare : Nat → Bool} {held : Bool} {fuel : Nat} {cs : List Value} {x : DataW H × List MemPlace}
/-- Within the reach. -/
def Fits (t : TypeId) (d : DataW H) : Prop := ∀ n ∈ d.weights Tryd.prog t, n ≤ reachBytes
theorem weights_slice {t e : TypeId} (ht : Tryd.prog.underlying t = some (.slice e)) (es sp : List (DataW H)) : (DataW.slice es sp).weights Tryd.prog t = (es.length + sp.length) * Tryd.prog.bytesOf e :: (DataW.weightsAll Tryd.prog e es ++ DataW.weightsAll Tryd.prog e sp) := by
  rw [DataW.weights, ht]
theorem all_mem (e : TypeId) : ∀ (l : List (DataW H)) (d : DataW H), d ∈ l → ∀ n ∈ d.weights Tryd.prog e, n ∈ DataW.weightsAll Tryd.prog e l
  | [], _, h, _, _ => by cases h
  | y :: r, d, h, n, hn => by
    rw [DataW.weightsAll, List.mem_append]
    rcases List.mem_cons.1 h with rfl | h
    · exact .inl hn
    · exact .inr (all_mem e r d h n hn)
/-- A list of names. -/
theorem names_of (h : DataW.trod enc Tryd.prog W base spare held fuel 36 cs = some x) (hf : Fits 36 x.1) :
    ∃ (A : Option Addr) (c : Nat) (ss : List ByteArray), cs = [.slice A ss.length c] ∧ ss.length ≤ c ∧ Kd.string.C W A ss.length ss ∧ ss.length * 16 ≤ 140737488351232 ∧ ∀ s ∈ ss, s.size ≤ 140737488351232 := by
  have hb : Tryd.prog.bytesOf 9 = 16 := by kernel_rfl
  rcases open_strings Tryd.underlying36 Tryd.underlying9 (by kernel_rfl) h with ⟨rfl, rfl⟩ | ⟨a, len, cap, ss, rfl, _, hl, hm, hlen, rfl, hcell, hsz⟩
  · exact ⟨none, 0, [], rfl, Nat.le_refl _, Kd.C_nil _ _, by decide, fun s hs => by cases hs⟩
  · have hls : len ≤ ss.length := by rw [hlen]; split <;> omega
    have hlt : (ss.take len).length = len := by rw [List.length_take]; omega
    unfold Fits at hf
    rw [weights_slice Tryd.underlying36, hb] at hf
    have h1 := hf _ (List.mem_cons_self ..)
    have hs1 : (strs (H := H) (ss.take len)).length = len := by unfold strs; rw [List.length_map, hlt]
    refine ⟨some a, cap, ss.take len, by rw [hlt], by rw [hlt]; exact hl, ?_, ?_, fun s hs => ?_⟩
    · rw [hlt]
      refine ⟨hlt, by unfold maxLen at hm; omega, fun hp => ⟨a, rfl, fun j p hj => ⟨[.string p], rfl, rfl, fun i u hu => ?_⟩⟩⟩
      match i, hu with
      | 0, hu =>
        cases hu
        have hjl : j < len := by have := (List.getElem?_eq_some_iff.1 hj).1; omega
        rw [Nat.add_zero, show j * Kd.string.sz = j from Nat.mul_one j, hcell j (by omega)]
        rw [List.getElem?_take, if_pos hjl] at hj
        rw [List.getD_eq_getElem?_getD, hj]
        rfl
      | i + 1, hu => cases hu
    · rw [hlt]
      unfold reachBytes at h1
      rw [hs1] at h1
      omega
    · have hm2 : (DataW.lit (.string s.data.toList) : DataW H) ∈ strs (H := H) (ss.take len) := List.mem_map.2 ⟨s, hs, rfl⟩
      have h2 := hf s.data.toList.length (List.mem_cons_of_mem _ (List.mem_append.2 (.inl (all_mem _ _ _ hm2 _ (by rw [DataW.weights]; exact List.mem_singleton.2 rfl)))))
      unfold reachBytes at h2
      rw [data_length] at h2
      exact h2
/-- A list of places. -/
theorem kids_of (h : DataW.trod enc Tryd.prog W base spare held fuel 37 cs = some x) (hf : Fits 37 x.1) :
    ∃ (A : Option Addr) (c : Nat) (zs : List Int), cs = [.slice A zs.length c] ∧ zs.length ≤ c ∧ (Kd.int .i64).C W A zs.length zs ∧ zs.length * 8 ≤ 140737488351232 := by
  have hb : Tryd.prog.bytesOf 3 = 8 := by kernel_rfl
  rcases open_ints Tryd.underlying37 Tryd.underlying3 (by kernel_rfl) h with ⟨rfl, rfl⟩ | ⟨a, len, cap, zs, rfl, _, hl, hm, hlen, rfl, hcell, _⟩
  · exact ⟨none, 0, [], rfl, Nat.le_refl _, Kd.C_nil _ _, by decide⟩
  · have hls : len ≤ zs.length := by rw [hlen]; split <;> omega
    have hlt : (zs.take len).length = len := by rw [List.length_take]; omega
    unfold Fits at hf
    rw [weights_slice Tryd.underlying37, hb] at hf
    have h1 := hf _ (List.mem_cons_self ..)
    have hs1 : (lits (H := H) .i64 (zs.take len)).length = len := by unfold lits; rw [List.length_map, hlt]
    refine ⟨some a, cap, zs.take len, by rw [hlt], by rw [hlt]; exact hl, ?_, ?_⟩
    · rw [hlt]
      refine ⟨hlt, by unfold maxLen at hm; omega, fun hp => ⟨a, rfl, fun j p hj => ⟨[.int .i64 p], rfl, rfl, fun i u hu => ?_⟩⟩⟩
      match i, hu with
      | 0, hu =>
        cases hu
        have hjl : j < len := by have := (List.getElem?_eq_some_iff.1 hj).1; omega
        rw [Nat.add_zero, show j * (Kd.int .i64).sz = j from Nat.mul_one j, hcell j (by omega)]
        rw [List.getElem?_take, if_pos hjl] at hj
        rw [List.getD_eq_getElem?_getD, hj]
        rfl
      | i + 1, hu => cases hu
    · rw [hlt]
      unfold reachBytes at h1
      rw [hs1] at h1
      omega
theorem each_mem : ∀ (ts : List TypeId) (ds : List (DataW H)) (j : Nat) (t : TypeId) (d : DataW H), ts[j]? = some t → ds[j]? = some d → ∀ n ∈ d.weights Tryd.prog t, n ∈ DataW.weightsEach Tryd.prog ts ds
  | [], _, j, _, _, h, _, _, _ => by cases h
  | _ :: _, [], _, _, _, _, h, _, _ => by cases h
  | t0 :: ts, d0 :: ds, 0, t, d, h1, h2, n, hn => by
    cases h1
    cases h2
    rw [DataW.weightsEach, List.mem_append]
    exact .inl hn
  | t0 :: ts, d0 :: ds, j + 1, t, d, h1, h2, n, hn => by
    rw [DataW.weightsEach, List.mem_append]
    exact .inr (each_mem ts ds j t d h1 h2 n hn)
theorem six {α : Type} (l : List α) (h : l.length = 6) : ∃ a b c d e f, l = [a, b, c, d, e, f] := by
  cases l with
  | nil => cases h
  | cons a l => cases l with
    | nil => cases h
    | cons b l => cases l with
      | nil => cases h
      | cons c l => cases l with
        | nil => cases h
        | cons d l => cases l with
          | nil => cases h
          | cons e l => cases l with
            | nil => cases h
            | cons f l => cases l with
              | nil => exact ⟨a, b, c, d, e, f, rfl⟩
              | cons g l => simp at h
/-- What a value's sizes are. -/
def Ok (v : S39) : Prop := (∀ s ∈ v.f4, s.size ≤ 140737488351232) ∧ v.f3.size ≤ 140737488351232 ∧ v.f4.length * 16 ≤ 140737488351232 ∧ v.f5.length * 8 ≤ 140737488351232
/-- A value. -/
theorem value_of (h : DataW.trod enc Tryd.prog W base spare held fuel 39 cs = some x) (hf : Fits 39 x.1) : ∃ v : S39, k39.K W v cs ∧ Ok v := by
  obtain ⟨xs, n, _, rfl, hcl, hxl, hfi⟩ := DataW.trod_struct Tryd.underlying39 h
  have hc6 : cs.length = 6 := hcl.trans (by kernel_rfl)
  have hx6 : xs.length = 6 := hxl
  obtain ⟨x0, x1, x2, x3, x4, x5, rfl⟩ := six xs hx6
  obtain ⟨c0, c1, c2, c3, c4, c5, rfl⟩ := six cs hc6
  have e35 : Tryd.prog.cellsOf 35 = 1 := by kernel_rfl
  have e4 : Tryd.prog.cellsOf 4 = 1 := by kernel_rfl
  have e3 : Tryd.prog.cellsOf 3 = 1 := by kernel_rfl
  have e9 : Tryd.prog.cellsOf 9 = 1 := by kernel_rfl
  have e36 : Tryd.prog.cellsOf 36 = 1 := by kernel_rfl
  have e37 : Tryd.prog.cellsOf 37 = 1 := by kernel_rfl
  have h0 : DataW.trod enc Tryd.prog W base spare held n 35 (([c0, c1, c2, c3, c4, c5].drop 0).take (Tryd.prog.cellsOf 35)) = some x0 := hfi 0 _ rfl
  have h1 : DataW.trod enc Tryd.prog W base spare held n 4 (([c0, c1, c2, c3, c4, c5].drop 1).take (Tryd.prog.cellsOf 4)) = some x1 := hfi 1 _ rfl
  have h2 : DataW.trod enc Tryd.prog W base spare held n 3 (([c0, c1, c2, c3, c4, c5].drop 2).take (Tryd.prog.cellsOf 3)) = some x2 := hfi 2 _ rfl
  have h3 : DataW.trod enc Tryd.prog W base spare held n 9 (([c0, c1, c2, c3, c4, c5].drop 3).take (Tryd.prog.cellsOf 9)) = some x3 := hfi 3 _ rfl
  have h4 : DataW.trod enc Tryd.prog W base spare held n 36 (([c0, c1, c2, c3, c4, c5].drop 4).take (Tryd.prog.cellsOf 36)) = some x4 := hfi 4 _ rfl
  have h5 : DataW.trod enc Tryd.prog W base spare held n 37 (([c0, c1, c2, c3, c4, c5].drop 5).take (Tryd.prog.cellsOf 37)) = some x5 := hfi 5 _ rfl
  rw [e35] at h0
  rw [e4] at h1
  rw [e3] at h2
  rw [e9] at h3
  rw [e36] at h4
  rw [e37] at h5
  obtain ⟨n0, g0, _, _⟩ := DataW.trod_int Tryd.underlying35 h0
  obtain ⟨b1, g1, _⟩ := DataW.trod_bool Tryd.underlying4 h1
  obtain ⟨n2, g2, _, _⟩ := DataW.trod_int Tryd.underlying3 h2
  obtain ⟨s3, g3, hx3, _⟩ := DataW.trod_string Tryd.underlying9 h3
  have hw : ∀ (j : Nat) (t : TypeId) (d : DataW H), ([35, 4, 3, 9, 36, 37] : List TypeId)[j]? = some t → (([x0, x1, x2, x3, x4, x5].map (·.1)) : List (DataW H))[j]? = some d → Fits t d := fun j t d ht hd n hn => by
    refine hf n ?_
    rw [DataW.weights, Tryd.underlying39]
    exact each_mem _ _ j t d ht hd n hn
  obtain ⟨A4, k4, ss, g4, l4, C4, z4, y4⟩ := names_of h4 (hw 4 _ _ rfl rfl)
  obtain ⟨A5, k5, zs, g5, l5, C5, z5⟩ := kids_of h5 (hw 5 _ _ rfl rfl)
  have w3 := hw 3 9 x3.1 rfl rfl s3.data.toList.length (by rw [hx3, DataW.weights]; exact List.mem_singleton.2 rfl)
  cases g0
  cases g1
  cases g2
  cases g3
  cases g4
  cases g5
  unfold reachBytes at w3
  rw [data_length] at w3
  exact ⟨⟨n0, b1, n2, s3, ss, zs⟩, k39_mk W ⟨n0, b1, n2, s3, ss, zs⟩ l4 C4 l5 C5, y4, w3, z4, z5⟩
/-- A tree. -/
theorem tree_of (h : DataW.trod enc Tryd.prog W base spare held fuel 23 cs = some x) (hf : Fits 23 x.1) :
    ∃ (A : Option Addr) (c : Nat) (l : List S39), cs = [.slice A l.length c] ∧ l.length ≤ c ∧ Kd.C k39 W A l.length l ∧ ∀ v ∈ l, Ok v := by
  have e39 : Tryd.prog.cellsOf 39 = 6 := by kernel_rfl
  rcases Go.Deep.open_slice Tryd.underlying23 h with ⟨rfl, rfl⟩ | ⟨a, len, cap, m, n, D, Pl, rfl, _, hl, hm, hmm, rfl, hel⟩
  · exact ⟨none, 0, [], rfl, Nat.le_refl _, Kd.C_nil _ _, fun v hv => by cases hv⟩
  · have hlm : len ≤ m := by rw [hmm]; split <;> omega
    unfold Fits at hf
    rw [weights_slice Tryd.underlying23] at hf
    have hval : ∀ i, i < len → ∃ v : S39, (∃ c : List Value, c.length = 6 ∧ k39.K W v c ∧ ∀ j u, c[j]? = some u → W.cell? (a.add (i * 6 + j)) = some u) ∧ Ok v := by
      intro i hi
      obtain ⟨cs', hcs, htr⟩ := hel i (by omega)
      rw [e39] at hcs
      obtain ⟨_, hcl, hce⟩ := World.cells?_some hcs
      have hfi : Fits 39 (D i) := fun n' hn' => hf n' (List.mem_cons_of_mem _ (List.mem_append.2 (.inl (all_mem _ _ (D i) (List.mem_map.2 ⟨i, List.mem_range.2 hi, rfl⟩) _ hn'))))
      obtain ⟨v, hK, hok⟩ := value_of htr hfi
      refine ⟨v, ⟨cs', hcl, hK, fun j u hu => ?_⟩, hok⟩
      have hj : j < 6 := by have := (List.getElem?_eq_some_iff.1 hu).1; omega
      rw [← Go.Deep.add_add, hce j hj]
      exact hu
    let f : Nat → S39 := fun i => if hi : i < len then Classical.choose (hval i hi) else z39
    have hfs : ∀ i (hi : i < len), f i = Classical.choose (hval i hi) := fun i hi => dif_pos hi
    refine ⟨some a, cap, (List.range len).map f, by rw [List.length_map, List.length_range], by rw [List.length_map, List.length_range]; exact hl, ?_, fun v hv => ?_⟩
    · rw [List.length_map, List.length_range]
      refine ⟨by rw [List.length_map, List.length_range], by unfold maxLen at hm; omega, fun hp => ⟨a, rfl, fun j p hj => ?_⟩⟩
      have hjl : j < len := by have := (List.getElem?_eq_some_iff.1 hj).1; rwa [List.length_map, List.length_range] at this
      rw [List.getElem?_map, List.getElem?_range hjl] at hj
      cases hj
      obtain ⟨c, h1, h2, h3⟩ := (Classical.choose_spec (hval j hjl)).1
      rw [hfs j hjl]
      exact ⟨c, h1, h2, h3⟩
    · obtain ⟨i, hi, rfl⟩ := List.mem_map.1 hv
      rw [hfs i (List.mem_range.1 hi)]
      exact (Classical.choose_spec (hval i (List.mem_range.1 hi))).2
end

end Go.Proofs.YtldlkoncndlbhaaDoor.Rd

/- What the bound of an '..Upto' statement gives: a slice of whole numbers, or a string, is no longer than the bulk of what is read. -/
namespace Go.Proofs.YtldlkoncndlbhaaDoor.Bulk
open Go.ChangeShapes Go.WideShapes

theorem one_le {H : Type} (d : DataW H) : 1 ≤ Rows.uptoBulk d := by
  cases d with
  | lit l => cases l <;> simp [Rows.uptoBulk]
  | nil => simp [Rows.uptoBulk]
  | ptr d => simp [Rows.uptoBulk]
  | slice elems spare => simp [Rows.uptoBulk]
  | agg parts => simp [Rows.uptoBulk]
  | iface t d => simp [Rows.uptoBulk]
  | map entries => simp [Rows.uptoBulk]
  | held h => simp [Rows.uptoBulk]
theorem part_le {H : Type} {d : DataW H} {l : List (DataW H)} (h : d ∈ l) : Rows.uptoBulk d ≤ Rows.uptoBulkAll l := by
  induction l with
  | nil => cases h
  | cons x r ih =>
    simp only [Rows.uptoBulkAll]
    cases List.mem_cons.1 h with
    | inl e => subst e; omega
    | inr e => have := ih e; omega
theorem length_le {H : Type} (l : List (DataW H)) : l.length ≤ Rows.uptoBulkAll l := by
  induction l with
  | nil => simp [Rows.uptoBulkAll]
  | cons x r ih => have := one_le x; simp only [Rows.uptoBulkAll, List.length_cons]; omega
theorem slice_le {H : Type} (elems spare : List (DataW H)) : elems.length + spare.length + 1 ≤ Rows.uptoBulk (.slice elems spare) := by
  have h1 := length_le elems
  have h2 := length_le spare
  simp only [Rows.uptoBulk]
  omega
theorem bulk_ints {H : Type} {enc : TypeId × Value → H} {P : Program} {W : World} {base : Nat} {spare : Nat → Bool} {held : Bool} {t e : TypeId} {k : IntKind} {a : Option Addr} {len cap : Nat} {d : DataW H} {ps : List MemPlace}
    (hu : P.underlying t = some (.slice e)) (he : P.underlying e = some (.int k)) (hc : P.cellsOf e = 1)
    (h : DataW.Trod enc P W base spare held t (.slice a len cap) d ps) : len ≤ Rows.uptoBulk d := by
  obtain ⟨fuel, hf⟩ := h
  rcases open_ints hu he hc hf with ⟨hcs, _⟩ | ⟨x, l, c, zs, hcs, _, hl, _, hz, hx, _, _⟩
  · simp [Value.cells] at hcs
    obtain ⟨rfl, rfl, rfl⟩ := hcs
    omega
  · simp [Value.cells] at hcs
    obtain ⟨rfl, rfl, rfl⟩ := hcs
    obtain ⟨hx, _⟩ := Prod.mk.inj hx
    subst hx
    have hl2 : len ≤ zs.length := by
      rw [hz]
      split
      · exact hl
      · exact Nat.le_refl _
    have h1 := slice_le (lits (H := H) k (zs.take len)) (lits (H := H) k (zs.drop len))
    have h2 : (lits (H := H) k (zs.take len)).length = min len zs.length := by simp [lits]
    omega
theorem small {H : Type} {l : List (DataW H)} (hk : Rows.uptoSmall H l = true) : Rows.uptoBulkAll l ≤ 1048576 := of_decide_eq_true hk

end Go.Proofs.YtldlkoncndlbhaaDoor.Bulk

/- What can be read as a tree, of a bulk that is bounded, is one: the step from the row's reading to the walk's, for the second forms. -/
namespace Go.Proofs.YtldlkoncndlbhaaDoor.Rd
open Go.ChangeShapes Go.WideShapes Go.RowKit Go.Proofs.YtldlkoncndlbhaaDoor.PSh Go.Proofs.YtldlkoncndlbhaaDoor.Pure Go.Proofs.YtldlkoncndlbhaaDoorW.PrintWords Go.Proofs.YtldlkoncndlbhaaDoorW.PrintLast Go.Proofs.YtldlkoncndlbhaaDoorW.PrintMore
set_option linter.unusedSimpArgs false
set_option linter.unusedVariables false

/-- How much a value holds. -/
def cost (v : S39) : Nat := 1 + v.f3.size + (v.f4.map fun s => s.size + 1).sum + v.f5.length
section
variable {H : Type} {enc : TypeId × Value → H} {W : World} {base : Nat} {spare : Nat → Bool} {held : Bool} {fuel : Nat} {cs : List Value} {x : DataW H × List MemPlace}
theorem bulk_strs : ∀ ss : List ByteArray, Rows.uptoBulkAll (strs (H := H) ss) = (ss.map fun s => s.size + 1).sum
  | [] => rfl
  | s :: r => by
    have h := bulk_strs r
    unfold strs at h ⊢
    rw [List.map_cons, Rows.uptoBulkAll, h, List.map_cons, List.sum_cons]
    simp [Rows.uptoBulk, data_length]
theorem names_ofB (h : DataW.trod enc Tryd.prog W base spare held fuel 36 cs = some x) :
    ∃ (A : Option Addr) (c : Nat) (ss : List ByteArray), cs = [.slice A ss.length c] ∧ ss.length ≤ c ∧ Kd.string.C W A ss.length ss ∧ (ss.map fun s => s.size + 1).sum ≤ Rows.uptoBulk x.1 := by
  have hb : Tryd.prog.bytesOf 9 = 16 := by kernel_rfl
  rcases open_strings Tryd.underlying36 Tryd.underlying9 (by kernel_rfl) h with ⟨rfl, rfl⟩ | ⟨a, len, cap, ss, rfl, _, hl, hm, hlen, rfl, hcell, hsz⟩
  · exact ⟨none, 0, [], rfl, Nat.le_refl _, Kd.C_nil _ _, Nat.zero_le _⟩
  · have hls : len ≤ ss.length := by rw [hlen]; split <;> omega
    have hlt : (ss.take len).length = len := by rw [List.length_take]; omega
    refine ⟨some a, cap, ss.take len, by rw [hlt], by rw [hlt]; exact hl, ?_, ?_⟩
    · rw [hlt]
      refine ⟨hlt, by unfold maxLen at hm; omega, fun hp => ⟨a, rfl, fun j p hj => ⟨[.string p], rfl, rfl, fun i u hu => ?_⟩⟩⟩
      match i, hu with
      | 0, hu =>
        cases hu
        have hjl : j < len := by have := (List.getElem?_eq_some_iff.1 hj).1; omega
        rw [Nat.add_zero, show j * Kd.string.sz = j from Nat.mul_one j, hcell j (by omega)]
        rw [List.getElem?_take, if_pos hjl] at hj
        rw [List.getD_eq_getElem?_getD, hj]
        rfl
      | i + 1, hu => cases hu
    · rw [← bulk_strs (H := H)]
      simp only [Rows.uptoBulk]
      omega
theorem kids_ofB (h : DataW.trod enc Tryd.prog W base spare held fuel 37 cs = some x) :
    ∃ (A : Option Addr) (c : Nat) (zs : List Int), cs = [.slice A zs.length c] ∧ zs.length ≤ c ∧ (Kd.int .i64).C W A zs.length zs ∧ zs.length ≤ Rows.uptoBulk x.1 := by
  have hb : Tryd.prog.bytesOf 3 = 8 := by kernel_rfl
  rcases open_ints Tryd.underlying37 Tryd.underlying3 (by kernel_rfl) h with ⟨rfl, rfl⟩ | ⟨a, len, cap, zs, rfl, _, hl, hm, hlen, rfl, hcell, _⟩
  · exact ⟨none, 0, [], rfl, Nat.le_refl _, Kd.C_nil _ _, Nat.zero_le _⟩
  · have hls : len ≤ zs.length := by rw [hlen]; split <;> omega
    have hlt : (zs.take len).length = len := by rw [List.length_take]; omega
    refine ⟨some a, cap, zs.take len, by rw [hlt], by rw [hlt]; exact hl, ?_, ?_⟩
    · rw [hlt]
      refine ⟨hlt, by unfold maxLen at hm; omega, fun hp => ⟨a, rfl, fun j p hj => ⟨[.int .i64 p], rfl, rfl, fun i u hu => ?_⟩⟩⟩
      match i, hu with
      | 0, hu =>
        cases hu
        have hjl : j < len := by have := (List.getElem?_eq_some_iff.1 hj).1; omega
        rw [Nat.add_zero, show j * (Kd.int .i64).sz = j from Nat.mul_one j, hcell j (by omega)]
        rw [List.getElem?_take, if_pos hjl] at hj
        rw [List.getD_eq_getElem?_getD, hj]
        rfl
      | i + 1, hu => cases hu
    · have h1 := Bulk.slice_le (lits (H := H) .i64 (zs.take len)) (lits (H := H) .i64 (zs.drop len))
      have h2 : (lits (H := H) .i64 (zs.take len)).length = len := by unfold lits; rw [List.length_map, hlt]
      rw [hlt]
      rw [h2] at h1
      exact Nat.le_trans (by omega) h1
/-- A value. -/
theorem value_ofB (h : DataW.trod enc Tryd.prog W base spare held fuel 39 cs = some x) : ∃ v : S39, k39.K W v cs ∧ cost v ≤ Rows.uptoBulk x.1 := by
  obtain ⟨xs, n, _, rfl, hcl, hxl, hfi⟩ := DataW.trod_struct Tryd.underlying39 h
  have hc6 : cs.length = 6 := hcl.trans (by kernel_rfl)
  have hx6 : xs.length = 6 := hxl
  obtain ⟨x0, x1, x2, x3, x4, x5, rfl⟩ := six xs hx6
  obtain ⟨c0, c1, c2, c3, c4, c5, rfl⟩ := six cs hc6
  have e35 : Tryd.prog.cellsOf 35 = 1 := by kernel_rfl
  have e4 : Tryd.prog.cellsOf 4 = 1 := by kernel_rfl
  have e3 : Tryd.prog.cellsOf 3 = 1 := by kernel_rfl
  have e9 : Tryd.prog.cellsOf 9 = 1 := by kernel_rfl
  have e36 : Tryd.prog.cellsOf 36 = 1 := by kernel_rfl
  have e37 : Tryd.prog.cellsOf 37 = 1 := by kernel_rfl
  have h0 : DataW.trod enc Tryd.prog W base spare held n 35 (([c0, c1, c2, c3, c4, c5].drop 0).take (Tryd.prog.cellsOf 35)) = some x0 := hfi 0 _ rfl
  have h1 : DataW.trod enc Tryd.prog W base spare held n 4 (([c0, c1, c2, c3, c4, c5].drop 1).take (Tryd.prog.cellsOf 4)) = some x1 := hfi 1 _ rfl
  have h2 : DataW.trod enc Tryd.prog W base spare held n 3 (([c0, c1, c2, c3, c4, c5].drop 2).take (Tryd.prog.cellsOf 3)) = some x2 := hfi 2 _ rfl
  have h3 : DataW.trod enc Tryd.prog W base spare held n 9 (([c0, c1, c2, c3, c4, c5].drop 3).take (Tryd.prog.cellsOf 9)) = some x3 := hfi 3 _ rfl
  have h4 : DataW.trod enc Tryd.prog W base spare held n 36 (([c0, c1, c2, c3, c4, c5].drop 4).take (Tryd.prog.cellsOf 36)) = some x4 := hfi 4 _ rfl
  have h5 : DataW.trod enc Tryd.prog W base spare held n 37 (([c0, c1, c2, c3, c4, c5].drop 5).take (Tryd.prog.cellsOf 37)) = some x5 := hfi 5 _ rfl
  rw [e35] at h0
  rw [e4] at h1
  rw [e3] at h2
  rw [e9] at h3
  rw [e36] at h4
  rw [e37] at h5
  obtain ⟨n0, g0, _, _⟩ := DataW.trod_int Tryd.underlying35 h0
  obtain ⟨b1, g1, _⟩ := DataW.trod_bool Tryd.underlying4 h1
  obtain ⟨n2, g2, _, _⟩ := DataW.trod_int Tryd.underlying3 h2
  obtain ⟨s3, g3, hx3, _⟩ := DataW.trod_string Tryd.underlying9 h3
  obtain ⟨A4, k4, ss, g4, l4, C4, z4⟩ := names_ofB h4
  obtain ⟨A5, k5, zs, g5, l5, C5, z5⟩ := kids_ofB h5
  have b0 := Bulk.one_le x0.1
  have b1' := Bulk.one_le x1.1
  have b2 := Bulk.one_le x2.1
  have w3 : Rows.uptoBulk x3.1 = s3.size + 1 := by rw [hx3]; simp [Rows.uptoBulk, data_length]
  cases g0
  cases g1
  cases g2
  cases g3
  cases g4
  cases g5
  refine ⟨⟨n0, b1, n2, s3, ss, zs⟩, k39_mk W ⟨n0, b1, n2, s3, ss, zs⟩ l4 C4 l5 C5, ?_⟩
  show 1 + s3.size + (ss.map fun s => s.size + 1).sum + zs.length ≤ _
  simp only [List.map_cons, List.map_nil, Rows.uptoBulk, Rows.uptoBulkAll]
  omega
theorem sum_range (f g : Nat → Nat) : ∀ n, (∀ i, i < n → f i ≤ g i) → ((List.range n).map f).sum ≤ ((List.range n).map g).sum
  | 0, _ => Nat.le_refl _
  | n + 1, h => by
    rw [List.range_succ, List.map_append, List.map_append, List.sum_append, List.sum_append]
    have := sum_range f g n (fun i hi => h i (by omega))
    have := h n (by omega)
    simp
    omega
theorem bulk_all : ∀ l : List (DataW H), Rows.uptoBulkAll l = (l.map Rows.uptoBulk).sum
  | [] => rfl
  | d :: r => by rw [Rows.uptoBulkAll, bulk_all r, List.map_cons, List.sum_cons]
/-- A tree. -/
theorem tree_ofB (h : DataW.trod enc Tryd.prog W base spare held fuel 23 cs = some x) :
    ∃ (A : Option Addr) (c : Nat) (l : List S39), cs = [.slice A l.length c] ∧ l.length ≤ c ∧ Kd.C k39 W A l.length l ∧ (l.map cost).sum ≤ Rows.uptoBulk x.1 := by
  have e39 : Tryd.prog.cellsOf 39 = 6 := by kernel_rfl
  rcases Go.Deep.open_slice Tryd.underlying23 h with ⟨rfl, rfl⟩ | ⟨a, len, cap, m, n, D, Pl, rfl, _, hl, hm, hmm, rfl, hel⟩
  · exact ⟨none, 0, [], rfl, Nat.le_refl _, Kd.C_nil _ _, Nat.zero_le _⟩
  · have hlm : len ≤ m := by rw [hmm]; split <;> omega
    have hval : ∀ i, i < len → ∃ v : S39, (∃ c : List Value, c.length = 6 ∧ k39.K W v c ∧ ∀ j u, c[j]? = some u → W.cell? (a.add (i * 6 + j)) = some u) ∧ cost v ≤ Rows.uptoBulk (D i) := by
      intro i hi
      obtain ⟨cs', hcs, htr⟩ := hel i (by omega)
      rw [e39] at hcs
      obtain ⟨_, hcl, hce⟩ := World.cells?_some hcs
      obtain ⟨v, hK, hok⟩ := value_ofB htr
      refine ⟨v, ⟨cs', hcl, hK, fun j u hu => ?_⟩, hok⟩
      have hj : j < 6 := by have := (List.getElem?_eq_some_iff.1 hu).1; omega
      rw [← Go.Deep.add_add, hce j hj]
      exact hu
    let f : Nat → S39 := fun i => if hi : i < len then Classical.choose (hval i hi) else z39
    have hfs : ∀ i (hi : i < len), f i = Classical.choose (hval i hi) := fun i hi => dif_pos hi
    refine ⟨some a, cap, (List.range len).map f, by rw [List.length_map, List.length_range], by rw [List.length_map, List.length_range]; exact hl, ?_, ?_⟩
    · rw [List.length_map, List.length_range]
      refine ⟨by rw [List.length_map, List.length_range], by unfold maxLen at hm; omega, fun hp => ⟨a, rfl, fun j p hj => ?_⟩⟩
      have hjl : j < len := by have := (List.getElem?_eq_some_iff.1 hj).1; rwa [List.length_map, List.length_range] at this
      rw [List.getElem?_map, List.getElem?_range hjl] at hj
      cases hj
      obtain ⟨c, h1, h2, h3⟩ := (Classical.choose_spec (hval j hjl)).1
      rw [hfs j hjl]
      exact ⟨c, h1, h2, h3⟩
    · have h1 := sum_range (fun i => cost (f i)) (fun i => Rows.uptoBulk (D i)) len (fun i hi => by rw [hfs i hi]; exact (Classical.choose_spec (hval i hi)).2)
      rw [List.map_map]
      show ((List.range len).map fun i => cost (f i)).sum ≤ _
      refine Nat.le_trans h1 ?_
      have h2 : Rows.uptoBulkAll ((List.range len).map D) = ((List.range len).map fun i => Rows.uptoBulk (D i)).sum := by
        rw [bulk_all, List.map_map]
        rfl
      rw [← h2]
      simp only [Rows.uptoBulk]
      omega
end

/-! What a bounded cost gives. -/
theorem cost_pos (v : S39) : 1 ≤ cost v := by unfold cost; omega
theorem sum_mem (l : List S39) (v : S39) (h : v ∈ l) : cost v ≤ (l.map cost).sum := by
  induction l with
  | nil => cases h
  | cons a r ih =>
    rw [List.map_cons, List.sum_cons]
    rcases List.mem_cons.1 h with rfl | h
    · omega
    · have := ih h; omega
theorem len_cost (l : List S39) : l.length ≤ (l.map cost).sum := by
  induction l with
  | nil => exact Nat.le_refl _
  | cons a r ih => rw [List.map_cons, List.sum_cons, List.length_cons]; have := cost_pos a; omega
theorem names_len (ss : List ByteArray) : ss.length ≤ (ss.map fun s => s.size + 1).sum := by
  induction ss with
  | nil => exact Nat.le_refl _
  | cons a r ih => rw [List.map_cons, List.sum_cons, List.length_cons]; omega
theorem name_le (ss : List ByteArray) (s : ByteArray) (h : s ∈ ss) : s.size + 1 ≤ (ss.map fun s => s.size + 1).sum := by
  induction ss with
  | nil => cases h
  | cons a r ih =>
    rw [List.map_cons, List.sum_cons]
    rcases List.mem_cons.1 h with rfl | h
    · omega
    · have := ih h; omega

end Go.Proofs.YtldlkoncndlbhaaDoor.Rd

/- How long a tree's text is at most: each value's own part, once. -/
namespace Go.Proofs.YtldlkoncndlbhaaDoor.Pure
open Go.RowKit Go.Proofs.YtldlkoncndlbhaaDoor.Utf Go.Proofs.YtldlkoncndlbhaaDoor.Pl Go.Proofs.YtldlkoncndlbhaaDoor.Tx Go.Proofs.YtldlkoncndlbhaaDoor.PSh Go.Proofs.YtldlkoncndlbhaaDoorW.PrintWords Go.Proofs.YtldlkoncndlbhaaDoorW.PrintLast Go.Proofs.YtldlkoncndlbhaaDoorW.PrintMore
set_option linter.unusedSimpArgs false
set_option linter.unusedVariables false

theorem joined_congr (g h : Nat → List UInt8) : ∀ n, (∀ i, i < n → g i = h i) → joined g n = joined h n
  | 0, _ => rfl
  | n + 1, e => by rw [joined, joined, joined_congr g h n (fun i hi => e i (by omega)), e n (by omega)]
/-- A place's text, whatever the rounds. -/
theorem txt_stable (l : List S39) (ht : Tree l) : ∀ (f g : Nat) (a : Int), 0 ≤ a → a < l.length → a.toNat < f → a.toNat < g → txt l f a = txt l g a := by
  intro f
  induction f with
  | zero => intro g a h0 h1 h2; omega
  | succ f ih =>
    intro g a h0 h1 h2 h3
    obtain ⟨g, rfl⟩ : ∃ m, g = m + 1 := ⟨g - 1, by omega⟩
    obtain ⟨hp, hk⟩ := ht a h0 h1
    rw [txt_succ, txt_succ]
    have e : ∀ i : Nat, i < (rd_T39 l a).f5.length → txt l f (rd (rd_T39 l a).f5 (i : Int)) = txt l g (rd (rd_T39 l a).f5 (i : Int)) := fun i hi => by
      obtain ⟨k0, k1⟩ := hk i hi
      exact ih g _ k0 (by omega) (by omega) (by omega)
    rcases plain_kind hp with k | k | k | k | k | k
    · rw [txtOf_1 _ _ k, txtOf_1 _ _ k]
    · rw [txtOf_2 _ _ k, txtOf_2 _ _ k]
    · rw [txtOf_3 _ _ k.1, txtOf_3 _ _ k.1]
    · rw [txtOf_4 _ _ k, txtOf_4 _ _ k]
    · rw [txtOf_5 _ _ k, txtOf_5 _ _ k, joined_congr _ _ _ e]
    · rw [txtOf_6 _ _ k.1, txtOf_6 _ _ k.1, joined_congr _ _ _ (fun i hi => by rw [e i hi])]

/-- A sum over the places below. -/
def sumN (g : Nat → Nat) : Nat → Nat
  | 0 => 0
  | n + 1 => sumN g n + g n
theorem sumN_le (g h : Nat → Nat) : ∀ n, (∀ i, i < n → g i ≤ h i) → sumN g n ≤ sumN h n
  | 0, _ => Nat.le_refl _
  | n + 1, e => by have := sumN_le g h n (fun i hi => e i (by omega)); have := e n (by omega); rw [sumN, sumN]; omega
theorem sumN_congr (g h : Nat → Nat) : ∀ n, (∀ i, i < n → g i = h i) → sumN g n = sumN h n
  | 0, _ => rfl
  | n + 1, e => by rw [sumN, sumN, sumN_congr g h n (fun i hi => e i (by omega)), e n (by omega)]
theorem sumN_add (g h : Nat → Nat) : ∀ n, sumN (fun i => g i + h i) n = sumN g n + sumN h n
  | 0 => rfl
  | n + 1 => by rw [sumN, sumN, sumN, sumN_add g h n]; omega
theorem joined_len (g : Nat → List UInt8) : ∀ n, (joined g n).length ≤ sumN (fun i => (g i).length + 1) n
  | 0 => Nat.le_refl _
  | n + 1 => by
    have := joined_len g n
    rw [joined, sumN, List.length_append, List.length_append]
    split <;> simp <;> omega
/-- What is not yet a kid, below place i. -/
def openSum (cost : Nat → Nat) (fl : List Bool) (i : Nat) : Nat := sumN (fun j => if rdOf false fl (j : Int) = true then 0 else cost j) i
theorem openSum_set (cost : Nat → Nat) (fl : List Bool) (k : Nat) (hk : k < fl.length) (hf : rdOf false fl (k : Int) = false) : ∀ i, k < i → openSum cost (fl.set k true) i + cost k = openSum cost fl i := by
  intro i
  unfold openSum
  induction i with
  | zero => intro h; omega
  | succ i ih =>
    intro h
    rw [sumN, sumN]
    by_cases e : k = i
    · subst e
      have h1 : sumN (fun j => if rdOf false (fl.set k true) (j : Int) = true then 0 else cost j) k = sumN (fun j => if rdOf false fl (j : Int) = true then 0 else cost j) k :=
        sumN_congr _ _ _ fun j hj => by
          have e := rdF_set fl k j true hk
          rw [if_neg (by omega)] at e
          rw [e]
      have e2 := rdF_set fl k k true hk
      rw [if_pos rfl] at e2
      rw [h1, e2, hf]
      simp
    · have := ih (by omega)
      have e2 := rdF_set fl k i true hk
      rw [if_neg e] at e2
      rw [e2]
      omega
/-- The kids' costs are taken out of what is open. -/
theorem kids_sum (cost : Nat → Nat) (dp : List Int) (i : Nat) : ∀ (kids : List Int) (fl fl' : List Bool) (m m' : Int), kidsGo dp i fl kids m = some (fl', m') → i ≤ fl.length →
    fl'.length = fl.length ∧ openSum cost fl' i + (kids.map fun k => cost k.toNat).sum = openSum cost fl i ∧ ∀ j : Nat, i ≤ j → rdOf false fl' (j : Int) = rdOf false fl (j : Int)
  | [], fl, fl', m, m', h, hi => by
    cases h
    exact ⟨rfl, by simp, fun _ _ => rfl⟩
  | k :: r, fl, fl', m, m', h, hi => by
    rw [kidsGo] at h
    split at h
    · rename_i hc
      obtain ⟨h0, h1, h2⟩ := hc
      have hk : k.toNat < i := by omega
      have e : ((k.toNat : Nat) : Int) = k := Int.toNat_of_nonneg h0
      obtain ⟨g1, g2, g3⟩ := kids_sum cost dp i r _ fl' _ m' h (by rw [List.length_set]; exact hi)
      have hs := openSum_set cost fl k.toNat (by omega) (by rw [e]; exact h2) i hk
      refine ⟨by rw [g1, List.length_set], ?_, fun j hj => ?_⟩
      · rw [List.map_cons, List.sum_cons]
        omega
      · have e2 := rdF_set fl k.toNat j true (by omega)
        rw [if_neg (by omega)] at e2
        rw [g3 j hj, e2]
    · cases h

theorem inner_len : ∀ (n : Nat) (l : List UInt8), l.length ≤ n → (inner l).length ≤ 6 * l.length
  | 0, l, h => by
    obtain rfl : l = [] := List.eq_nil_of_length_eq_zero (by omega)
    rw [Qu.inner_nil]
    exact Nat.le_refl _
  | n + 1, l, h => by
    by_cases hne : l = []
    · subst hne
      rw [Qu.inner_nil]
      exact Nat.le_refl _
    · have hp := Qu.piece_le l
      have hw := wid_le l
      have h0 := adv_pos l
      have hl : 0 < l.length := List.length_pos_iff.2 hne
      have ha : adv l ≤ l.length := by unfold adv; split <;> omega
      have hi := inner_len n (l.drop (adv l)) (by rw [List.length_drop]; omega)
      rw [List.length_drop] at hi
      rw [Qu.inner_step l hne, List.length_append]
      omega
theorem quotes_len (s : ByteArray) : (inQuotes s.data.toList).length ≤ 6 * s.size + 2 := by
  have := inner_len _ s.data.toList (Nat.le_refl _)
  rw [data_length] at this
  unfold inQuotes
  simp only [List.length_append, List.length_cons, List.length_nil]
  omega
theorem digits_len : ∀ (k u : Nat), u < 10 ^ (k + 1) → (Lib.decDigits u).length ≤ k + 1
  | 0, u, h => by
    unfold Lib.decDigits
    rw [dif_pos (by omega)]
    exact Nat.le_refl _
  | k + 1, u, h => by
    unfold Lib.decDigits
    split
    · simp
    · have := digits_len k (u / 10) (by rw [Nat.pow_succ] at h; omega)
      rw [List.length_append, List.length_singleton]
      omega
theorem itoa_len (n : Int) (h0 : -4611686018427387903 ≤ n) (h1 : n ≤ 4611686018427387903) : (Lib.itoa n).length ≤ 20 := by
  unfold Lib.itoa
  split
  · have := digits_len 18 n.natAbs (by omega)
    rw [List.length_cons]
    omega
  · have := digits_len 18 n.toNat (by omega)
    omega
/-- A value's own part of the text, at most. -/
def ownLen (x : S39) : Nat := 32 + 6 * x.f3.size + sumN (fun i => 6 * (rdOf ByteArray.empty x.f4 (i : Int)).size + 3) x.f4.length + x.f5.length
theorem sum_kids (c : Int → Nat) (xs : List Int) : ∀ m, m ≤ xs.length → sumN (fun i => c (rd xs (i : Int))) m = ((xs.take m).map c).sum
  | 0, _ => by rw [List.take_zero]; rfl
  | m + 1, h => by
    rw [sumN, sum_kids c xs m (by omega), List.take_succ_eq_append_getElem (by omega), List.map_append, List.sum_append, rd_nat xs m (by omega)]
    simp
theorem txtOf_len (g : Int → List UInt8) (x : S39) (hp : plainOf x = true) : (txtOf g x).length ≤ ownLen x + (x.f5.map fun k => (g k).length).sum := by
  have hs := sum_kids (fun k => (g k).length) x.f5 x.f5.length (Nat.le_refl _)
  rw [List.take_length] at hs
  unfold ownLen
  rcases plain_kind hp with k | k | k | k | k | k
  · rw [txtOf_1 _ _ k]; simp; omega
  · rw [txtOf_2 _ _ k]; split <;> simp <;> omega
  · rw [txtOf_3 _ _ k.1]; have := itoa_len x.f2 k.2.1 k.2.2; omega
  · rw [txtOf_4 _ _ k]; have := quotes_len x.f3; omega
  · rw [txtOf_5 _ _ k]
    have h1 := joined_len (fun i : Nat => g (rd x.f5 (i : Int))) x.f5.length
    have h2 : sumN (fun i => (g (rd x.f5 (i : Int))).length + 1) x.f5.length = sumN (fun i => (g (rd x.f5 (i : Int))).length) x.f5.length + sumN (fun _ => 1) x.f5.length := sumN_add _ _ _
    have h3 : sumN (fun _ => 1) x.f5.length = x.f5.length := by
      generalize x.f5.length = n
      induction n with
      | zero => rfl
      | succ n ih => rw [sumN, ih]
    simp only [List.length_append, List.length_cons, List.length_nil]
    omega
  · rw [txtOf_6 _ _ k.1]
    have h1 := joined_len (fun i : Nat => inQuotes (rdOf ByteArray.empty x.f4 (i : Int)).data.toList ++ [58] ++ g (rd x.f5 (i : Int))) x.f5.length
    have h2 := sumN_le (fun i => (inQuotes (rdOf ByteArray.empty x.f4 (i : Int)).data.toList ++ [58] ++ g (rd x.f5 (i : Int))).length + 1) (fun i => (6 * (rdOf ByteArray.empty x.f4 (i : Int)).size + 3) + ((g (rd x.f5 (i : Int))).length + 1)) x.f5.length (fun i _ => by
      have := quotes_len (rdOf ByteArray.empty x.f4 (i : Int))
      simp only [List.length_append, List.length_cons, List.length_nil]
      omega)
    have h3 := sumN_add (fun i => 6 * (rdOf ByteArray.empty x.f4 (i : Int)).size + 3) (fun i => (g (rd x.f5 (i : Int))).length + 1) x.f5.length
    have h4 : sumN (fun i => (g (rd x.f5 (i : Int))).length + 1) x.f5.length = sumN (fun i => (g (rd x.f5 (i : Int))).length) x.f5.length + sumN (fun _ => 1) x.f5.length := sumN_add _ _ _
    have h5 : sumN (fun _ => 1) x.f5.length = x.f5.length := by
      generalize x.f5.length = n
      induction n with
      | zero => rfl
      | succ n ih => rw [sumN, ih]
    rw [k.2]
    simp only [List.length_append, List.length_cons, List.length_nil] at h1 h2 h3 ⊢
    omega

theorem kids_in (dp : List Int) (i : Nat) : ∀ (kids : List Int) (fl fl' : List Bool) (m m' : Int), kidsGo dp i fl kids m = some (fl', m') → ∀ x ∈ kids, 0 ≤ x ∧ x < i
  | [], _, _, _, _, _, _, hx => by cases hx
  | k :: r, fl, fl', m, m', h, x, hx => by
    rw [kidsGo] at h
    split at h
    · rename_i hc
      rcases List.mem_cons.1 hx with rfl | hx
      · exact ⟨hc.1, hc.2.1⟩
      · exact kids_in dp i r _ fl' _ m' h x hx
    · cases h
theorem nodes_succ (l : List S39) (d i : Nat) (fl : List Bool) (dp : List Int) (z : List Bool × List Int) (h : nodesGo l (d + 1) i fl dp = some z) :
    plainOf (rd_T39 l (i : Int)) = true ∧ ∃ fl' m, kidsGo dp i fl (rd_T39 l (i : Int)).f5 0 = some (fl', m) ∧ nodesGo l d (i + 1) fl' (dp.set i (if 5 ≤ (rd_T39 l (i : Int)).f0 then m + 1 else m)) = some z := by
  rw [nodesGo] at h
  by_cases hp : plainOf (rd_T39 l (i : Int)) = true
  · rw [if_pos hp] at h
    refine ⟨hp, ?_⟩
    cases hk : kidsGo dp i fl (rd_T39 l (i : Int)).f5 0 with
    | none => rw [hk] at h; cases h
    | some p => rw [hk] at h; exact ⟨p.1, p.2, rfl, h⟩
  · rw [if_neg hp] at h
    cases h
theorem nodes_tree (l : List S39) : ∀ (d i : Nat) (fl : List Bool) (dp : List Int) (z : List Bool × List Int), nodesGo l d i fl dp = some z → ∀ a : Nat, i ≤ a → a < i + d →
    plainOf (rd_T39 l (a : Int)) = true ∧ ∀ x ∈ (rd_T39 l (a : Int)).f5, 0 ≤ x ∧ x < a
  | 0, i, fl, dp, z, h, a, h0, h1 => by omega
  | d + 1, i, fl, dp, z, h, a, h0, h1 => by
    obtain ⟨hp, fl', m, hk, hn⟩ := nodes_succ l d i fl dp z h
    by_cases e : a = i
    · subst e
      exact ⟨hp, kids_in dp a _ fl fl' 0 m hk⟩
    · exact nodes_tree l d (i + 1) fl' _ z hn a (by omega) (by omega)
theorem check_nodes (l : List S39) (h : checkOf l = 0) : 0 < l.length ∧ l.length ≤ 8192 ∧ ∃ z, nodesGo l l.length 0 (List.replicate l.length false) (List.replicate l.length 0) = some z := by
  unfold checkOf at h
  by_cases h0 : l.length = 0
  · rw [if_pos h0] at h; cases h
  rw [if_neg h0] at h
  by_cases h1 : 8192 < l.length
  · rw [if_pos h1] at h; cases h
  rw [if_neg h1] at h
  cases hn : nodesGo l l.length 0 (List.replicate l.length false) (List.replicate l.length 0) with
  | none => rw [hn] at h; cases h
  | some z => exact ⟨by omega, by omega, z, rfl⟩
theorem check_tree (l : List S39) (h : checkOf l = 0) : Tree l := by
  obtain ⟨_, _, z, hn⟩ := check_nodes l h
  intro a h0 h1
  have e : ((a.toNat : Nat) : Int) = a := Int.toNat_of_nonneg h0
  obtain ⟨h2, h3⟩ := nodes_tree l _ _ _ _ z hn a.toNat (Nat.zero_le _) (by omega)
  rw [e] at h2 h3
  refine ⟨h2, fun i hi => ?_⟩
  have := h3 (rd (rd_T39 l a).f5 (i : Int)) (by rw [rd_nat _ _ hi]; exact List.getElem_mem hi)
  exact ⟨this.1, by omega⟩
/-- What is open comes from the values' own parts. -/
theorem nodes_sum (l : List S39) (ht : Tree l) : ∀ (d i : Nat) (fl : List Bool) (dp : List Int) (z : List Bool × List Int), nodesGo l d i fl dp = some z → i + d = l.length → fl.length = l.length →
    openSum (fun j => (txt l l.length (j : Int)).length) fl i ≤ sumN (fun j => ownLen (rd_T39 l (j : Int))) i → (∀ j : Nat, i ≤ j → rdOf false fl (j : Int) = false) →
    openSum (fun j => (txt l l.length (j : Int)).length) z.1 l.length ≤ sumN (fun j => ownLen (rd_T39 l (j : Int))) l.length ∧ (0 < d → rdOf false z.1 ((l.length - 1 : Nat) : Int) = false)
  | 0, i, fl, dp, z, h, hi, hf, hs, ho => by
    obtain rfl : i = l.length := by omega
    cases h
    exact ⟨hs, fun e => absurd e (Nat.lt_irrefl _)⟩
  | d + 1, i, fl, dp, z, h, hi, hf, hs, ho => by
    obtain ⟨hp, fl', m, hk, hn⟩ := nodes_succ l d i fl dp z h
    obtain ⟨g1, g2, g3⟩ := kids_sum (fun j => (txt l l.length (j : Int)).length) dp i _ fl fl' 0 m hk (by omega)
    have hin := kids_in dp i _ fl fl' 0 m hk
    have hc : (txt l l.length (i : Int)).length ≤ ownLen (rd_T39 l (i : Int)) + ((rd_T39 l (i : Int)).f5.map fun k => (txt l l.length (k.toNat : Int)).length).sum := by
      rw [txt_stable l ht l.length (l.length + 1) (i : Int) (Int.natCast_nonneg _) (by omega) (by omega) (by omega), txt_succ]
      have := txtOf_len (txt l l.length) (rd_T39 l (i : Int)) hp
      have e : ((rd_T39 l (i : Int)).f5.map fun k => (txt l l.length k).length) = ((rd_T39 l (i : Int)).f5.map fun k => (txt l l.length (k.toNat : Int)).length) := List.map_congr_left fun k hk => by rw [Int.toNat_of_nonneg (hin k hk).1]
      rw [e] at this
      exact this
    have hs2 : openSum (fun j => (txt l l.length (j : Int)).length) fl' (i + 1) ≤ sumN (fun j => ownLen (rd_T39 l (j : Int))) (i + 1) := by
      unfold openSum at g2 hs ⊢
      rw [sumN, sumN]
      have e1 : (if rdOf false fl' (i : Int) = true then 0 else (txt l l.length (i : Int)).length) = (txt l l.length (i : Int)).length := by rw [g3 i (Nat.le_refl _), ho i (Nat.le_refl _), if_neg (by decide)]
      show _ + (if rdOf false fl' (i : Int) = true then 0 else (txt l l.length (i : Int)).length) ≤ _ + ownLen (rd_T39 l (i : Int))
      rw [e1]
      simp only at g2 hs hc ⊢
      omega
    have ho2 : ∀ j : Nat, i + 1 ≤ j → rdOf false fl' (j : Int) = false := fun j hj => by rw [g3 j (by omega)]; exact ho j (by omega)
    obtain ⟨r1, r2⟩ := nodes_sum l ht d (i + 1) fl' _ z hn (by omega) (by omega) hs2 ho2
    refine ⟨r1, fun _ => ?_⟩
    by_cases hd : 0 < d
    · exact r2 hd
    · obtain rfl : d = 0 := by omega
      cases hn
      rw [g3 _ (by omega)]
      exact ho _ (by omega)
theorem sumN_one (g : Nat → Nat) : ∀ n i, i < n → g i ≤ sumN g n
  | 0, _, h => by omega
  | n + 1, i, h => by
    rw [sumN]
    by_cases e : i = n
    · subst e; omega
    · have := sumN_one g n i (by omega); omega
/-- The bound. -/
theorem text_len (l : List S39) (h : checkOf l = 0) : (Wr.textOf l).length ≤ sumN (fun j => ownLen (rd_T39 l (j : Int))) l.length := by
  have ht := check_tree l h
  obtain ⟨hp, _, z, hn⟩ := check_nodes l h
  obtain ⟨r1, r2⟩ := nodes_sum l ht _ 0 _ _ z hn (by omega) List.length_replicate (Nat.le_refl _) (fun j _ => by
    unfold rdOf
    rw [Int.toNat_natCast, List.getD_eq_getElem?_getD, List.getElem?_replicate]
    split <;> rfl)
  have h1 := sumN_one (fun j => if rdOf false z.1 (j : Int) = true then 0 else (txt l l.length (j : Int)).length) l.length (l.length - 1) (by omega)
  have e1 : (if rdOf false z.1 ((l.length - 1 : Nat) : Int) = true then 0 else (txt l l.length ((l.length - 1 : Nat) : Int)).length) = (txt l l.length ((l.length - 1 : Nat) : Int)).length := by rw [r2 hp, if_neg (by decide)]
  have h2 := Nat.le_trans (Nat.le_of_eq e1.symm) h1
  unfold Wr.textOf
  rw [show (l.length : Int) - 1 = ((l.length - 1 : Nat) : Int) by omega]
  exact Nat.le_trans h2 r1

end Go.Proofs.YtldlkoncndlbhaaDoor.Pure

/- The document's 'quote', walked by hand: onto a row of bytes that the call owns. -/
set_option linter.unusedVariables false
set_option linter.unusedSimpArgs false
namespace Go.Proofs.YtldlkoncndlbhaaDoor.Rq
open Go.RowKit Go.Proofs.YtldlkoncndlbhaaDoor.Utf Go.Lib Go.Proofs.YtldlkoncndlbhaaDoorW.PrintWords Go.Proofs.YtldlkoncndlbhaaDoorW.PrintLast Go.Proofs.YtldlkoncndlbhaaDoorW.PrintMore

theorem infoByte : (Tryd.prog.info? 5).map (fun i => (i.zero, i.size, i.bytes)) = some (some (.int .u8 0), 1, 1) := by kernel_rfl
/-- A row of bytes of the call's own; nothing below has turned; of what stood in 'a' only rows of bytes have. -/
def Rw (w0 a : World) (v : Value) (out : List UInt8) (w : World) : Prop :=
  w.ownsRow w0.heap.size 5 1 v out.length (byteCells out) ∧ Below w0.heap.size w0 w ∧ OthersKept 5 none a w
section
variable {w0 a0 w w' : World} {v : Value} {out : List UInt8}
theorem Rw.lt (h : Rw w0 a0 v out w) : ∀ k, v.ownBlock = some k → w0.heap.size ≤ k ∧ k < w.heap.size := h.1.lt
theorem Rw.keep (h : Rw w0 a0 v out w) (hb : Below w.heap.size w w') : Rw w0 a0 v out w' :=
  ⟨own_move h.1 (fun k hk => hb.block k (h.lt k hk).2), h.2.1.trans (hb.mono h.2.1.size), fun k x hk h1 h2 => by
    have hw := h.2.2 k x hk h1 h2
    exact (hb.block k (Array.getElem?_eq_some_iff.1 hw).1).trans hw⟩
theorem Rw.alloc (h : Rw w0 a0 v out w) (o : Obj) : Rw w0 a0 v out (w.alloc o) := h.keep (below_alloc (Below.refl _ _) o)
theorem Rw.draw (h : Rw w0 a0 v out w) (n : Nat) : Rw w0 a0 v out (w.drewN n) := h.keep (pw_below_drewN (Below.refl _ _) n)
theorem Rw.lift {a1 : World} (h : Rw w0 a1 v out w) (hk : OthersKept 5 none a0 a1) : Rw w0 a0 v out w := ⟨h.1, h.2.1, hk.trans h.2.2⟩
theorem Rw.here (h : Rw w0 a0 v out w) : Rw w0 w v out w := ⟨h.1, h.2.1, OthersKept.refl _ _ _⟩
theorem Rw.nil (w0 : World) : Rw w0 w0 (.slice none 0 0) [] w0 := ⟨World.ownsRow_nil _ _ _ _, Below.refl _ _, OthersKept.refl _ _ _⟩
theorem own_kind (h : w.ownsRow w0.heap.size 5 1 v out.length (byteCells out)) : ∀ g, v.ownBlock = some g → ∃ c fz, w.heap[g]? = some (.cells c 5 fz) := fun g hg => by
  rcases h.2 with ⟨rfl, _⟩ | ⟨g', cap, cur, rfl, _, hh, _⟩
  · simp [Value.ownBlock] at hg
  · simp [Value.ownBlock] at hg
    subst hg
    exact ⟨_, _, hh⟩
theorem byteCells_append (a b : List UInt8) : byteCells (a ++ b) = byteCells a ++ byteCells b := by unfold byteCells; exact List.map_append
theorem byteCells_length (a : List UInt8) : (byteCells a).length = a.length := List.length_map _
section
variable {ops : Array Oper} {rest : List Oper} {o : Oper} {a : Act} {Q : Exit → Act → World → Prop} {K : Act → World → Prop}
/-- append(out, bytes...). -/
theorem app_law (hgd : o.guard = none) (s x : Operand) (ho : o.op = .call { callee := .builtin .append, args := #[s, x], argTypes := #[30, 30] })
    (hR : Rw w0 a0 v out w) (t : List UInt8) (ad : Addr) (m c : Nat) (hm : t.length = m) (hs : a.eval s = v) (hx : a.eval x = .slice (some ad) m c)
    (hcell : ∀ j u, (byteCells t)[j]? = some u → w.cell? (ad.add j) = some u) (hlen : out.length + m ≤ 140737488355328)
    (h : ∀ v1 w1, Rw w0 a0 v1 (out ++ t) w1 → w.grownBy w1 v.ownBlock → (v1.ownBlock = v.ownBlock ∨ v1.ownBlock = some w.heap.size) → wpList Tryd.prog ops Q rest (a.put o.dst v1) w1) :
    wpList Tryd.prog ops Q (o :: rest) a w := by
  subst hm
  obtain ⟨i0, hi, hz0, hz1, hz2⟩ := info_parts infoByte
  refine wpList_append_own_at w hgd s x 30 ho w0.heap.size 5 i0 (.int .u8 0) 1 1 Tryd.underlying30 hi hz0 hz1 hz2 rfl (by decide) v out.length (byteCells out) hs hR.1 ad t.length c (byteCells t) hx (by rw [byteCells_length, Nat.mul_one]) hcell (byteCells_one t) (by unfold maxLen; omega) (by omega) hR.2.1.size ?_
  intro v1 w1 hown hg _ hat
  exact h v1 w1 ⟨by rw [List.length_append, byteCells_append]; exact hown, hR.2.1.grown hg hR.2.1.size (fun k hk => (hR.lt k hk).1), hR.2.2.grown hg (own_kind hR.1)⟩ hg hat
theorem app_step (hgd : o.guard = none) (s x : Operand) (ho : o.op = .call { callee := .builtin .append, args := #[s, x], argTypes := #[30, 30] })
    (hR : Rw w0 a0 v out w) (t : List UInt8) (ad : Addr) (m c : Nat) (hm : t.length = m) (hs : a.eval s = v) (hx : a.eval x = .slice (some ad) m c)
    (hcell : ∀ j u, (byteCells t)[j]? = some u → w.cell? (ad.add j) = some u) (hlen : out.length + m ≤ 140737488355328)
    (h : ∀ v1 w1, Rw w0 a0 v1 (out ++ t) w1 → w.grownBy w1 v.ownBlock → (v1.ownBlock = v.ownBlock ∨ v1.ownBlock = some w.heap.size) → K (a.put o.dst v1) w1) :
    if Region.wanted o (yielded ops a.tmps) = true then Oper.wp Tryd.prog o a w K Q else K (a.put o.dst undef) w := by
  subst hm
  have hw : Region.wanted o (yielded ops a.tmps) = true := by simp [Region.wanted, hgd]
  rw [if_pos hw]
  obtain ⟨i0, hi, hz0, hz1, hz2⟩ := info_parts infoByte
  obtain ⟨v1, w1, hr, hown, hg, h4, hat⟩ := run_append_own_at (P := Tryd.prog) w w0.heap.size 30 o.type 5 i0 (.int .u8 0) 1 1 Tryd.underlying30 hi hz0 hz1 hz2 rfl (by decide) v out.length (byteCells out) hR.1 ad t.length c (byteCells t) (by rw [byteCells_length, Nat.mul_one]) hcell (byteCells_one t) (by unfold maxLen; omega) (by omega) hR.2.1.size
  unfold Oper.wp execOp
  simp only [ho, resolve, invoke, builtin, Sem.run_bind, Sem.run_pure, Result.andThen_ok, List.map_toArray, List.map_cons, List.map_nil, hs, hx, hr]
  exact h v1 w1 ⟨by rw [List.length_append, byteCells_append]; exact hown, hR.2.1.grown hg hR.2.1.size (fun k hk => (hR.lt k hk).1), hR.2.2.grown hg (own_kind hR.1)⟩ hg hat
/-- append(out, text...). -/
theorem str_law (hgd : o.guard = none) (s x : Operand) (ho : o.op = .call { callee := .builtin .append, args := #[s, x], argTypes := #[30, 9] })
    (hR : Rw w0 a0 v out w) (t : ByteArray) (hs : a.eval s = v) (hx : a.eval x = .string t) (hlen : out.length + t.data.toList.length ≤ 140737488355328)
    (h : ∀ v1 w1, Rw w0 a0 v1 (out ++ t.data.toList) w1 → wpList Tryd.prog ops Q rest (a.put o.dst v1) w1) :
    wpList Tryd.prog ops Q (o :: rest) a w := by
  have hl : t.data.toList.length = t.size := data_length t
  obtain ⟨i0, hi, hz0, hz1, hz2⟩ := info_parts infoByte
  refine wpList_append_own_string w hgd s x 30 9 ho w0.heap.size 5 i0 Tryd.underlying30 Tryd.underlying9 hi hz0 hz1 hz2 v out.length (byteCells out) hs hR.1 t hx (by unfold maxLen; omega) (by omega) hR.2.1.size ?_
  intro v1 w1 hown hg _
  exact h v1 w1 ⟨by rw [List.length_append, byteCells_append, hl]; exact hown, hR.2.1.grown hg hR.2.1.size (fun k hk => (hR.lt k hk).1), hR.2.2.grown hg (own_kind hR.1)⟩
end
/-- Cells of a block that has just been made. -/
theorem lit_cells (W : World) (t : List UInt8) (cs : Array Value) (hc : cs.toList = byteCells t) : ∀ j u, (byteCells t)[j]? = some u → (W.alloc (.cells cs 5)).cell? ((⟨W.heap.size, 0, none⟩ : Addr).add j) = some u := fun j u hu => by
  have hadd : (⟨W.heap.size, 0, none⟩ : Addr).add j = ⟨W.heap.size, j, none⟩ := by unfold Addr.add; split <;> simp_all
  rw [hadd, cell_of_row _ W.heap.size j cs 5 (0, 0) (heap_alloc_new W _), ← hu, ← hc]
  simp
end

/-- The text's bytes lie there, apart from the row. -/
def Lies (s : ByteArray) (g : Nat) (v : Value) (w : World) : Prop :=
  g < w.heap.size ∧ (∀ j, j < s.size → w.cell? ⟨g, j, none⟩ = some (.int .u8 ((s.data.toList.getD j 0).toNat : Int))) ∧ v.ownBlock ≠ some g
section
variable {w0 a0 w w' : World} {v v1 : Value} {out : List UInt8} {s : ByteArray} {g : Nat}
theorem Lies.keep (h : Lies s g v w) (hb : Below w.heap.size w w') : Lies s g v w' :=
  ⟨Nat.lt_of_lt_of_le h.1 hb.size, fun j hj => (hb.cell (p := ⟨g, j, none⟩) h.1).trans (h.2.1 j hj), h.2.2⟩
theorem Lies.alloc (h : Lies s g v w) (o : Obj) : Lies s g v (w.alloc o) := h.keep (below_alloc (Below.refl _ _) o)
theorem Lies.grown (h : Lies s g v w) (hg : w.grownBy w' v.ownBlock) (hat : v1.ownBlock = v.ownBlock ∨ v1.ownBlock = some w.heap.size) : Lies s g v1 w' :=
  ⟨Nat.lt_of_lt_of_le h.1 hg.size, fun j hj => (World.cell?_of_block (hg.block g h.1 (fun e => h.2.2 e.symm))).trans (h.2.1 j hj), fun e => by
    rcases hat with h1 | h1
    · exact h.2.2 (h1.symm.trans e)
    · have := h.1
      rw [h1] at e
      injection e with e
      omega⟩
theorem Lies.made (w : World) (s : ByteArray) (hv : ∀ k, v.ownBlock = some k → k < w.heap.size) : Lies s w.heap.size v (bytesWorld w 5 s) :=
  ⟨by rw [bytesWorld_size]; omega, fun j hj => by
    rw [bytesWorld_cell w 5 s j hj], fun e => by have := hv _ e; omega⟩
theorem Lies.at_ (h : Lies s g v w) (k : Nat) (hk : k < s.size) : w.cell? ⟨g, k, none⟩ = some (.int .u8 (((s.data.toList.drop k).headD 0).toNat : Int)) := by
  rw [h.2.1 k hk, List.getD_eq_getElem?_getD, List.headD_eq_head?_getD, List.head?_drop]
theorem Lies.cells (h : Lies s g v w) (k n : Nat) (hk : k + n ≤ s.size) : ∀ j u, (byteCells ((s.data.toList.drop k).take n))[j]? = some u → w.cell? ((⟨g, k, none⟩ : Addr).add j) = some u := fun j u hu => by
  have hadd : (⟨g, k, none⟩ : Addr).add j = ⟨g, k + j, none⟩ := by unfold Addr.add; split <;> simp_all
  unfold byteCells at hu
  rw [List.getElem?_map, List.getElem?_take] at hu
  split at hu
  · rename_i hj
    rw [List.getElem?_drop] at hu
    have hj2 : k + j < s.data.toList.length := by rw [data_length]; omega
    rw [List.getElem?_eq_getElem hj2] at hu
    cases hu
    rw [hadd, h.2.1 (k + j) (by omega), List.getD_eq_getElem?_getD, List.getElem?_eq_getElem hj2]
    rfl
  · cases hu
theorem Lies.reads (h : Lies s g v w) (k : Nat) (hk : k ≤ s.size) (hs : s.size ≤ 140737488351232) :
    Kd.C (Kd.int .u8) w (some ⟨g, k, none⟩) (s.data.toList.drop k).length ((s.data.toList.drop k).map fun b => (b.toNat : Int)) := by
  refine Kd.C_of_reads (d := (0 : Int)) (h1 := fun _ => rfl) ?_
  refine ⟨by rw [List.length_map], by rw [List.length_drop, data_length]; omega, fun _ => ⟨_, rfl, fun j hj => ?_⟩⟩
  rw [List.length_drop, data_length] at hj
  have ha : (⟨g, k, none⟩ : Addr).add j = ⟨g, k + j, none⟩ := by unfold Addr.add; split <;> simp_all
  have hj2 : k + j < s.data.toList.length := by rw [data_length]; omega
  rw [ha, h.2.1 (k + j) (by omega), List.getD_eq_getElem?_getD, List.getD_eq_getElem?_getD, List.getElem?_map, List.getElem?_drop, List.getElem?_eq_getElem hj2]
  rfl
/-- The document's 'Rune' at a tail of it. -/
theorem Lies.rune (h : Lies s g v w) (hG : Glob w) (k cp r : Nat) (hk : k < s.size) (hs : s.size ≤ 140737488351232) (hc : s.size ≤ cp) (hr : wid (s.data.toList.drop k) = r) :
    Calls Tryd.prog 36 #[.slice (some ⟨g, k, none⟩) (s.size - k) (cp - k)] w fun e w' => e = .returned (.int .i64 r) ∧ Below w.heap.size w w' := by
  have hlen : (s.data.toList.drop k).length = s.size - k := by rw [List.length_drop, data_length]
  have hne : s.data.toList.drop k ≠ [] := fun e => by
    have := congrArg List.length e
    rw [hlen] at this
    simp at this
    omega
  have hf := rune_tells (s.data.toList.drop k) hne (by omega)
  rw [hr] at hf
  have hT := h.reads k (by omega) hs
  have hl2 : ((s.data.toList.drop k).map fun b => (b.toNat : Int)).length = s.size - k := by rw [List.length_map, hlen]
  have hcall := PRa.haulierref02_Rune.calls 10 (some ⟨g, k, none⟩) (cp - k) ((s.data.toList.drop k).map fun b => (b.toNat : Int)) (r : Int) w ⟨hG⟩ (by rw [List.length_map]; exact hT) (by rw [hl2]; omega) hf
  rw [hl2] at hcall
  refine hcall.mono ?_
  rintro e w' ⟨he, hd⟩
  obtain ⟨nd, rfl⟩ := hd.out
  exact ⟨he, pw_below_drewN (Below.refl _ _) nd⟩
end

end Go.Proofs.YtldlkoncndlbhaaDoor.Rq

/- The document's 'quote', walked by hand. -/
set_option linter.unusedVariables false
set_option linter.unusedSimpArgs false
namespace Go.Proofs.YtldlkoncndlbhaaDoor.Rq
open Go.RowKit Go.Proofs.YtldlkoncndlbhaaDoor.Utf Go.Lib Go.Proofs.YtldlkoncndlbhaaDoorW.PrintWords Go.Proofs.YtldlkoncndlbhaaDoorW.PrintLast Go.Proofs.YtldlkoncndlbhaaDoorW.PrintMore

def T15 : Bool × List (List Nat × List Nat) := (true, [([], []), ([], []), ([], []), ([2], [2]), ([1, 3], [1, 3]), ([], []), ([], []), ([6], [6]), ([5, 7], [5, 7]), ([4, 8], [4, 8]), ([0, 9], [0, 9]), ([10, 10, 0, 1, 2, 3, 4, 5, 6, 7, 8, 9, 10], [0, 10])])
def B15 : List Nat := [0, 0, 0, 4, 14, 0, 0, 64, 224, 510, 1023, 2047]
theorem tab15 : rtab .any (opsOf Tryd.f31 15) = T15 := by kernel_rfl
theorem bits15 : waitsOk T15.2 B15 = true := by kernel_rfl
def hexPiece (c : UInt8) : List UInt8 := [92, 117, 48, 48, hexOf (c.toNat / 16), hexOf (c.toNat % 16)]
def hexCells (c : UInt8) : Array Value := #[.int .u8 92, .int .u8 117, .int .u8 48, .int .u8 48, .int .u8 ((hexOf (c.toNat / 16)).toNat : Int), .int .u8 ((hexOf (c.toNat % 16)).toNat : Int)]

theorem hexW (x : Int) (n : Nat) (e : x = n) (h : x.toNat < (⟨#[48, 49, 50, 51, 52, 53, 54, 55, 56, 57, 97, 98, 99, 100, 101, 102]⟩ : ByteArray).size) : ((⟨#[48, 49, 50, 51, 52, 53, 54, 55, 56, 57, 97, 98, 99, 100, 101, 102]⟩ : ByteArray)[x.toNat]'h) = hexOf n := by
  subst e
  exact Qu.hexAt n h
/-- What is so in each round. -/
def At (w0 a0 : World) (s : ByteArray) (g : Nat) (v : Value) (out : List UInt8) (w : World) : Prop := Rw w0 a0 v out w ∧ Lies s g v w
theorem rel_step {w0 a0 wr : World} {k g : Nat} {s : ByteArray} {v : Value} {out0 P l : List UInt8} (hl : s.data.toList.drop k = l) (hk : k < s.size)
    (hin : Aside0 (P ++ inner l = inner s.data.toList)) (hR : Rw w0 a0 v (out0 ++ [34] ++ P ++ piece l) wr) (hL : Lies s g v wr) :
    ∃ (k2 : Nat) (P2 : List UInt8), k2 = k + adv l ∧ k2 ≤ s.size ∧ Rw w0 a0 v (out0 ++ [34] ++ P2) wr ∧ Lies s g v wr ∧ Aside0 (P2 ++ inner (s.data.toList.drop k2) = inner s.data.toList) := by
  have h2 := wid_le l
  have hlen : l.length = s.size - k := by rw [← hl, List.length_drop, data_length]
  have hne : l ≠ [] := fun e => by rw [e] at hlen; simp at hlen; omega
  refine ⟨k + adv l, P ++ piece l, rfl, ?_, by rw [← List.append_assoc]; exact hR, hL, ⟨?_⟩⟩
  · unfold adv
    split <;> omega
  · rw [List.append_assoc, ← List.drop_drop, hl, ← Qu.inner_step l hne]
    exact hin.out
theorem piece_bad {l : List UInt8} (h : wid l = 0) : piece l = [239, 191, 189] := by unfold piece; rw [if_pos h]
theorem piece_mk {c : UInt8} {l : List UInt8} (h : wid l ≠ 0) (hc : l.headD 0 = c) (hne : l ≠ []) (hm : c = 34 ∨ c = 92) : piece l = [92, c] := by
  unfold piece
  rw [if_neg h, if_pos, hc]
  cases l with
  | nil => exact absurd rfl hne
  | cons a r => exact hm.elim (fun e => .inl (by rw [List.head?_cons, ← e, ← hc]; rfl)) (fun e => .inr (by rw [List.head?_cons, ← e, ← hc]; rfl))
theorem not_mk {c : UInt8} {l : List UInt8} (hc : l.headD 0 = c) (hm : ¬ (c = 34 ∨ c = 92)) : ¬ (l.head? = some 34 ∨ l.head? = some 92) := fun e => hm (by
  rw [List.headD_eq_head?_getD] at hc
  exact e.elim (fun e => .inl (by rw [← hc, e]; rfl)) (fun e => .inr (by rw [← hc, e]; rfl)))
theorem piece_hex {c : UInt8} {l : List UInt8} (h : wid l ≠ 0) (hc : l.headD 0 = c) (hm : ¬ (c = 34 ∨ c = 92)) (hl : c.toNat < 32) : piece l = hexPiece c := by
  unfold piece hexPiece
  rw [if_neg h, if_neg (not_mk hc hm), hc, if_pos hl]
theorem piece_rest {c : UInt8} {l : List UInt8} (h : wid l ≠ 0) (hc : l.headD 0 = c) (hm : ¬ (c = 34 ∨ c = 92)) (hl : ¬ c.toNat < 32) : piece l = l.take (wid l) := by
  unfold piece
  rw [if_neg h, if_neg (not_mk hc hm), hc, if_neg hl]
theorem adv_bad {l : List UInt8} (h : wid l = 0) : adv l = 1 := by unfold adv; rw [if_pos h]
theorem adv_good {l : List UInt8} (h : wid l ≠ 0) : adv l = wid l := by unfold adv; rw [if_neg h]

set_option maxHeartbeats 4000000 in
set_option maxRecDepth 100000 in
theorem quote_walk (s : ByteArray) (w0 a0 w : World) (v : Value) (out : List UInt8) (hG : Glob w0) (hR : Rw w0 a0 v out w) (hm : s.size ≤ 17592186044416) (hlen : out.length + (inQuotes s.data.toList).length ≤ 140737488355328) :
    Calls Tryd.prog 31 #[v, .string s] w fun e w' => ∃ v', e = .returned v' ∧ Rw w0 a0 v' (out ++ inQuotes s.data.toList) w' := by
  have kb := print_bytes (P := Tryd.prog) 9 30 5 Tryd.underlying9 Tryd.underlying30 Tryd.underlying5 s w
  have hl2 : out.length + ((inner s.data.toList).length + 2) ≤ 140737488355328 := by unfold inQuotes at hlen; simp only [List.length_append, List.length_cons, List.length_nil] at hlen; omega
  clear hlen
  have hRb := hR.keep (bytes_below (Below.refl w.heap.size w) (Nat.le_refl _) 5 s)
  have hLb : Lies s w.heap.size v (Lib.bytesWorld w 5 s) := Lies.made w s (fun k hk => (hR.lt k hk).2)
  have hcap := grownCap_ge w s.size 0 5
  generalize hgg : w.heap.size = g at *
  generalize grownCap w s.size 0 5 = cp at *
  generalize Lib.bytesWorld w 5 s = wb at *
  clear hR
  go_enter Tryd.func31, Tryd.ntmps31
  go_wp2_with (at_builtin; refine app_law rfl (.tmp 12) (.tmp 13) rfl (hRb.alloc _) [34] _ 1 1 rfl rfl rfl (lit_cells _ _ _ rfl) (by omega) ?_; intro v1 w1 hR1 hg1 hat1; have hL1 := (hLb.alloc _).grown hg1 hat1; clear hg1 hat1 hRb hLb)
  go_wp2
  go_loopw [0, 7] (fun o i wr => ∃ (k : Nat) (P : List UInt8), k ≤ s.size ∧ i = .int .i64 k ∧ Rw w0 a0 o (out ++ [34] ++ P) wr ∧ Lies s g o wr ∧ Aside0 (P ++ inner (s.data.toList.drop k) = inner s.data.toList)) (fun _ i _ => s.size - (RowKit.intOf i).toNat)
  case atStart => exact ⟨0, [], Nat.zero_le _, rfl, by rw [List.append_nil]; exact hR1, hL1, ⟨by rw [List.drop_zero]; rfl⟩⟩
  case round =>
    clear hR1 hL1
    obtain ⟨k, P, hk, rfl, hR1, hL1, hin⟩ := hrel
    by_cases hlt : k < s.size
    · obtain ⟨l, hl⟩ : ∃ l, s.data.toList.drop k = l := ⟨_, rfl⟩
      rw [hl] at hin
      have hll : l.length = s.size - k := by rw [← hl, List.length_drop, data_length]
      have hne : l ≠ [] := fun e => by rw [e] at hll; simp at hll; omega
      have hGr : Glob wr := hG.below hR1.2.1
      obtain ⟨r, hr⟩ : ∃ r, wid l = r := ⟨_, rfl⟩
      have hcall := hL1.rune hGr k cp r hlt (by omega) hcap (by rw [hl]; exact hr)
      have hwl := wid_le l
      have hpi := Qu.inner_step l hne
      have hlenP : P.length + (piece l).length ≤ (inner s.data.toList).length := by
        have := congrArg List.length hin.out
        rw [hpi, List.length_append, List.length_append] at this
        omega
      obtain ⟨c, hc⟩ : ∃ c, l.headD 0 = c := ⟨_, rfl⟩
      have hat : ∀ w2, Below wr.heap.size wr w2 → w2.cell? ⟨g, k, none⟩ = some (.int .u8 (c.toNat : Int)) := fun w2 hb => by
        rw [(hL1.keep hb).at_ k hlt, hl, hc]
      have hlt2 : ((k : Int) < (s.size : Int)) = True := eq_true (by omega)
      have hpp : (out ++ [34] ++ P).length = out.length + 1 + P.length := by simp only [List.length_append, List.length_cons, List.length_nil]
      have hcl := c.toNat_lt
      by_cases h0 : r = 0
      · have hw0 : wid l = 0 := hr.trans h0
        have hpc := Aside0.mk (piece_bad hw0)
        have hadv := Aside0.mk (adv_bad hw0)
        have hpl : (piece l).length = 3 := by rw [hpc.out]; rfl
        have HN := Aside0.mk hne
        clear hne hpi hw0 hwl hll
        subst h0
        go_wp2_with (first
          | (go_at_call 36; refine hcall.mono ?_; rintro e wr2 ⟨rfl, hb2⟩; have hx := hat wr2 hb2; have hR2 := hR1.keep hb2; have hL2 := hL1.keep hb2; clear hR1 hL1)
          | (at_builtin; refine app_law rfl (.tmp 38) (.tmp 39) rfl (hR2.alloc _) [239, 191, 189] _ 3 3 rfl rfl rfl (lit_cells _ _ _ rfl) (by omega) ?_; intro v3 w3 hR3 hg3 hat3; have hL3 := (hL2.alloc _).grown hg3 hat3; clear hg3 hat3 hR2 hL2))
        go_roundw
        case rel =>
          obtain ⟨k2, P2, hk2, h1, h2, h3, h4⟩ := rel_step hl hlt hin (v := v3) (by rw [hpc.out]; exact hR3) hL3
          exact ⟨k2, P2, h1, by rw [hk2, hadv.out]; go_num, h2, h3, h4⟩
        case measure => simp [RowKit.intOf]; omega
      · have hw0 : wid l ≠ 0 := fun e => h0 (hr.symm.trans e)
        have hadv := Aside0.mk ((adv_good hw0).trans hr)
        have e0 : ((r : Int) == 0) = false := by rw [beq_eq_false_iff_ne]; omega
        have hrl : r ≤ s.size - k := by omega
        have hr0 : 0 < r := by omega
        by_cases hm34 : c = 34 ∨ c = 92
        · have hpc := Aside0.mk (piece_mk hw0 hc hne hm34)
          have hpl : (piece l).length = 2 := by rw [hpc.out]; rfl
          have HN := Aside0.mk hne
          clear hne hpi hw0 hwl hll hr
          by_cases h34 : c = 34
          · have e1 : ((c.toNat : Int) == 34) = true := by rw [h34]; rfl
            clear h34 hm34
            go_wp2_with (first
              | (go_at_call 36; refine hcall.mono ?_; rintro e wr2 ⟨rfl, hb2⟩; have hx := hat wr2 hb2; have hR2 := hR1.keep hb2; have hL2 := hL1.keep hb2; clear hR1 hL1)
              | (at_builtin; refine app_law rfl (.tmp 48) (.tmp 50) rfl (hR2.alloc _) [92, c] _ 2 2 rfl rfl rfl (lit_cells _ _ _ rfl) (by omega) ?_; intro v3 w3 hR3 hg3 hat3; have hL3 := (hL2.alloc _).grown hg3 hat3; clear hg3 hat3 hR2 hL2))
            go_roundw
            case rel =>
              obtain ⟨k2, P2, hk2, h1, h2, h3, h4⟩ := rel_step hl hlt hin (v := v3) (by rw [hpc.out]; exact hR3) hL3
              exact ⟨k2, P2, h1, by rw [hk2, hadv.out]; go_num, h2, h3, h4⟩
            case measure => simp [RowKit.intOf]; omega
          · have e1 : ((c.toNat : Int) == 34) = false := by rw [beq_eq_false_iff_ne]; exact fun e => h34 (UInt8.toNat.inj (by have : ((34 : UInt8).toNat : Int) = 34 := rfl; omega))
            have e2 : ((c.toNat : Int) == 92) = true := by rw [hm34.resolve_left h34]; rfl
            clear h34 hm34
            go_wp2_with (first
              | (go_at_call 36; refine hcall.mono ?_; rintro e wr2 ⟨rfl, hb2⟩; have hx := hat wr2 hb2; have hR2 := hR1.keep hb2; have hL2 := hL1.keep hb2; clear hR1 hL1)
              | (at_builtin; refine app_law rfl (.tmp 48) (.tmp 50) rfl (hR2.alloc _) [92, c] _ 2 2 rfl rfl rfl (lit_cells _ _ _ rfl) (by omega) ?_; intro v3 w3 hR3 hg3 hat3; have hL3 := (hL2.alloc _).grown hg3 hat3; clear hg3 hat3 hR2 hL2))
            go_roundw
            case rel =>
              obtain ⟨k2, P2, hk2, h1, h2, h3, h4⟩ := rel_step hl hlt hin (v := v3) (by rw [hpc.out]; exact hR3) hL3
              exact ⟨k2, P2, h1, by rw [hk2, hadv.out]; go_num, h2, h3, h4⟩
            case measure => simp [RowKit.intOf]; omega
        · have e1 : ((c.toNat : Int) == 34) = false := by rw [beq_eq_false_iff_ne]; exact fun e => hm34 (.inl (UInt8.toNat.inj (by have : ((34 : UInt8).toNat : Int) = 34 := rfl; omega)))
          have e2 : ((c.toNat : Int) == 92) = false := by rw [beq_eq_false_iff_ne]; exact fun e => hm34 (.inr (UInt8.toNat.inj (by have : ((92 : UInt8).toNat : Int) = 92 := rfl; omega)))
          by_cases hlow : c.toNat < 32
          · have hpc := Aside0.mk (piece_hex hw0 hc hm34 hlow)
            have hpl : (piece l).length = 6 := by rw [hpc.out]; rfl
            have HN := Aside0.mk hne
            have e3 : decide ((c.toNat : Int) < 32) = true := by rw [decide_eq_true_iff]; omega
            have hq : IntKind.u8.wrap ((c.toNat : Int) / 16) = ((c.toNat / 16 : Nat) : Int) := by rw [IntWalk.u8_in _ (by omega)]; omega
            have hr2 : (c.toNat : Int).tmod 16 = ((c.toNat % 16 : Nat) : Int) := by rw [Int.tmod_eq_emod_of_nonneg (by omega)]; omega
            have HQ := Aside0.mk (And.intro hq (show IntKind.u8.wrap ((c.toNat : Int) / 16) < 16 by omega))
            have HR2 := Aside0.mk (And.intro hr2 (show 0 ≤ (c.toNat : Int).tmod 16 ∧ (c.toNat : Int).tmod 16 < 16 by rw [hr2]; omega))
            clear hq hr2
            clear hne hpi hw0 hwl hll hr hm34
            go_wp2_with (go_at_call 36; refine hcall.mono ?_; rintro e wr2 ⟨rfl, hb2⟩; have hx := hat wr2 hb2; have hR2 := hR1.keep hb2; have hL2 := hL1.keep hb2; clear hR1 hL1)
            replace hR2 := hR2.keep (below_drew (Below.refl _ _))
            replace hL2 := hL2.keep (below_drew (Below.refl _ _))
            refine start_ (n := 12) (S := fun _ => True) (ds := []) #[false, false, false, false, false, false, false, false, false, false, false, false] (by kernel_rfl) rfl rfl trivial (fun _ => ?_)
            refine with_tabW tab15 bits15 (fun HT_ HW_ => ?_)
            generalize hWd : wr2.drew = W0 at *
            refine pure_ (i := 0) (N := some 55) (v := ?_) (a' := ?_) #[true, false, false, false, false, false, false, false, false, false, false, false] rfl rfl (any_of HT_.out (by kernel_rfl)) (fun _ _ _ h => h) (Or.inl ⟨by rfl, ?_⟩) ?_ ?_
            rotate_left
            · intro w'
              go_simp
              with_reducible rfl
            rotate_left
            · simp only [Act.put, List.setIfInBounds_toArray, List.set_cons_zero, List.set_cons_succ, i64_w, i32_w]
              rfl
            refine pure_ (i := 1) (N := some 56) (v := ?_) (a' := ?_) #[true, true, false, false, false, false, false, false, false, false, false, false] rfl rfl (any_of HT_.out (by kernel_rfl)) (fun _ _ _ h => h) (Or.inl ⟨by rfl, ?_⟩) ?_ ?_
            rotate_left
            · intro w'
              go_simp
              with_reducible rfl
            rotate_left
            · simp only [Act.put, List.setIfInBounds_toArray, List.set_cons_zero, List.set_cons_succ, i64_w, i32_w]
              rfl
            refine pure_ (i := 2) (N := some 57) (v := ?_) (a' := ?_) #[true, true, true, false, false, false, false, false, false, false, false, false] rfl rfl (any_of HT_.out (by kernel_rfl)) (fun _ _ _ h => h) (Or.inl ⟨by rfl, ?_⟩) ?_ ?_
            rotate_left
            · intro w'
              go_simp
              with_reducible rfl
            rotate_left
            · simp only [Act.put, List.setIfInBounds_toArray, List.set_cons_zero, List.set_cons_succ, i64_w, i32_w]
              rfl
            refine pure_ (i := 3) (N := some 58) (v := ?_) (a' := ?_) #[true, true, true, true, false, false, false, false, false, false, false, false] rfl rfl (any_of HT_.out (by kernel_rfl)) (fun _ _ _ h => h) (Or.inl ⟨by rfl, ?_⟩) ?_ ?_
            rotate_left
            · intro w'
              go_simp
              with_reducible rfl
            rotate_left
            · simp only [Act.put, List.setIfInBounds_toArray, List.set_cons_zero, List.set_cons_succ, i64_w, i32_w]
              rfl
            refine pure_ (i := 4) (N := some 59) (v := .int .u8 ((hexOf (c.toNat / 16)).toNat : Int)) (a' := ?_) #[true, true, true, true, true, false, false, false, false, false, false, false] rfl rfl (any_of HT_.out (by kernel_rfl)) (fun _ _ _ h => h) (Or.inl ⟨by rfl, ?_⟩) ?_ ?_
            · intro w'
              go_simp
              rw [dif_pos HQ.out.2]
              exact congrArg (fun x : UInt8 => Result.ok (Next.value (.int .u8 (x.toNat : Int))) w') (hexW _ _ HQ.out.1 _)
            rotate_left
            · simp only [Act.put, List.setIfInBounds_toArray, List.set_cons_zero, List.set_cons_succ, i64_w, i32_w]
              rfl
            refine pure_ (i := 5) (N := some 60) (v := ?_) (a' := ?_) #[true, true, true, true, true, true, false, false, false, false, false, false] rfl rfl (any_of HT_.out (by kernel_rfl)) (fun _ _ _ h => h) (Or.inl ⟨by rfl, ?_⟩) ?_ ?_
            rotate_left
            · intro w'
              go_simp
              with_reducible rfl
            rotate_left
            · simp only [Act.put, List.setIfInBounds_toArray, List.set_cons_zero, List.set_cons_succ, i64_w, i32_w]
              rfl
            refine pure_ (i := 6) (N := some 61) (v := ?_) (a' := ?_) #[true, true, true, true, true, true, true, false, false, false, false, false] rfl rfl (any_of HT_.out (by kernel_rfl)) (fun _ _ _ h => h) (Or.inl ⟨by rfl, ?_⟩) ?_ ?_
            rotate_left
            · intro w'
              go_simp
              with_reducible rfl
            rotate_left
            · simp only [Act.put, List.setIfInBounds_toArray, List.set_cons_zero, List.set_cons_succ, i64_w, i32_w]
              rfl
            refine pure_ (i := 7) (N := some 62) (v := ?_) (a' := ?_) #[true, true, true, true, true, true, true, true, false, false, false, false] rfl rfl (any_of HT_.out (by kernel_rfl)) (fun _ _ _ h => h) (Or.inl ⟨by rfl, ?_⟩) ?_ ?_
            rotate_left
            · intro w'
              go_simp
              with_reducible rfl
            rotate_left
            · simp only [Act.put, List.setIfInBounds_toArray, List.set_cons_zero, List.set_cons_succ, i64_w, i32_w]
              rfl
            refine pure_ (i := 8) (N := some 63) (v := .int .u8 ((hexOf (c.toNat % 16)).toNat : Int)) (a' := ?_) #[true, true, true, true, true, true, true, true, true, false, false, false] rfl rfl (any_of HT_.out (by kernel_rfl)) (fun _ _ _ h => h) (Or.inl ⟨by rfl, ?_⟩) ?_ ?_
            · intro w'
              go_simp
              rw [dif_pos HR2.out.2]
              exact congrArg (fun x : UInt8 => Result.ok (Next.value (.int .u8 (x.toNat : Int))) w') (hexW _ _ HR2.out.1 _)
            rotate_left
            · simp only [Act.put, List.setIfInBounds_toArray, List.set_cons_zero, List.set_cons_succ, i64_w, i32_w]
              rfl
            refine one_ (i := 9) (N := some 64) #[true, true, true, true, true, true, true, true, true, true, false, false] rfl rfl (one_of HT_.out (by kernel_rfl)) (by decide) (fun K hK => ?_)
            refine value_ (v := .slice (some ⟨W0.heap.size, 0, none⟩) 6 6) (w1 := W0.alloc (.cells (hexCells c) 5)) (by rfl) rfl (by first | (go_simp; done) | (go_simp; rfl)) ?_
            refine hK.out _ _ trivial (fun _ => ?_)
            clear hK K
            refine one_ (i := 10) (N := some 65) #[true, true, true, true, true, true, true, true, true, true, true, false] rfl rfl (one_of HT_.out (by kernel_rfl)) (by decide) (fun K hK => ?_)
            refine app_step rfl (.tmp 55) (.tmp 64) rfl (hR2.alloc _) (hexPiece c) _ 6 6 rfl rfl rfl (lit_cells _ _ _ rfl) (by omega) ?_
            intro v1 w1 hR3 hg3 hat3
            refine hK.out _ _ trivial (fun _ => ?_)
            clear hK K
            refine pure_ (i := 11) (N := some 0) (v := ?_) (a' := ?_) #[true, true, true, true, true, true, true, true, true, true, true, true] rfl rfl (any_of HT_.out (by kernel_rfl)) (fun _ _ _ h => h) (Or.inl ⟨by rfl, ?_⟩) ?_ ?_
            rotate_left
            · intro w'
              go_simp
              with_reducible rfl
            rotate_left
            · simp only [Act.put, List.setIfInBounds_toArray, List.set_cons_zero, List.set_cons_succ, i64_w, i32_w]
              rfl
            refine done_ (done_of HT_.out (by kernel_rfl)) ?_
            have hL3 := (hL2.alloc _).grown hg3 hat3
            go_wp2
            go_roundw
            case rel =>
              obtain ⟨k2, P2, hk2, h1, h2, h3, h4⟩ := rel_step hl hlt hin (v := v1) (by rw [hpc.out]; exact hR3) hL3
              exact ⟨k2, P2, h1, by rw [hk2, hadv.out]; go_num, h2, h3, h4⟩
            case measure => simp [RowKit.intOf]; omega
          · have hpc := Aside0.mk ((piece_rest hw0 hc hm34 hlow).trans (congrArg l.take hr))
            have hpl : (piece l).length = r := by rw [hpc.out, List.length_take]; omega
            have HN := Aside0.mk hne
            have e3 : decide ((c.toNat : Int) < 32) = false := by rw [decide_eq_false_iff_not]; omega
            clear hne hpi hw0 hwl hr hm34
            go_wp2_with (first
              | (go_at_call 36; refine hcall.mono ?_; rintro e wr2 ⟨rfl, hb2⟩; have hx := hat wr2 hb2; have hR2 := hR1.keep hb2; have hL2 := hL1.keep hb2; clear hR1 hL1)
              | (at_builtin; refine app_law rfl (.tmp 27) (.tmp 33) rfl hR2 (l.take r) _ _ _ (by rw [List.length_take]; omega) rfl rfl (by rw [← hl]; exact hL2.cells k r (by omega)) (by omega) ?_; intro v3 w3 hR3 hg3 hat3; have hL3 := hL2.grown hg3 hat3; clear hg3 hat3 hR2 hL2))
            go_roundw
            case rel =>
              obtain ⟨k2, P2, hk2, h1, h2, h3, h4⟩ := rel_step hl hlt hin (v := v3) (by rw [hpc.out]; exact hR3) hL3
              exact ⟨k2, P2, h1, by rw [hk2, hadv.out]; go_num, h2, h3, h4⟩
            case measure => simp [RowKit.intOf]; omega
    · obtain rfl : k = s.size := by omega
      rw [List.drop_of_length_le (by rw [data_length]; omega), Qu.inner_nil, List.append_nil] at hin
      have hpp : (out ++ [34] ++ P).length = out.length + 1 + (inner s.data.toList).length := by rw [hin.out]; simp only [List.length_append, List.length_cons, List.length_nil]
      go_wp2_with (at_builtin; refine app_law rfl (.tmp 69) (.tmp 70) rfl (hR1.alloc _) [34] _ 1 1 rfl rfl rfl (lit_cells _ _ _ rfl) (by omega) ?_; intro v3 w3 hR3 hg3 hat3; clear hg3 hat3 hR1 hL1)
      go_ret
      refine ⟨v3, rfl, ?_⟩
      rw [hin.out] at hR3
      simpa [inQuotes, List.append_assoc] using hR3

end Go.Proofs.YtldlkoncndlbhaaDoor.Rq

-- Laid by wip/mk/mk.py of this session (the kit's printer with this session's contracts for library functions).
namespace Go.Proofs.YtldlkoncndlbhaaDoor.PTx
open Go.RowKit Go.Proofs.YtldlkoncndlbhaaDoorW.PrintWords Go.Proofs.YtldlkoncndlbhaaDoorW.PrintLast Go.Proofs.YtldlkoncndlbhaaDoorW.PrintMore
attribute [local go_sem] max2_int min2_int max_two min_two max_three min_three max_four min_four   -- for this text's walks alone
set_option linter.unusedVariables false
set_option linter.unusedSimpArgs false



def errW : Option Int → Value
  | none => .nilIface
  | some c => .iface 0 (.int .i64 c)
theorem errW_none : errW none = .nilIface := rfl
theorem errW_some (c : Int) : errW (some c) = .iface 0 (.int .i64 c) := rfl

theorem info5 : (Tryd.prog.info? 5).map (fun i => (i.zero, i.size, i.bytes)) = some (some (.int .u8 0), 1, 1) := by kernel_rfl
-- the values' own types

end Go.Proofs.YtldlkoncndlbhaaDoor.PTx

-- Laid by wip/mk/mk.py of this session (the kit's printer with this session's contracts for library functions).
namespace Go.Proofs.YtldlkoncndlbhaaDoor.PTx
open Go.RowKit Go.Proofs.YtldlkoncndlbhaaDoorW.PrintWords Go.Proofs.YtldlkoncndlbhaaDoorW.PrintLast Go.Proofs.YtldlkoncndlbhaaDoorW.PrintMore
attribute [local go_sem] max2_int min2_int max_two min_two max_three min_three max_four min_four   -- for this text's walks alone
set_option linter.unusedVariables false
set_option linter.unusedSimpArgs false

/-! ### haulierref01_Text: function 42 -/
mutual
def haulierref01_Text.l0 : Nat → Int → ByteArray → Option (ByteArray)
  | 0, _, _ => none
  | k + 1, x0, x3 => (some (([(wrap64 (48 + (Int.tmod x0 10))) % 256] : List Int) : List Int)).bind fun y102 => (if (strOfNums y102).size + x3.size ≤ 9223372036854775807 then (if (wrap64 (Int.tdiv x0 10)) = 0 then (some ((strOfNums y102) ++ x3)) else (haulierref01_Text.l0 k (wrap64 (Int.tdiv x0 10)) ((strOfNums y102) ++ x3))) else (none))
def haulierref01_Text.f : Nat → Int → Option (ByteArray)
  | 0, _ => none
  | k + 1, a0 => if a0 = (-9223372036854775808) then (some (⟨#[45, 57, 50, 50, 51, 51, 55, 50, 48, 51, 54, 56, 53, 52, 55, 55, 53, 56, 48, 56]⟩ : ByteArray)) else (if a0 < 0 then ((haulierref01_Text.f k (wrap64 (-a0))).bind fun t101 => (if 1 + t101.size ≤ 9223372036854775807 then (some ((⟨#[45]⟩ : ByteArray) ++ t101)) else (none))) else (haulierref01_Text.l0 k a0 (⟨#[]⟩ : ByteArray)))
end
theorem haulierref01_Text.mono_l : ∀ k, (∀ y0, LeO (haulierref01_Text.f k y0) (haulierref01_Text.f (k + 1) y0)) ∧ (∀ y0 y1, LeO (haulierref01_Text.l0 k y0 y1) (haulierref01_Text.l0 (k + 1) y0 y1))
  | 0 => ⟨fun _ r h => by simp [haulierref01_Text.f] at h, fun _ _ r h => by simp [haulierref01_Text.l0] at h⟩
  | k + 1 => by
    obtain ⟨ih0, ih1⟩ := haulierref01_Text.mono_l k
    refine ⟨?_, ?_⟩
    · intro y0
      unfold haulierref01_Text.f
      repeat' first
      | (with_reducible exact ih0 _)
      | (with_reducible exact ih1 _ _)
      | (with_reducible exact LeO.refl _)
      | (with_reducible exact LeO.none _)
      | (with_reducible refine LeO.ite ?_ ?_)
      | (with_reducible refine LeO.bind ?_ (fun _ => ?_))
      | exact ih0 _
      | exact ih1 _ _
      | exact LeO.none _
      | refine LeO.ite ?_ ?_
      | refine LeO.bind ?_ (fun _ => ?_)
    · intro y0 y1
      unfold haulierref01_Text.l0
      repeat' first
      | (with_reducible exact ih0 _)
      | (with_reducible exact ih1 _ _)
      | (with_reducible exact LeO.refl _)
      | (with_reducible exact LeO.none _)
      | (with_reducible refine LeO.ite ?_ ?_)
      | (with_reducible refine LeO.bind ?_ (fun _ => ?_))
      | exact ih0 _
      | exact ih1 _ _
      | exact LeO.none _
      | refine LeO.ite ?_ ?_
      | refine LeO.bind ?_ (fun _ => ?_)
theorem haulierref01_Text.mono : ∀ a0 k, LeO (haulierref01_Text.f k a0) (haulierref01_Text.f (k + 1) a0) := by
  intro a0 k
  obtain ⟨ih0, ih1⟩ := haulierref01_Text.mono_l k
  exact ih0 a0
set_option maxHeartbeats 8000000 in
set_option maxRecDepth 100000 in
theorem haulierref01_Text.calls (k : Nat) : ∀ (a0 : Int) (r : ByteArray) (w : World) (hG : Aside0 (Glob w)) (h : haulierref01_Text.f k a0 = some r),
    Calls Tryd.prog 42 #[.int .i64 a0] w fun e w' => e = .returned (.string r) ∧ Below w.heap.size w w' := by
  induction k using Nat.strongRecOn with
  | _ k ih =>
  intro a0 r w hG h
  cases k with
  | zero => exact absurd h (by simp [haulierref01_Text.f])
  | succ k =>
  simp only [haulierref01_Text.f] at h
  have HB := Aside0.mk (Below.refl w.heap.size w)
  have H : (if a0 = (-9223372036854775808) then (some (⟨#[45, 57, 50, 50, 51, 51, 55, 50, 48, 51, 54, 56, 53, 52, 55, 55, 53, 56, 48, 56]⟩ : ByteArray)) else (if a0 < 0 then ((haulierref01_Text.f k (wrap64 (-a0))).bind fun t101 => (if 1 + t101.size ≤ 9223372036854775807 then (some ((⟨#[45]⟩ : ByteArray) ++ t101)) else (none))) else (haulierref01_Text.l0 k a0 (⟨#[]⟩ : ByteArray)))) = some r := h
  clear h
  by_cases c2 : a0 = (-9223372036854775808)
  · rw [if_pos c2] at H
    have c2b0 : (a0 == (-9223372036854775808)) = true := beq_iff_eq.mpr c2
    have c2b1 : (a0 != (-9223372036854775808)) = false := bne_eq_false_iff_eq.mpr c2
    clear c2
    obtain rfl := Option.some.inj H
    go_enter Tryd.func42, Tryd.ntmps42
    go_wp2
    go_ret
    exact ⟨by first | rfl | (simp [errW_none, errW_some] <;> rfl) | (simp [*, errW_none, errW_some] <;> rfl), by repeat (first | (with_reducible first | exact HB.out | apply below_alloc | apply pw_below_drewN | apply below_drew1) | exact HB.out)⟩
  · rw [if_neg c2] at H
    have c2b0 : (a0 == (-9223372036854775808)) = false := beq_eq_false_iff_ne.mpr c2
    have c2b1 : (a0 != (-9223372036854775808)) = true := bne_iff_ne.mpr c2
    by_cases c3 : a0 < 0
    · rw [if_pos c3] at H
      have c3b0 : decide (a0 < 0) = true := decide_eq_true c3
      clear c3
      replace H := Option.bind_eq_some_iff.mp H
      obtain ⟨t101, A40, H⟩ := H
      replace H : (if 1 + t101.size ≤ 9223372036854775807 then (some ((⟨#[45]⟩ : ByteArray) ++ t101)) else (none)) = some r := H
      have A4 := Aside0.mk A40
      clear A40
      by_cases c5 : 1 + t101.size ≤ 9223372036854775807
      · rw [if_pos c5] at H
        have c5b0 := eq_true c5
        have c5b1 : decide (1 + t101.size ≤ 9223372036854775807) = true := decide_eq_true c5
        try have c5b2 : (9223372036854775807 < 1 + t101.size) = False := eq_false (Nat.not_lt.2 c5)
        obtain rfl := Option.some.inj H
        go_enter Tryd.func42, Tryd.ntmps42
        go_wp2_with (first | ((with_reducible refine gate_callee (f := 42) rfl ?_); refine goesL_ (some 10) rfl rfl Tryd.func42 (by kernel_rfl) rfl #[.int .i64 (wrap64 (-a0))] rfl (by (try simp only [List.map_toArray, List.map_cons, List.map_nil]); first | done | rfl | (simp only [List.length_drop, List.length_take]; rfl)) ?_; (with_reducible refine (ih k (by omega) (wrap64 (-a0)) t101 _ ⟨by repeat (first | exact hG.out | exact hG.out.below (by repeat (first | (with_reducible first | exact HB.out | apply below_alloc | apply pw_below_drewN | apply below_drew1) | exact HB.out | exact Below.refl _ _)) | apply Glob.drewN | apply Glob.drew)⟩ A4.out).mono ?_); rintro e w6 ⟨rfl, hb⟩; refine ⟨_, rfl, ?_⟩; have n0_ := Aside0.mk (below_step (by repeat (first | (with_reducible first | exact HB.out | apply below_alloc | apply pw_below_drewN | apply below_drew1) | exact HB.out)) hb); clear HB; have HB := n0_; clear n0_; (try clear hb); (try clear hb2); (try clear hk); (try clear hi)))
        go_ret
        exact ⟨by first | rfl | (simp [errW_none, errW_some] <;> rfl) | (simp [*, errW_none, errW_some] <;> rfl), by repeat (first | (with_reducible first | exact HB.out | apply below_alloc | apply pw_below_drewN | apply below_drew1) | exact HB.out)⟩
      · rw [if_neg c5] at H
        exact absurd H (by simp)
    · rw [if_neg c3] at H
      have c3b0 : decide (a0 < 0) = false := decide_eq_false c3
      clear c3
      have H' := Aside0.mk H
      clear H
      go_enter Tryd.func42, Tryd.ntmps42
      go_wp2
      go_loopg [0, 3] k (fun kq v0 v3 w' => ∃ (x0_1 : Int) (x3_1 : ByteArray), v0 = .int .i64 x0_1 ∧ v3 = .string x3_1 ∧ Aside0 (haulierref01_Text.l0 kq x0_1 x3_1 = some r) ∧ Aside0 (kq ≤ k) ∧ Aside0 (Below w.heap.size w w'))
      case atStart => exact ⟨(a0), ((⟨#[]⟩ : ByteArray)), (by first | rfl | (simp; done) | (simp [*]; done)), (by first | rfl | (simp; done) | (simp [*]; done)), H', ⟨Nat.le_refl _⟩, ⟨by repeat (first | (with_reducible first | exact HB.out | apply below_alloc | apply pw_below_drewN | apply below_drew1) | exact HB.out)⟩⟩
      case round =>
        clear H'
        try clear c2
        try clear c2b0
        try clear c2b1
        try clear p2
        try clear c3
        try clear c3b0
        try clear c4
        try clear c5
        try clear c5b0
        try clear c5b1
        try clear c5b2
        try clear p6
        obtain ⟨x0_1, x3_1, rfl, rfl, HA, HK1, HB⟩ := hrel
        cases gk with
        | zero => exact absurd HA.out (by simp [haulierref01_Text.l0])
        | succ k1 =>
          have H := HA.out
          clear HA
          simp only [haulierref01_Text.l0] at H
          obtain ⟨y102, hy102⟩ : ∃ y_ : List Int, y_ = (([(wrap64 (48 + (Int.tmod x0_1 10))) % 256] : List Int)) := ⟨_, rfl⟩
          replace H : (if (strOfNums y102).size + x3_1.size ≤ 9223372036854775807 then (if (wrap64 (Int.tdiv x0_1 10)) = 0 then (some ((strOfNums y102) ++ x3_1)) else (haulierref01_Text.l0 k1 (wrap64 (Int.tdiv x0_1 10)) ((strOfNums y102) ++ x3_1))) else (none)) = some r := by first | (rw [hy102]; with_reducible exact H) | (have H2_ := (Option.bind_some _ _).symm.trans H; rw [hy102]; with_reducible exact H2_) | (have H2_ := (Option.bind_some _ _).symm.trans H; with_reducible exact H2_) | with_reducible exact H | (rw [hy102]; exact H) | exact H
          have Ny102 := Aside0.mk hy102
          clear hy102
          by_cases c7 : (strOfNums y102).size + x3_1.size ≤ 9223372036854775807
          · rw [if_pos c7] at H
            have c7b0 := eq_true c7
            have c7b1 : decide ((strOfNums y102).size + x3_1.size ≤ 9223372036854775807) = true := decide_eq_true c7
            try have c7b2 : (9223372036854775807 < (strOfNums y102).size + x3_1.size) = False := eq_false (Nat.not_lt.2 c7)
            by_cases c8 : (wrap64 (Int.tdiv x0_1 10)) = 0
            · rw [if_pos c8] at H
              have c8b0 : ((wrap64 (Int.tdiv x0_1 10)) == 0) = true := beq_iff_eq.mpr c8
              have c8b1 : ((wrap64 (Int.tdiv x0_1 10)) != 0) = false := bne_eq_false_iff_eq.mpr c8
              clear c8
              obtain rfl := Option.some.inj H
              go_wp2_with (first | ((with_reducible refine gate_dst (N := 16) rfl ?_); refine Kd.R_lit (Kd.int .u8) _ 5 ?hg (N := 16) ?hd (xs := ([(wrap64 (48 + (Int.tmod x0_1 10))) % 256] : List Int)) (inner := [.int .u8 ((wrap64 (48 + (Int.tmod x0_1 10))) % 256)]) (ok := fun _ => True) (okp := fun _ => True) ?hr ?hp (fun _ hk => hk) trivial (Below.refl _ _) (Nat.le_refl _) (by simp) ?_; (case hd => rfl); (case hg => rfl); (case hr => first | (go_simp; done) | (go_simp; rfl)); (case hp => exact (Reps.one (show Kd.M (Kd.int .u8) _ _ _ ((wrap64 (48 + (Int.tmod x0_1 10))) % 256) [.int .u8 ((wrap64 (48 + (Int.tmod x0_1 10))) % 256)] from rfl) (Reps.none _ _))); intro v103 w9 ho10 hb hg_ hnew_; clear hg_ hnew_; (first | rw [← Ny102.out] at ho10 | (simp only [Int.reduceToNat] at ho10; rw [← Ny102.out] at ho10)); have n0_ := Aside0.mk (Kd.R_lower ho10 (below_size (by repeat (first | (with_reducible first | exact HB.out | apply below_alloc | apply pw_below_drewN | apply below_drew1) | exact HB.out)))); have n1_ := Aside0.mk (below_step (by repeat (first | (with_reducible first | exact HB.out | apply below_alloc | apply pw_below_drewN | apply below_drew1) | exact HB.out)) hb); clear HB; have HO104 := n0_; have HB := n1_; clear n0_ n1_; clear hb ho10; have hcv11 := own_string (P := Tryd.prog) Tryd.underlying30 Tryd.underlying5 Tryd.underlying9 (Kd.own_of_R HO104.out)))
              go_ret
              exact ⟨by first | rfl | (simp [errW_none, errW_some] <;> rfl) | (simp [*, errW_none, errW_some] <;> rfl), by repeat (first | (with_reducible first | exact HB.out | apply below_alloc | apply pw_below_drewN | apply below_drew1) | exact HB.out)⟩
            · rw [if_neg c8] at H
              have c8b0 : ((wrap64 (Int.tdiv x0_1 10)) == 0) = false := beq_eq_false_iff_ne.mpr c8
              have c8b1 : ((wrap64 (Int.tdiv x0_1 10)) != 0) = true := bne_iff_ne.mpr c8
              have H' := Aside0.mk H
              clear H
              go_wp2_with (first | ((with_reducible refine gate_dst (N := 16) rfl ?_); refine Kd.R_lit (Kd.int .u8) _ 5 ?hg (N := 16) ?hd (xs := ([(wrap64 (48 + (Int.tmod x0_1 10))) % 256] : List Int)) (inner := [.int .u8 ((wrap64 (48 + (Int.tmod x0_1 10))) % 256)]) (ok := fun _ => True) (okp := fun _ => True) ?hr ?hp (fun _ hk => hk) trivial (Below.refl _ _) (Nat.le_refl _) (by simp) ?_; (case hd => rfl); (case hg => rfl); (case hr => first | (go_simp; done) | (go_simp; rfl)); (case hp => exact (Reps.one (show Kd.M (Kd.int .u8) _ _ _ ((wrap64 (48 + (Int.tmod x0_1 10))) % 256) [.int .u8 ((wrap64 (48 + (Int.tmod x0_1 10))) % 256)] from rfl) (Reps.none _ _))); intro v103 w12 ho13 hb hg_ hnew_; clear hg_ hnew_; (first | rw [← Ny102.out] at ho13 | (simp only [Int.reduceToNat] at ho13; rw [← Ny102.out] at ho13)); have n0_ := Aside0.mk (Kd.R_lower ho13 (below_size (by repeat (first | (with_reducible first | exact HB.out | apply below_alloc | apply pw_below_drewN | apply below_drew1) | exact HB.out)))); have n1_ := Aside0.mk (below_step (by repeat (first | (with_reducible first | exact HB.out | apply below_alloc | apply pw_below_drewN | apply below_drew1) | exact HB.out)) hb); clear HB; have HO104 := n0_; have HB := n1_; clear n0_ n1_; clear hb ho13; have hcv14 := own_string (P := Tryd.prog) Tryd.underlying30 Tryd.underlying5 Tryd.underlying9 (Kd.own_of_R HO104.out)))
              go_roundg k1
              case measure => have := HK1.out; omega
              case rel => exact ⟨(wrap64 (Int.tdiv x0_1 10)), ((strOfNums y102) ++ x3_1), (by first | rfl | (simp; done) | (simp [*]; done)), (by first | rfl | (simp; done) | (simp [*]; done)), H', ⟨by have := HK1.out; omega⟩, ⟨by repeat (first | (with_reducible first | exact HB.out | apply below_alloc | apply pw_below_drewN | apply below_drew1) | exact HB.out)⟩⟩
          · rw [if_neg c7] at H
            exact absurd H (by simp)

end Go.Proofs.YtldlkoncndlbhaaDoor.PTx

/- The document's 'Text', out of its printed text: the decimal digits of a number. -/
namespace Go.Proofs.YtldlkoncndlbhaaDoor.Rt
open Go.RowKit Go.Proofs.YtldlkoncndlbhaaDoor.PTx Go.Proofs.YtldlkoncndlbhaaDoorW.PrintWords Go.Proofs.YtldlkoncndlbhaaDoorW.PrintLast Go.Proofs.YtldlkoncndlbhaaDoorW.PrintMore

theorem dec_step (u : Nat) (h : ¬ u < 10) : Lib.decDigits u = Lib.decDigits (u / 10) ++ [UInt8.ofNat (48 + u % 10)] := by
  rw [Lib.decDigits, dif_neg h]
theorem dec_last (u : Nat) (h : u < 10) : Lib.decDigits u = [UInt8.ofNat (48 + u)] := by
  rw [Lib.decDigits, dif_pos h]
theorem least_text : Lib.itoa (-9223372036854775808) = [45, 57, 50, 50, 51, 51, 55, 50, 48, 51, 54, 56, 53, 52, 55, 55, 53, 56, 48, 56] := by
  unfold Lib.itoa
  rw [if_pos (by decide), show (-9223372036854775808 : Int).natAbs = 9223372036854775808 from rfl]
  rw [dec_step 9223372036854775808 (by decide), dec_step (9223372036854775808 / 10) (by decide)]
  simp only [Nat.reduceDiv, Nat.reduceMod]
  iterate 16 (rw [dec_step _ (by decide)]; simp only [Nat.reduceDiv, Nat.reduceMod])
  rw [dec_last _ (by decide)]
  decide
theorem itoa_size (a : Int) (h0 : -9223372036854775808 ≤ a) (h1 : a ≤ 9223372036854775807) : (Lib.itoa a).length ≤ 100 := by
  have hd : ∀ n u : Nat, u < 10 ^ (n + 1) → (Lib.decDigits u).length ≤ n + 1 := by
    intro n
    induction n with
    | zero => intro u hu; rw [dec_last u (by omega)]; simp
    | succ n ih =>
      intro u hu
      by_cases h : u < 10
      · rw [dec_last u h]; simp
      · rw [dec_step u h, List.length_append, List.length_singleton]
        have := ih (u / 10) (by rw [Nat.pow_succ] at hu; omega)
        omega
  unfold Lib.itoa
  split
  · rw [List.length_cons]
    have := hd 19 a.natAbs (by omega)
    omega
  · have := hd 19 a.toNat (by omega)
    omega

theorem wrap_zero : wrap64 ((0 : Nat) : Int) = 0 := by unfold wrap64; omega
theorem digit_wrap (d : Nat) (h : d < 10) : wrap64 (48 + (d : Int)) % 256 = ((48 + d : Nat) : Int) := by unfold wrap64; omega
theorem wrap_nat (d : Nat) (h : d ≤ 9223372036854775807) : wrap64 (d : Int) = (d : Int) := by unfold wrap64; omega
theorem tdiv_ten (u : Nat) : Int.tdiv (u : Int) 10 = ((u / 10 : Nat) : Int) := by rw [Int.tdiv_eq_ediv_of_nonneg (by omega)]; omega
theorem tmod_ten (u : Nat) : Int.tmod (u : Int) 10 = ((u % 10 : Nat) : Int) := by rw [Int.tmod_eq_emod_of_nonneg (by omega)]; omega
theorem one_size (x : Int) (acc : ByteArray) (h : acc.size ≤ 100) : (strOfNums [x]).size + acc.size ≤ 9223372036854775807 := by rw [strOfNums_size, List.length_singleton]; omega
theorem text_loop (n : Nat) : ∀ (u : Nat) (acc : ByteArray), u < 10 ^ (n + 1) → u ≤ 9223372036854775807 → acc.size + n ≤ 100 → ∀ k, n < k →
    ∃ r, haulierref01_Text.l0 k (u : Int) acc = some r ∧ r.data.toList = Lib.decDigits u ++ acc.data.toList := by
  induction n with
  | zero =>
    intro u acc hu _ ha k hk
    obtain ⟨k, rfl⟩ : ∃ m, k = m + 1 := ⟨k - 1, by omega⟩
    have h10 : u < 10 := by omega
    simp only [haulierref01_Text.l0, Option.bind_some]
    rw [tdiv_ten, tmod_ten, Nat.div_eq_of_lt h10, Nat.mod_eq_of_lt h10, digit_wrap u h10, if_pos (one_size _ acc (by omega)), if_pos wrap_zero]
    refine ⟨_, rfl, ?_⟩
    rw [ByteArray.toList_data_append, strOfNums_data, dec_last u h10]
    rfl
  | succ n ih =>
    intro u acc hu hm ha k hk
    obtain ⟨k, rfl⟩ : ∃ m, k = m + 1 := ⟨k - 1, by omega⟩
    simp only [haulierref01_Text.l0, Option.bind_some]
    rw [tdiv_ten, tmod_ten, wrap_nat (u / 10) (by omega), digit_wrap (u % 10) (by omega), if_pos (one_size _ acc (by omega))]
    have hd : (strOfNums [((48 + u % 10 : Nat) : Int)] ++ acc).data.toList = UInt8.ofNat (48 + u % 10) :: acc.data.toList := by
      rw [ByteArray.toList_data_append, strOfNums_data]
      rfl
    by_cases h10 : u < 10
    · rw [if_pos (by omega)]
      refine ⟨_, rfl, ?_⟩
      rw [hd, dec_last u h10, Nat.mod_eq_of_lt h10]
      rfl
    · rw [if_neg (by omega)]
      obtain ⟨r, hr, he⟩ := ih (u / 10) (strOfNums [((48 + u % 10 : Nat) : Int)] ++ acc) (by rw [Nat.pow_succ] at hu; omega) (by omega) (by rw [ByteArray.size_append, strOfNums_size, List.length_singleton]; omega) k (by omega)
      refine ⟨r, hr, ?_⟩
      rw [he, hd, dec_step u h10, List.append_assoc]
      rfl

theorem ref_text (a : Int) (h0 : -9223372036854775808 ≤ a) (h1 : a ≤ 9223372036854775807) (k : Nat) (hk : 30 < k) : ∃ r, haulierref01_Text.f k a = some r ∧ r.data.toList = Lib.itoa a := by
  obtain ⟨k, rfl⟩ : ∃ m, k = m + 1 + 1 := ⟨k - 2, by omega⟩
  have pos : ∀ (x : Int) (k : Nat), 0 ≤ x → x ≤ 9223372036854775807 → 20 < k → ∃ r, haulierref01_Text.l0 k x (⟨#[]⟩ : ByteArray) = some r ∧ r.data.toList = Lib.decDigits x.toNat := by
    intro x k hx hx1 hk
    obtain ⟨u, rfl⟩ := Int.eq_ofNat_of_zero_le hx
    obtain ⟨r, hr, he⟩ := text_loop 18 u ⟨#[]⟩ (by omega) (by omega) (by decide) k (by omega)
    exact ⟨r, hr, by rw [he, Int.toNat_natCast]; exact List.append_nil _⟩
  unfold haulierref01_Text.f
  by_cases hm : a = -9223372036854775808
  · rw [if_pos hm]
    refine ⟨_, rfl, ?_⟩
    rw [hm, least_text]
  · rw [if_neg hm]
    by_cases hn : a < 0
    · rw [if_pos hn, show wrap64 (-a) = -a from by unfold wrap64; omega]
      obtain ⟨r, hr, he⟩ := pos (-a) k (by omega) (by omega) (by omega)
      have hf : haulierref01_Text.f (k + 1) (-a) = some r := by
        unfold haulierref01_Text.f
        rw [if_neg (by omega), if_neg (by omega)]
        exact hr
      rw [hf]
      simp only [Option.bind_some]
      have hs : r.size ≤ 100 := by
        have hl := congrArg List.length he
        have := itoa_size (-a) (by omega) (by omega)
        unfold Lib.itoa at this
        rw [if_neg (by omega)] at this
        rw [data_length] at hl
        omega
      rw [if_pos (by omega)]
      refine ⟨_, rfl, ?_⟩
      rw [ByteArray.toList_data_append, he]
      unfold Lib.itoa
      rw [if_pos hn, show (-a).toNat = a.natAbs from by omega]
      rfl
    · rw [if_neg hn]
      obtain ⟨r, hr, he⟩ := pos a (k + 1) (by omega) (by omega) (by omega)
      refine ⟨r, hr, ?_⟩
      rw [he]
      unfold Lib.itoa
      rw [if_neg hn]

theorem reftext_walk (a : Int) (h0 : -9223372036854775808 ≤ a) (h1 : a ≤ 9223372036854775807) (w : World) (hG : Glob w) :
    Calls Tryd.prog 42 #[.int .i64 a] w fun e w' => e = .returned (.string ⟨(Lib.itoa a).toArray⟩) ∧ Below w.heap.size w w' := by
  obtain ⟨r, hr, he⟩ := ref_text a h0 h1 31 (by omega)
  have e : r = ⟨(Lib.itoa a).toArray⟩ := by rw [← he]
  rw [← e]
  exact haulierref01_Text.calls 31 a r w ⟨hG⟩ hr

end Go.Proofs.YtldlkoncndlbhaaDoor.Rt

/- The document's 'write', walked by hand: a value's text behind some bytes. -/
set_option linter.unusedVariables false
set_option linter.unusedSimpArgs false
namespace Go.Proofs.YtldlkoncndlbhaaDoor.Rq
open Go.RowKit Go.Proofs.YtldlkoncndlbhaaDoor.Utf Go.Proofs.YtldlkoncndlbhaaDoor.Tx Go.Proofs.YtldlkoncndlbhaaDoor.PSh Go.Lib Go.Proofs.YtldlkoncndlbhaaDoorW.PrintWords Go.Proofs.YtldlkoncndlbhaaDoorW.PrintLast Go.Proofs.YtldlkoncndlbhaaDoorW.PrintMore

section
variable {w0 a w : World} {v : Value} {out : List UInt8}
theorem Rw.box (h : Rw w0 a v out w) {k : Nat} {cs : Array Value} {fz : Nat × Nat} (hk : a.heap[k]? = some (.cells cs 39 fz)) : w.heap[k]? = some (.cells cs 39 fz) :=
  h.2.2 k _ hk (fun e => by cases e) (fun _ _ e => by cases e)
theorem Rw.cell (h : Rw w0 a v out w) {k : Nat} {cs : Array Value} {fz : Nat × Nat} (hk : a.heap[k]? = some (.cells cs 39 fz)) (j : Nat) (u : Value) (hv : cs[j]? = some u) : w.cell? ⟨k, j, none⟩ = some u := by
  rw [World.cell?, h.box hk]
  exact hv
theorem lit_cells2 (W : World) (t : List UInt8) (cs : Array Value) (n : Nat) (hn : n = W.heap.size) (hc : cs.toList = byteCells t) : ∀ j u, (byteCells t)[j]? = some u → (W.alloc (.cells cs 5)).cell? ((⟨n, 0, none⟩ : Addr).add j) = some u := by
  subst hn
  exact lit_cells W t cs hc
end

set_option maxHeartbeats 4000000 in
set_option maxRecDepth 100000 in
theorem refwrite_walk (l : List S39) (A : Option Addr) (cp : Nat) (w0 : World) (hr : Kd.C k39 w0 A l.length l) (hG : Glob w0) (ht : Tree l) (hs : Sized l) :
    ∀ (f : Nat) (a : Int), 0 ≤ a → a < l.length → a.toNat < f → ∀ (out : List UInt8) (v : Value) (wa w : World), Rw w0 wa v out w → out.length + (txt l f a).length ≤ 140737488355328 →
    Calls Tryd.prog 27 #[v, .slice A l.length cp, .int .i64 a] w fun e w' => ∃ v', e = .returned v' ∧ Rw w0 wa v' (out ++ txt l f a) w' := by
  intro f
  induction f with
  | zero => intro a h0 h1 h2; omega
  | succ f ih =>
    intro a h0 h1 h2 out vo wa w hst hlen
    obtain ⟨hp, hkids⟩ := ht a h0 h1
    obtain ⟨hs3, hs5, hs4⟩ := hs a h0 h1
    obtain ⟨ad, A4, c4, A5, c5, rfl, hx0, hx1, hx2, hx3, hx4, hx5, hl4, hC4, hl5, hC5⟩ := at_T39 hr a h0 h1
    have hlow : ∀ p v, w0.cell? p = some v → w.cell? p = some v := fun p v h => (hst.2.1.cell (World.block_lt_of_cell? w0 _ h)).trans h
    replace hx0 := hlow _ _ hx0
    replace hx1 := hlow _ _ hx1
    replace hx2 := hlow _ _ hx2
    replace hx3 := hlow _ _ hx3
    replace hx4 := hlow _ _ hx4
    replace hx5 := hlow _ _ hx5
    clear hlow
    have hk := plain_kind hp
    rw [txt_succ] at hlen ⊢
    generalize rd_T39 l a = v at *
    obtain ⟨f0, f1, f2, f3, f4, f5⟩ := v
    dsimp only at *
    have p1 := eq_true h0
    have p2 := eq_true h1
    have hS := hst.alloc (Obj.cells #[.int .i64 f0, .bool f1, .int .i64 f2, .string f3, .slice A4 f4.length c4, .slice A5 f5.length c5] 39)
    have hbox : (w.alloc (Obj.cells #[.int .i64 f0, .bool f1, .int .i64 f2, .string f3, .slice A4 f4.length c4, .slice A5 f5.length c5] 39)).heap[w.heap.size]? = some (Obj.cells #[.int .i64 f0, .bool f1, .int .i64 f2, .string f3, .slice A4 f4.length c4, .slice A5 f5.length c5] 39 (0, 0)) := Array.getElem?_push_size
    obtain ⟨w1, hw1⟩ : ∃ w1, w1 = w.alloc (Obj.cells #[.int .i64 f0, .bool f1, .int .i64 f2, .string f3, .slice A4 f4.length c4, .slice A5 f5.length c5] 39) := ⟨_, rfl⟩
    rw [← hw1] at hbox
    have hkp : OthersKept 5 none wa w1 := by rw [hw1]; exact hS.2.2
    have hS1 : Rw w0 w1 vo out w1 := by rw [hw1]; exact hS.here
    have hGw : Glob w1 := hG.below hS1.2.1
    rw [hw1] at hS1 hGw
    replace hS1 : Rw w0 w1 vo out (w.alloc (Obj.cells #[.int .i64 f0, .bool f1, .int .i64 f2, .string f3, .slice A4 f4.length c4, .slice A5 f5.length c5] 39)) := by rw [hw1]; exact hS1
    clear hS
    have hS := hS1
    clear hS1 hst hw1
    rcases hk with rfl | rfl | ⟨rfl, hn0, hn1⟩ | rfl | rfl | ⟨rfl, hnn⟩
    · rw [txtOf_1 _ _ rfl] at hlen ⊢
      go_enter Tryd.func27, Tryd.ntmps27
      go_wp2_with (at_builtin; refine str_law rfl (.tmp 18) (.const (.string ⟨#[110, 117, 108, 108]⟩)) rfl hS _ rfl rfl hlen ?_; intro v2 w2 hS2; clear hS)
      go_ret
      exact ⟨v2, rfl, hS2.lift hkp⟩
    · rw [txtOf_2 _ _ rfl] at hlen ⊢
      dsimp only at hlen ⊢
      cases f1
      · rw [if_neg (by decide)] at hlen ⊢
        go_enter Tryd.func27, Tryd.ntmps27
        go_wp2_with (at_builtin; refine str_law rfl (.tmp 26) (.const (.string ⟨#[102, 97, 108, 115, 101]⟩)) rfl hS _ rfl rfl hlen ?_; intro v2 w2 hS2; clear hS)
        go_ret
        exact ⟨v2, rfl, hS2.lift hkp⟩
      · rw [if_pos rfl] at hlen ⊢
        go_enter Tryd.func27, Tryd.ntmps27
        go_wp2_with (at_builtin; refine str_law rfl (.tmp 24) (.const (.string ⟨#[116, 114, 117, 101]⟩)) rfl hS _ rfl rfl hlen ?_; intro v2 w2 hS2; clear hS)
        go_ret
        exact ⟨v2, rfl, hS2.lift hkp⟩
    · rw [txtOf_3 _ _ rfl] at hlen ⊢
      go_enter Tryd.func27, Tryd.ntmps27
      go_wp2_with (first
        | (go_at_call 42; refine (Rt.reftext_walk f2 (by omega) (by omega) _ hGw).mono ?_; rintro e w2 ⟨rfl, hb2⟩; have hA2 := hS.keep hb2; clear hS hb2; have hS := hA2; clear hA2)
        | (at_builtin; refine str_law rfl (.tmp 30) (.tmp 33) rfl hS ⟨(itoa f2).toArray⟩ rfl rfl hlen ?_; intro v2 w2 hS2; clear hS))
      go_ret
      exact ⟨v2, rfl, hS2.lift hkp⟩
    · rw [txtOf_4 _ _ rfl] at hlen ⊢
      go_enter Tryd.func27, Tryd.ntmps27
      go_wp2_with (go_at_call 31; refine (quote_walk f3 w0 w1 _ vo out hG hS hs3 hlen).mono ?_; rintro e w2 ⟨v2, rfl, hS2⟩; clear hS)
      go_ret
      exact ⟨v2, rfl, hS2.lift hkp⟩
    · rw [txtOf_5 _ _ rfl] at hlen ⊢
      dsimp only at hlen ⊢
      obtain ⟨g, hg⟩ : ∃ g : Nat → List UInt8, g = fun (i : Nat) => txt l f (rd f5 (i : Int)) := ⟨_, rfl⟩
      rw [show joined (fun (i : Nat) => txt l f (rd f5 (i : Int))) f5.length = joined g f5.length by rw [hg]] at hlen ⊢
      have hlen2 : out.length + ((joined g f5.length).length + 2) ≤ 140737488355328 := by simp only [List.length_append, List.length_cons, List.length_nil] at hlen; omega
      clear hlen
      have hx0 := Rw.cell hS hbox 0 _ rfl
      have hx4 := Rw.cell hS hbox 4 _ rfl
      have hx5 := Rw.cell hS hbox 5 _ rfl
      go_enter Tryd.func27, Tryd.ntmps27
      go_wp2_with (at_builtin; refine app_law rfl (.tmp 44) (.tmp 47) rfl (hS.alloc _) [91] _ 1 1 rfl rfl rfl (lit_cells2 _ _ _ _ (Array.size_push _).symm rfl) (by (try simp only [List.length_append, List.length_cons, List.length_nil]); omega) ?_; intro v3 w3 hA2 hg2 hat2; clear hg2 hat2 hS; have hS := hA2; clear hA2; (try have hx0 := Rw.cell hS hbox 0 _ rfl); (try have hx4 := Rw.cell hS hbox 4 _ rfl); (try have hx5 := Rw.cell hS hbox 5 _ rfl))
      go_wp2
      go_loopw [0, 9] (fun o i wr => ∃ j : Nat, j ≤ f5.length ∧ i = .int .i64 j ∧ Rw w0 w1 o (out ++ [91] ++ joined g j) wr) (fun _ i _ => f5.length - (RowKit.intOf i).toNat)
      case atStart => exact ⟨0, Nat.zero_le _, rfl, by rw [joined, List.append_nil]; exact hS⟩
      case round =>
        clear hS
        obtain ⟨j, hj, rfl, hS⟩ := hrel
        have hx0 := Rw.cell hS hbox 0 _ rfl
        have hx4 := Rw.cell hS hbox 4 _ rfl
        have hx5 := Rw.cell hS hbox 5 _ rfl
        by_cases hlt : j < f5.length
        · obtain ⟨ad5, rfl, hkc⟩ := Kd.at_int hC5 (j : Int) (by omega) (by omega)
          have hkl : ∀ wq, Below w0.heap.size w0 wq → wq.cell? (ad5.add j) = some (.int .i64 (rd f5 (j : Int))) := fun wq hq => by
            have := (hq.cell (World.block_lt_of_cell? w0 _ hkc)).trans hkc
            simpa using this
          clear hkc
          obtain ⟨hk0, hk1⟩ := hkids j hlt
          have hjl := joined_le g f5.length (j + 1) hlt
          have hjs := joined_succ g j
          have hgj : g j = txt l f (rd f5 (j : Int)) := by rw [hg]
          generalize rd f5 (j : Int) = kd at *
          have hll : ((j : Int) < (f5.length : Int)) = True := eq_true (by omega)
          have hkc := hkl _ hS.2.1
          rw [hgj] at hjs
          by_cases hj0 : j = 0
          · rw [if_pos hj0] at hjs
            have hj1 : decide (0 < j) = false := decide_eq_false (by omega)
            have hj3 : (0 < j) = False := eq_false (by omega)
            clear hj0
            have hjm := congrArg List.length hjs
            simp only [List.length_append, List.length_cons, List.length_nil] at hjm
            rw [hjm] at hjl
            go_wp2_with (first
              | (go_at_call 27; refine (ih kd hk0 (by omega) (by omega) _ _ w1 _ hS (by (try simp only [List.length_append, List.length_cons, List.length_nil]); omega)).mono ?_; rintro e w4 ⟨v4, rfl, hA2⟩; clear hS; have hS := hA2; clear hA2))
            go_roundw
            case rel => exact ⟨j + 1, hlt, by go_num, by rw [hjs]; simpa [List.append_assoc] using hS⟩
            case measure => simp [RowKit.intOf]; omega
          · rw [if_neg hj0] at hjs
            have hj1 : decide (0 < j) = true := decide_eq_true (by omega)
            have hj3 : (0 < j) = True := eq_true (by omega)
            clear hj0
            have hjm := congrArg List.length hjs
            simp only [List.length_append, List.length_cons, List.length_nil] at hjm
            rw [hjm] at hjl
            go_wp2_with (first
              | (at_builtin; refine app_law rfl (.tmp 58) (.tmp 59) rfl (hS.alloc _) [44] _ 1 1 rfl rfl rfl (lit_cells _ _ _ rfl) (by (try simp only [List.length_append, List.length_cons, List.length_nil]); omega) ?_; intro v6 w6 hA2 hg2 hat2; clear hg2 hat2 hS; have hS := hA2; clear hA2; (try have hx0 := Rw.cell hS hbox 0 _ rfl); (try have hx4 := Rw.cell hS hbox 4 _ rfl); (try have hx5 := Rw.cell hS hbox 5 _ rfl); (try have hkc := hkl _ hS.2.1))
              | (go_at_call 27; refine (ih kd hk0 (by omega) (by omega) _ _ w1 _ hS (by (try simp only [List.length_append, List.length_cons, List.length_nil]); omega)).mono ?_; rintro e w4 ⟨v4, rfl, hA2⟩; clear hS; have hS := hA2; clear hA2))
            go_roundw
            case rel => exact ⟨j + 1, hlt, by go_num, by rw [hjs]; simpa [List.append_assoc] using hS⟩
            case measure => simp [RowKit.intOf]; omega
        · obtain rfl : j = f5.length := by omega
          go_wp2_with (at_builtin; refine app_law rfl (.tmp 81) (.tmp 84) rfl (hS.alloc _) [93] _ 1 1 rfl rfl rfl (lit_cells _ _ _ rfl) (by (try simp only [List.length_append, List.length_cons, List.length_nil]); omega) ?_; intro v8 w8 hA2 hg2 hat2; clear hg2 hat2 hS; have hS := hA2; clear hA2)
          go_ret
          exact ⟨v8, rfl, (show Rw w0 w1 v8 (out ++ ([91] ++ joined g f5.length ++ [93])) _ by simpa [List.append_assoc] using hS).lift hkp⟩
    · rw [txtOf_6 _ _ rfl] at hlen ⊢
      dsimp only at hlen ⊢
      obtain ⟨g, hg⟩ : ∃ g : Nat → List UInt8, g = fun (i : Nat) => inQuotes (rdOf ByteArray.empty f4 (i : Int)).data.toList ++ [58] ++ txt l f (rd f5 (i : Int)) := ⟨_, rfl⟩
      rw [show joined (fun (i : Nat) => inQuotes (rdOf ByteArray.empty f4 (i : Int)).data.toList ++ [58] ++ txt l f (rd f5 (i : Int))) f5.length = joined g f5.length by rw [hg]] at hlen ⊢
      have hlen2 : out.length + ((joined g f5.length).length + 2) ≤ 140737488355328 := by simp only [List.length_append, List.length_cons, List.length_nil] at hlen; omega
      clear hlen
      have HNN := Aside0.mk hnn
      clear hnn
      have hx0 := Rw.cell hS hbox 0 _ rfl
      have hx4 := Rw.cell hS hbox 4 _ rfl
      have hx5 := Rw.cell hS hbox 5 _ rfl
      go_enter Tryd.func27, Tryd.ntmps27
      go_wp2_with (at_builtin; refine app_law rfl (.tmp 44) (.tmp 47) rfl (hS.alloc _) [123] _ 1 1 rfl rfl rfl (lit_cells2 _ _ _ _ (Array.size_push _).symm rfl) (by (try simp only [List.length_append, List.length_cons, List.length_nil]); omega) ?_; intro v3 w3 hA2 hg2 hat2; clear hg2 hat2 hS; have hS := hA2; clear hA2; (try have hx0 := Rw.cell hS hbox 0 _ rfl); (try have hx4 := Rw.cell hS hbox 4 _ rfl); (try have hx5 := Rw.cell hS hbox 5 _ rfl))
      go_wp2
      go_loopw [0, 9] (fun o i wr => ∃ j : Nat, j ≤ f5.length ∧ i = .int .i64 j ∧ Rw w0 w1 o (out ++ [123] ++ joined g j) wr) (fun _ i _ => f5.length - (RowKit.intOf i).toNat)
      case atStart => exact ⟨0, Nat.zero_le _, rfl, by rw [joined, List.append_nil]; exact hS⟩
      case round =>
        clear hS
        obtain ⟨j, hj, rfl, hS⟩ := hrel
        have hx0 := Rw.cell hS hbox 0 _ rfl
        have hx4 := Rw.cell hS hbox 4 _ rfl
        have hx5 := Rw.cell hS hbox 5 _ rfl
        by_cases hlt : j < f5.length
        · obtain ⟨ad5, rfl, hkc⟩ := Kd.at_int hC5 (j : Int) (by omega) (by omega)
          have hkl : ∀ wq, Below w0.heap.size w0 wq → wq.cell? (ad5.add j) = some (.int .i64 (rd f5 (j : Int))) := fun wq hq => by
            have := (hq.cell (World.block_lt_of_cell? w0 _ hkc)).trans hkc
            simpa using this
          clear hkc
          obtain ⟨hk0, hk1⟩ := hkids j hlt
          have hjl := joined_le g f5.length (j + 1) hlt
          have hjs := joined_succ g j
          have hgj : g j = inQuotes (rdOf ByteArray.empty f4 (j : Int)).data.toList ++ [58] ++ txt l f (rd f5 (j : Int)) := by rw [hg]
          obtain ⟨ad4, rfl, hnc⟩ := Kd.at_string hC4 (j : Int) (by omega) (by have := HNN.out; omega)
          have hnl : ∀ wq, Below w0.heap.size w0 wq → wq.cell? (ad4.add j) = some (.string (rdOf ByteArray.empty f4 (j : Int))) := fun wq hq => by
            have := (hq.cell (World.block_lt_of_cell? w0 _ hnc)).trans hnc
            simpa using this
          clear hnc
          have hns := hs4 j (by have := HNN.out; omega)
          generalize rdOf ByteArray.empty f4 (j : Int) = nm at *
          have hjn : ((j : Int) < (f4.length : Int)) = True := eq_true (by have := HNN.out; omega)
          generalize rd f5 (j : Int) = kd at *
          have hll : ((j : Int) < (f5.length : Int)) = True := eq_true (by omega)
          have hkc := hkl _ hS.2.1
          have hnc := hnl _ hS.2.1
          rw [hgj] at hjs
          by_cases hj0 : j = 0
          · rw [if_pos hj0] at hjs
            have hj1 : decide (0 < j) = false := decide_eq_false (by omega)
            have hj3 : (0 < j) = False := eq_false (by omega)
            clear hj0
            have hjm := congrArg List.length hjs
            simp only [List.length_append, List.length_cons, List.length_nil] at hjm
            rw [hjm] at hjl
            go_wp2_with (first
              | (go_at_call 31; refine (quote_walk nm w0 w1 _ _ _ hG hS hns (by (try simp only [List.length_append, List.length_cons, List.length_nil]); omega)).mono ?_; rintro e w5 ⟨v5, rfl, hA2⟩; clear hS; have hS := hA2; clear hA2; (try have hx0 := Rw.cell hS hbox 0 _ rfl); (try have hx4 := Rw.cell hS hbox 4 _ rfl); (try have hx5 := Rw.cell hS hbox 5 _ rfl); (try have hkc := hkl _ hS.2.1); (try have hnc := hnl _ hS.2.1))
              | (at_builtin; refine app_law rfl (.tmp 70) (.tmp 71) rfl (hS.alloc _) [58] _ 1 1 rfl rfl rfl (lit_cells _ _ _ rfl) (by (try simp only [List.length_append, List.length_cons, List.length_nil]); omega) ?_; intro v7 w7 hA2 hg2 hat2; clear hg2 hat2 hS; have hS := hA2; clear hA2; (try have hx0 := Rw.cell hS hbox 0 _ rfl); (try have hx4 := Rw.cell hS hbox 4 _ rfl); (try have hx5 := Rw.cell hS hbox 5 _ rfl); (try have hkc := hkl _ hS.2.1); (try have hnc := hnl _ hS.2.1))
              | (go_at_call 27; refine (ih kd hk0 (by omega) (by omega) _ _ w1 _ hS (by (try simp only [List.length_append, List.length_cons, List.length_nil]); omega)).mono ?_; rintro e w4 ⟨v4, rfl, hA2⟩; clear hS; have hS := hA2; clear hA2))
            go_roundw
            case rel => exact ⟨j + 1, hlt, by go_num, by rw [hjs]; simpa [List.append_assoc] using hS⟩
            case measure => simp [RowKit.intOf]; omega
          · rw [if_neg hj0] at hjs
            have hj1 : decide (0 < j) = true := decide_eq_true (by omega)
            have hj3 : (0 < j) = True := eq_true (by omega)
            clear hj0
            have hjm := congrArg List.length hjs
            simp only [List.length_append, List.length_cons, List.length_nil] at hjm
            rw [hjm] at hjl
            go_wp2_with (first
              | (at_builtin; refine app_law rfl (.tmp 58) (.tmp 59) rfl (hS.alloc _) [44] _ 1 1 rfl rfl rfl (lit_cells _ _ _ rfl) (by (try simp only [List.length_append, List.length_cons, List.length_nil]); omega) ?_; intro v6 w6 hA2 hg2 hat2; clear hg2 hat2 hS; have hS := hA2; clear hA2; (try have hx0 := Rw.cell hS hbox 0 _ rfl); (try have hx4 := Rw.cell hS hbox 4 _ rfl); (try have hx5 := Rw.cell hS hbox 5 _ rfl); (try have hkc := hkl _ hS.2.1); (try have hnc := hnl _ hS.2.1))
              | (go_at_call 31; refine (quote_walk nm w0 w1 _ _ _ hG hS hns (by (try simp only [List.length_append, List.length_cons, List.length_nil]); omega)).mono ?_; rintro e w5 ⟨v5, rfl, hA2⟩; clear hS; have hS := hA2; clear hA2; (try have hx0 := Rw.cell hS hbox 0 _ rfl); (try have hx4 := Rw.cell hS hbox 4 _ rfl); (try have hx5 := Rw.cell hS hbox 5 _ rfl); (try have hkc := hkl _ hS.2.1); (try have hnc := hnl _ hS.2.1))
              | (at_builtin; refine app_law rfl (.tmp 70) (.tmp 71) rfl (hS.alloc _) [58] _ 1 1 rfl rfl rfl (lit_cells _ _ _ rfl) (by (try simp only [List.length_append, List.length_cons, List.length_nil]); omega) ?_; intro v7 w7 hA2 hg2 hat2; clear hg2 hat2 hS; have hS := hA2; clear hA2; (try have hx0 := Rw.cell hS hbox 0 _ rfl); (try have hx4 := Rw.cell hS hbox 4 _ rfl); (try have hx5 := Rw.cell hS hbox 5 _ rfl); (try have hkc := hkl _ hS.2.1); (try have hnc := hnl _ hS.2.1))
              | (go_at_call 27; refine (ih kd hk0 (by omega) (by omega) _ _ w1 _ hS (by (try simp only [List.length_append, List.length_cons, List.length_nil]); omega)).mono ?_; rintro e w4 ⟨v4, rfl, hA2⟩; clear hS; have hS := hA2; clear hA2))
            go_roundw
            case rel => exact ⟨j + 1, hlt, by go_num, by rw [hjs]; simpa [List.append_assoc] using hS⟩
            case measure => simp [RowKit.intOf]; omega
        · obtain rfl : j = f5.length := by omega
          go_wp2_with (at_builtin; refine app_law rfl (.tmp 81) (.tmp 84) rfl (hS.alloc _) [125] _ 1 1 rfl rfl rfl (lit_cells _ _ _ rfl) (by (try simp only [List.length_append, List.length_cons, List.length_nil]); omega) ?_; intro v8 w8 hA2 hg2 hat2; clear hg2 hat2 hS; have hS := hA2; clear hA2)
          go_ret
          exact ⟨v8, rfl, (show Rw w0 w1 v8 (out ++ ([123] ++ joined g f5.length ++ [125])) _ by simpa [List.append_assoc] using hS).lift hkp⟩

end Go.Proofs.YtldlkoncndlbhaaDoor.Rq

/- The document's 'Print', walked by hand. -/
set_option linter.unusedVariables false
set_option linter.unusedSimpArgs false
namespace Go.Proofs.YtldlkoncndlbhaaDoor.Rq
open Go.RowKit Go.Proofs.YtldlkoncndlbhaaDoor.Utf Go.Proofs.YtldlkoncndlbhaaDoor.Tx Go.Proofs.YtldlkoncndlbhaaDoor.Wr Go.Proofs.YtldlkoncndlbhaaDoor.PSh Go.Lib Go.Proofs.YtldlkoncndlbhaaDoorW.PrintWords Go.Proofs.YtldlkoncndlbhaaDoorW.PrintLast Go.Proofs.YtldlkoncndlbhaaDoorW.PrintMore

theorem Rw.reads {w0 a w : World} {v : Value} {out : List UInt8} (h : Rw w0 a v out w) (hm : out.length ≤ 140737488355328) : ∃ A c, v = .slice A out.length c ∧ ReadsInt w .u8 A out.length (numsOf out) := by
  have hl := numsOf_length out
  rcases Nat.eq_zero_or_pos out.length with h0 | h0
  · rcases h.1.2 with ⟨rfl, _⟩ | ⟨g, cap, cur, rfl, _⟩
    · refine ⟨none, 0, by rw [h0], ?_⟩
      exact ⟨hl, by omega, fun e => by omega⟩
    · exact ⟨_, _, rfl, hl, by omega, fun e => by omega⟩
  · obtain ⟨g, cap, rfl, _, _⟩ := h.1.form h0
    have hc := h.1.cells (g := g) rfl
    refine ⟨_, _, rfl, hl, by omega, fun _ => ⟨⟨g, 0, none⟩, rfl, fun j hj => ?_⟩⟩
    refine hc j _ ?_
    unfold byteCells numsOf
    rw [List.getElem?_map, List.getD_eq_getElem?_getD, List.getElem?_map, List.getElem?_eq_getElem hj]
    rfl

set_option maxHeartbeats 4000000 in
set_option maxRecDepth 100000 in
theorem refprint_walk (k : Nat) (l : List S39) (A : Option Addr) (cp : Nat) (r : Int) (w : World) (hG : Aside0 (Glob w)) (hr : Kd.C k39 w A l.length l) (hc : l.length ≤ cp) (hcap : l.length ≤ 1048576)
    (h : haulierref03_Check.f k l = some r) (hok : r = 0 → 0 < l.length ∧ Tree l ∧ Sized l ∧ (textOf l).length ≤ 140737488355328) :
    Calls Tryd.prog 15 #[.slice A l.length cp] w fun e w' => ∃ (A' : Option Addr) (c' : Nat) (t : List UInt8), e = .returned (.tuple #[.slice A' t.length c', .int .i64 r]) ∧ ReadsInt w' .u8 A' t.length (numsOf t) ∧ Below w.heap.size w w' ∧ t = if r = 0 then textOf l else [] := by
  have hck := haulierref03_Check.calls k A cp l r w hG hr hc h
  by_cases h0 : r = 0
  · obtain ⟨hl, ht, hs, hx⟩ := hok h0
    subst h0
    go_enter Tryd.func15, Tryd.ntmps15
    go_wp2_with (first
      | (go_at_call 13; refine hck.mono ?_; rintro e w2 ⟨rfl, hb2⟩; have hr2 := Kd.C_below hr hb2; have hG2 := hG.out.below hb2)
      | (go_at_call 27; refine (refwrite_walk l A cp w2 hr2 hG2 ht hs l.length ((l.length : Int) - 1) (by omega) (by omega) (by omega) [] _ _ _ (Rw.nil w2) (by rw [List.length_nil, Nat.zero_add]; exact hx)).mono ?_; rintro e w3 ⟨v3, rfl, hS3⟩; have hS : Rw w2 w2 v3 (textOf l) w3 := hS3; clear hS3; obtain ⟨A3, c3, rfl, hrd⟩ := hS.reads hx))
    go_ret2
    exact ⟨A3, c3, textOf l, rfl, hrd, hb2.trans (hS.2.1.mono hb2.size), rfl⟩
  · have hn : (r != 0) = true := bne_iff_ne.2 h0
    go_enter Tryd.func15, Tryd.ntmps15
    go_wp2_with (first
      | (go_at_call 13; refine hck.mono ?_; rintro e w2 ⟨rfl, hb2⟩))
    go_ret2
    exact ⟨none, 0, [], rfl, ⟨rfl, by simp, fun h => absurd h (Nat.lt_irrefl 0)⟩, hb2, by simp [h0]⟩

end Go.Proofs.YtldlkoncndlbhaaDoor.Rq

/- The program's 'Same', walked by hand. -/
namespace Go.Proofs.YtldlkoncndlbhaaDoor.Wr
open Go.RowKit Go.Proofs.YtldlkoncndlbhaaDoor.Utf Go.Proofs.YtldlkoncndlbhaaDoor.Tx Go.Proofs.YtldlkoncndlbhaaDoor.PSh Go.Proofs.YtldlkoncndlbhaaDoorW.PrintWords Go.Proofs.YtldlkoncndlbhaaDoorW.PrintLast Go.Proofs.YtldlkoncndlbhaaDoorW.PrintMore
set_option linter.unusedSimpArgs false
set_option linter.unusedVariables false

/-- What Print gives of a tree. -/
def given (r : Int) (l : List S39) : List UInt8 := if r = 0 then textOf l else []
set_option maxHeartbeats 4000000 in
set_option maxRecDepth 100000 in
theorem same_walk (k k2 : Nat) (l l2 : List S39) (A A2 : Option Addr) (cp cp2 : Nat) (r r2 : Int) (w : World) (hG : Aside0 (Glob w)) (hr : Kd.C k39 w A l.length l) (hc : l.length ≤ cp) (hcap : l.length ≤ 1048576)
    (hr2 : Kd.C k39 w A2 l2.length l2) (hc2 : l2.length ≤ cp2) (hcap2 : l2.length ≤ 1048576)
    (h : show_Check.f k l = some r) (hok : r = 0 → 0 < l.length ∧ Tree l ∧ Sized l ∧ (textOf l).length ≤ 140737488355328)
    (h2 : show_Check.f k2 l2 = some r2) (hok2 : r2 = 0 → 0 < l2.length ∧ Tree l2 ∧ Sized l2 ∧ (textOf l2).length ≤ 140737488355328) :
    Calls Tryd.prog 16 #[.slice A l.length cp, .slice A2 l2.length cp2] w fun e w' => e = .returned (.bool (r == 0 && r2 == 0 && (given r l == given r2 l2))) ∧ Below w.heap.size w w' := by
  have hp1 := print_walk k l A cp r w hG hr hc hcap h hok
  have e0 : (r == 0) = true ∨ (r == 0) = false := by cases (r == 0) <;> simp
  have e2 : (r2 == 0) = true ∨ (r2 == 0) = false := by cases (r2 == 0) <;> simp
  have hcmp : ∀ a b : List UInt8, ((⟨a.toArray⟩ : ByteArray).toList == (⟨b.toArray⟩ : ByteArray).toList) = (a == b) := fun a b => by
    rw [Pure.toList_data, Pure.toList_data]
  rcases e0 with e0 | e0 <;> rcases e2 with e2 | e2
  all_goals
    go_enter Tryd.func16, Tryd.ntmps16
    go_wp2_with (first
      | (go_at_call 14; refine hp1.mono ?_; rintro e w2 ⟨A', c', t, rfl, hrd, hb2, ht⟩; have hT := Aside0.mk ht; clear ht hp1)
      | (go_at_call 14; refine (print_walk k2 l2 A2 cp2 r2 w2 ⟨hG.out.below hb2⟩ (Kd.C_below hr2 hb2) hc2 hcap2 h2 hok2).mono ?_; rintro e w3 ⟨A3, c3, t3, rfl, hrd3, hb3, ht3⟩; have hT3 := Aside0.mk ht3; clear ht3; have hcv := string_of_reads (P := Tryd.prog) (src := 30) (dst := 9) (e := 5) (c := c') Tryd.underlying30 Tryd.underlying5 Tryd.underlying9 (hrd.below hb3); have hcv3 := string_of_reads (P := Tryd.prog) (src := 30) (dst := 9) (e := 5) (c := c3) Tryd.underlying30 Tryd.underlying5 Tryd.underlying9 hrd3; rw [Aw.str_nums] at hcv hcv3))
  all_goals go_ret
  all_goals
    refine ⟨?_, hb2.trans (hb3.mono hb2.size)⟩
    show Ending.returned (Value.bool _) = _
    rw [e0, e2]
    first | rfl | (rw [show given r l = t from hT.out.symm, show given r2 l2 = t3 from hT3.out.symm]; (try rw [hcmp]); simp)

end Go.Proofs.YtldlkoncndlbhaaDoor.Wr
