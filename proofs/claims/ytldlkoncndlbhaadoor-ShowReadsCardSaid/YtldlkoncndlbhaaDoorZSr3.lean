/- YtldlkoncndlbhaaDoorZSr3: texts of the seat (Builder, Quote, Write, Utf, StubPlain, PShx1), one behind the other, without what this claim's theorem does not rest on. -/
import Derived.Test.YtldlkoncndlbhaaDoorZSr2
import Derived.Shelf.Strings.BuilderRune
import Derived.Lib.OthersKept
import Derived.Lib.TrimUEq
import Derived.Lib.TrimU
import Derived.Deep.CutBlock
import Derived.Lib.IndexBytes

set_option linter.unusedVariables false
namespace Go.Proofs.YtldlkoncndlbhaaDoor.Bu
open Go.RowKit
theorem sizeBuilder : (Tryd.prog.info? 51).map (fun i => i.size) = some 2 := by kernel_rfl
theorem infoByte : (Tryd.prog.info? 5).map (fun i => (i.zero, i.size, i.bytes)) = some (some (.int .u8 0), 1, 1) := by kernel_rfl
theorem lies : liesAt Tryd.prog Tryd.prog.depth 51 (2 / Tryd.prog.cellsOf 51) 0 51 1 = true := by kernel_rfl
set_option maxRecDepth 100000 in
theorem check_used (b : Nat) (w : World) (h0 : w.cell? ⟨b, 0, none⟩ = some (.pointer (some ⟨b, 0, none⟩))) :
    Calls Tryd.prog 43 #[.pointer (some ⟨b, 0, none⟩)] w fun e w' => e = .returned (.tuple #[]) ∧ w' = w := by
  obtain ⟨j, hj, _⟩ := Option.map_eq_some_iff.1 sizeBuilder
  go_enter Tryd.func43, Tryd.ntmps43
  go_wp2
  rw [Lib.run_neq_ptr_same w _ Tryd.underlying49 hj]
  go_wp2
  go_end0
  exact ⟨rfl, rfl⟩
set_option maxRecDepth 100000 in
theorem check_fresh (b : Nat) (w : World) (h0 : w.cell? ⟨b, 0, none⟩ = some (.pointer none)) (hsh : w.shape? b = some (51, 2)) (hfz : w.frozen? ⟨b, 0, none⟩ = false) :
    Calls Tryd.prog 43 #[.pointer (some ⟨b, 0, none⟩)] w fun e w' => e = .returned (.tuple #[]) ∧ w' = w.setCell ⟨b, 0, none⟩ (.pointer (some ⟨b, 0, none⟩)) := by
  obtain ⟨j, hj, hjs⟩ := Option.map_eq_some_iff.1 sizeBuilder
  go_enter Tryd.func43, Tryd.ntmps43
  go_wp2
  rw [Lib.run_to_unsafe w ⟨b, 0, none⟩ Tryd.underlying49 Tryd.underlying88 hj (by rw [hjs]; decide) hsh (Nat.zero_lt_succ 1)]
  simp only [Result.andThen]
  rw [Oper.upon_value]
  go_wp2
  rw [run_callFunc_extern Tryd.func54 (by kernel_rfl) (by kernel_rfl) (by kernel_rfl) (e := Extern.AbiNoEscape.same) (by kernel_rfl)]
  rw [Lib.run_noEscape]
  simp only [Result.andThen]
  rw [Oper.upon_value]
  go_wp2
  rw [Lib.run_from_unsafe w ⟨b, 0, none⟩ Tryd.underlying88 Tryd.underlying49 hj hsh lies]
  simp only [Result.andThen]
  rw [Oper.upon_value]
  go_wp2
  go_end0
  exact ⟨rfl, rfl⟩
theorem check (B b : Nat) (bs : List Value) (w : World) (h : Lib.IsBuilder 51 5 B b bs w) :
    Calls Tryd.prog 43 #[.pointer (some ⟨b, 0, none⟩)] w fun e w' => e = .returned (.tuple #[]) ∧ (Lib.BuilderAt 51 5 B b (.pointer (some ⟨b, 0, none⟩)) bs w' ∧ Below B w w' ∧ Lib.OthersKept 5 (some b) w w') := by
  rcases h with h | h
  · refine (check_fresh b w h.cell0 h.shape h.frozen0).mono ?_
    rintro e w' ⟨rfl, rfl⟩
    exact ⟨rfl, h.used _, (Below.refl B w).setCell (p := ⟨b, 0, none⟩) h.1 _, (Lib.OthersKept.refl _ _ w).setCell ⟨b, 0, none⟩ rfl _⟩
  · refine (check_used b w h.cell0).mono ?_
    rintro e w' ⟨rfl, rfl⟩
    exact ⟨rfl, h, Below.refl B _, Lib.OthersKept.refl _ _ _⟩
set_option maxHeartbeats 2000000 in
set_option maxRecDepth 100000 in
theorem writeByte (B b : Nat) (bs : List Value) (c : Int) (w : World) (h : Lib.IsBuilder 51 5 B b bs w) (hlen : bs.length + 1 ≤ 140737488355328) (hBw : B ≤ w.heap.size) :
    Calls Tryd.prog 28 #[.pointer (some ⟨b, 0, none⟩), .int .u8 c] w fun e w' => e = .returned .nilIface ∧ (Lib.BuilderAt 51 5 B b (.pointer (some ⟨b, 0, none⟩)) (bs ++ [.int .u8 c]) w' ∧ Below B w w' ∧ Lib.OthersKept 5 (some b) w w') := by
  obtain ⟨i0, hi, hz0, hz1, hz2⟩ := info_parts infoByte
  go_enter Tryd.func28, Tryd.ntmps28
  go_wp2_with (go_at_call 43; refine (check B b bs _ h).mono ?_)
  rintro e w1 ⟨rfl, h1, hb1, hk1⟩
  obtain ⟨hB, v, hbk, hown, hne⟩ := h1
  have c0 : w1.cell? ⟨b, 0, none⟩ = some (.pointer (some ⟨b, 0, none⟩)) := by rw [Lib.cell_of_heap hbk]; rfl
  have c1 : w1.cell? ⟨b, 1, none⟩ = some v := by rw [Lib.cell_of_heap hbk]; rfl
  go_wp2_with (at_builtin; refine wpList_append_own _ rfl _ _ 30 rfl B 5 i0 (.int .u8 0) 1 1 Tryd.underlying30 hi hz0 hz1 hz2 rfl (by decide) _ _ _ rfl (hown.alloc _) ⟨w1.heap.size, 0, none⟩ 1 1 [.int .u8 c] rfl rfl ?c1 ?c2 ?c3 ?c4 ?c5 ?_)
  case c1 =>
    intro j u hj
    match j, hj with
    | 0, hj => simp at hj; subst hj; simp [Addr.add]
  case c2 => intro u hu; simp at hu; subst hu; rfl
  case c3 => unfold maxLen; omega
  case c4 => omega
  case c5 => have := hb1.size; simp; omega
  intro v' w2 hown' hgrow _
  have hlt : b < w1.heap.size := by
    rcases Nat.lt_or_ge b w1.heap.size with h' | h'
    · exact h'
    · simp [Array.getElem?_eq_none h'] at hbk
  have hb2 : w2.heap[b]? = some (.cells #[.pointer (some ⟨b, 0, none⟩), v] 51 (0, 0)) := by
    rw [hgrow.block b (by simp; omega) (fun e => hne e.symm), Lib.alloc_old w1 _ b hlt]
    exact hbk
  have d0 : w2.cell? ⟨b, 0, none⟩ = some (.pointer (some ⟨b, 0, none⟩)) := by rw [Lib.cell_of_heap hb2]; rfl
  have d1 : w2.cell? ⟨b, 1, none⟩ = some v := by rw [Lib.cell_of_heap hb2]; rfl
  have f1 : w2.frozen? ⟨b, 1, none⟩ = false := Lib.frozen_of_heap hb2 1
  obtain ⟨g, cap, rfl⟩ : ∃ g cap, v' = .slice (some ⟨g, 0, none⟩) (bs.length + 1) cap := by
    rcases hown'.2 with ⟨_, h0⟩ | ⟨g, cap, cur, hv, _⟩
    · omega
    · exact ⟨g, cap, hv⟩
  go_wp2
  go_ret
  refine ⟨rfl, ?_, ?_, ((hk1.alloc _).grown hgrow (Lib.ownsRowF_kind (World.ownsRowF_of (hown.alloc _)))).setCell ⟨b, 1, none⟩ rfl _⟩
  · exact Lib.BuilderAt.put hB hb2 (bs' := bs ++ [.int .u8 c]) (by simpa using hown') (by decide)
  · exact ((hb1.alloc (by have := hb1.size; omega) _).grown hgrow (by have := hb1.size; simp; omega) (fun k hk => (hown.lt k hk).1)).setCell (p := ⟨b, 1, none⟩) hB _
set_option maxHeartbeats 2000000 in
set_option maxRecDepth 100000 in
theorem writeString (B b : Nat) (bs : List Value) (s : ByteArray) (w : World) (h : Lib.IsBuilder 51 5 B b bs w) (hlen : bs.length + s.size ≤ 140737488355328) (hBw : B ≤ w.heap.size) :
    Calls Tryd.prog 30 #[.pointer (some ⟨b, 0, none⟩), .string s] w fun e w' => e = .returned (.tuple #[.int .i64 s.size, .nilIface]) ∧ (Lib.BuilderAt 51 5 B b (.pointer (some ⟨b, 0, none⟩)) (bs ++ Lib.strCells s) w' ∧ Below B w w' ∧ Lib.OthersKept 5 (some b) w w') := by
  obtain ⟨i0, hi, hz0, hz1, hz2⟩ := info_parts infoByte
  go_enter Tryd.func30, Tryd.ntmps30
  go_wp2_with (go_at_call 43; refine (check B b bs _ h).mono ?_)
  rintro e w1 ⟨rfl, h1, hb1, hk1⟩
  obtain ⟨hB, v, hbk, hown, hne⟩ := h1
  have c0 : w1.cell? ⟨b, 0, none⟩ = some (.pointer (some ⟨b, 0, none⟩)) := by rw [Lib.cell_of_heap hbk]; rfl
  have c1 : w1.cell? ⟨b, 1, none⟩ = some v := by rw [Lib.cell_of_heap hbk]; rfl
  go_wp2_with (at_builtin; refine Lib.wpList_append_own_string _ rfl _ _ 30 9 rfl B 5 i0 Tryd.underlying30 Tryd.underlying9 hi hz0 hz1 hz2 _ _ _ rfl hown s rfl ?c3 ?c4 ?c5 ?_)
  case c3 => unfold maxLen; omega
  case c4 => omega
  case c5 => have := hb1.size; omega
  intro v' w2 hown' hgrow _
  have hlt : b < w1.heap.size := by
    rcases Nat.lt_or_ge b w1.heap.size with h' | h'
    · exact h'
    · simp [Array.getElem?_eq_none h'] at hbk
  have hb2 : w2.heap[b]? = some (.cells #[.pointer (some ⟨b, 0, none⟩), v] 51 (0, 0)) := by
    rw [hgrow.block b hlt (fun e => hne e.symm)]
    exact hbk
  have d0 : w2.cell? ⟨b, 0, none⟩ = some (.pointer (some ⟨b, 0, none⟩)) := by rw [Lib.cell_of_heap hb2]; rfl
  have d1 : w2.cell? ⟨b, 1, none⟩ = some v := by rw [Lib.cell_of_heap hb2]; rfl
  have f1 : w2.frozen? ⟨b, 1, none⟩ = false := Lib.frozen_of_heap hb2 1
  obtain ⟨ao, n', cap, rfl⟩ : ∃ ao n' cap, v' = .slice ao n' cap := by
    rcases hown'.2 with ⟨hv, _⟩ | ⟨g, cap, cur, hv, _⟩
    · exact ⟨_, _, _, hv⟩
    · exact ⟨_, _, _, hv⟩
  go_wp2
  go_ret2
  refine ⟨rfl, ?_, ?_, (hk1.grown hgrow (Lib.ownsRowF_kind (World.ownsRowF_of hown))).setCell ⟨b, 1, none⟩ rfl _⟩
  · exact Lib.BuilderAt.put hB hb2 (bs' := bs ++ Lib.strCells s) (by simpa [Lib.strCells_length] using hown') (by decide)
  · exact (hb1.grown hgrow (by have := hb1.size; omega) (fun k hk => (hown.lt k hk).1)).setCell (p := ⟨b, 1, none⟩) hB _
set_option maxHeartbeats 4000000 in
set_option maxRecDepth 100000 in
theorem writeRune (B b : Nat) (bs : List Value) (r : Int) (hr0 : -2147483648 ≤ r) (hr1 : r ≤ 2147483647) (w : World) (h : Lib.IsBuilder 51 5 B b bs w) (hlen : bs.length + 4 ≤ 140737488355328) (hBw : B ≤ w.heap.size) :
    Calls Tryd.prog 29 #[.pointer (some ⟨b, 0, none⟩), .int .i32 r] w fun e w' => e = .returned (.tuple #[.int .i64 (Lib.runeCells r).length, .nilIface]) ∧ (Lib.BuilderAt 51 5 B b (.pointer (some ⟨b, 0, none⟩)) (bs ++ Lib.runeCells r) w' ∧ Below B w w' ∧ Lib.OthersKept 5 (some b) w w') := by
  have hk4 := Lib.runeCells_le r
  go_enter Tryd.func29, Tryd.ntmps29
  go_wp2_with (go_at_call 43; refine (check B b bs _ h).mono ?_)
  rintro e w1 ⟨rfl, h1, hb1, hk1⟩
  obtain ⟨hB, v, hbk, hown, hne⟩ := h1
  obtain ⟨ao, cap, rfl⟩ : ∃ ao cap, v = .slice ao bs.length cap := by
    rcases hown.2 with ⟨hv, h0⟩ | ⟨g, cap, cur, hv, _⟩
    · exact ⟨none, 0, by rw [hv, h0]⟩
    · exact ⟨_, _, hv⟩
  have c0 : w1.cell? ⟨b, 0, none⟩ = some (.pointer (some ⟨b, 0, none⟩)) := by rw [Lib.cell_of_heap hbk]; rfl
  have c1 : w1.cell? ⟨b, 1, none⟩ = some (.slice ao bs.length cap) := by rw [Lib.cell_of_heap hbk]; rfl
  go_wp2_with (go_at_call 44; refine (Tryd.utf8_AppendRune_plain B _ bs.length bs r hr0 hr1 _ hown hlen (by have := hb1.size; omega)).mono ?_)
  rintro e w2 ⟨v', rfl, hown', o, hgrow⟩
  have hlt : b < w1.heap.size := by
    rcases Nat.lt_or_ge b w1.heap.size with h' | h'
    · exact h'
    · simp [Array.getElem?_eq_none h'] at hbk
  have hb2 : w2.heap[b]? = some (.cells #[.pointer (some ⟨b, 0, none⟩), .slice ao bs.length cap] 51 (0, 0)) := by
    rw [hgrow.block b (by simp; omega) (fun e => hne e.symm), Lib.alloc_old w1 _ b hlt]
    exact hbk
  have d0 : w2.cell? ⟨b, 0, none⟩ = some (.pointer (some ⟨b, 0, none⟩)) := by rw [Lib.cell_of_heap hb2]; rfl
  have d1 : w2.cell? ⟨b, 1, none⟩ = some (.slice ao bs.length cap) := by rw [Lib.cell_of_heap hb2]; rfl
  have f1 : w2.frozen? ⟨b, 1, none⟩ = false := Lib.frozen_of_heap hb2 1
  obtain ⟨g, cap', rfl⟩ : ∃ g cap', v' = .slice (some ⟨g, 0, none⟩) (bs.length + (Lib.runeCells r).length) cap' := by
    rcases hown'.2 with ⟨_, h0⟩ | ⟨g, cap', cur, hv, _⟩
    · omega
    · exact ⟨g, cap', hv⟩
  go_wp2
  go_ret2
  refine ⟨?_, ?_, ?_, ((hk1.alloc _).grown hgrow (Lib.ownsRowF_kind (World.ownsRowF_of (hown.alloc _)))).setCell ⟨b, 1, none⟩ rfl _⟩
  · have e : ((bs.length : Int) + ((Lib.runeCells r).length : Int) - (bs.length : Int)) = ((Lib.runeCells r).length : Int) := by omega
    simp [e]
  · exact Lib.BuilderAt.put hB hb2 (bs' := bs ++ Lib.runeCells r) (by simpa using hown') (by decide)
  · exact ((hb1.alloc (by have := hb1.size; omega) _).grown hgrow (by have := hb1.size; simp; omega) (fun k hk => (hown.lt k hk).1)).setCell (p := ⟨b, 1, none⟩) hB _
end Go.Proofs.YtldlkoncndlbhaaDoor.Bu
set_option linter.unusedVariables false
set_option linter.unusedSimpArgs false
namespace Go.Proofs.YtldlkoncndlbhaaDoor.Qu
open Go.RowKit Go.Proofs.YtldlkoncndlbhaaDoor.Utf Go.Proofs.YtldlkoncndlbhaaDoor.Bu Go.Lib Go.Proofs.YtldlkoncndlbhaaDoorW.PrintWords Go.Proofs.YtldlkoncndlbhaaDoorW.PrintLast Go.Proofs.YtldlkoncndlbhaaDoorW.PrintMore
theorem iterPos_of {w : World} {b : Nat} {s : ByteArray} {pos : Nat} (h : w.heap[b]? = some (.stringIter s pos)) : w.iterPos b = pos := by
  simp [World.iterPos, h]
theorem byteCells_append (a b : List UInt8) : byteCells (a ++ b) = byteCells a ++ byteCells b := List.map_append
/-- What the loop keeps: the builder holds 'out', the iterator stands at 'pos'. -/
def At (w : World) (k : Nat) (wr : World) (s : ByteArray) (out : List UInt8) (pos : Nat) : Prop :=
  Lib.IsBuilder 51 5 w.heap.size w.heap.size (byteCells out) wr ∧ wr.heap[k]? = some (.stringIter s pos) ∧ Below w.heap.size w wr ∧ w.heap.size < k
theorem piece_le (l : List UInt8) : (piece l).length ≤ 6 * adv l := by
  have h1 := wid_le l
  unfold piece adv
  split
  · simp
  · split
    · simp; omega
    · split
      · simp; omega
      · rw [List.length_take]; omega
theorem At.byte {w wr : World} {k : Nat} {s : ByteArray} {out : List UInt8} {pos : Nat} (h : At w k wr s out pos) (hl : out.length + 1 ≤ 140737488355328) (c : UInt8) (ci : Int) (hc : ci = c.toNat) :
    Calls Tryd.prog 28 #[.pointer (some ⟨w.heap.size, 0, none⟩), .int .u8 ci] wr fun e w' => e = .returned .nilIface ∧ At w k w' s (out ++ [c]) pos := by
  subst hc
  refine (writeByte w.heap.size w.heap.size (byteCells out) c.toNat wr h.1 (by rw [byteCells, List.length_map]; exact hl) h.2.2.1.size).mono ?_
  rintro e w1 ⟨rfl, h1, hb1, hk1⟩
  exact ⟨rfl, .inr (by rw [byteCells_append]; exact h1), hk1.iter h.2.1 (by have := h.2.2.2; omega), h.2.2.1.trans hb1, h.2.2.2⟩
theorem At.string {w wr : World} {k : Nat} {s : ByteArray} {out : List UInt8} {pos : Nat} (h : At w k wr s out pos) (t : ByteArray) (hl : out.length + t.size ≤ 140737488355328) :
    Calls Tryd.prog 30 #[.pointer (some ⟨w.heap.size, 0, none⟩), .string t] wr fun e w' => e = .returned (.tuple #[.int .i64 t.size, .nilIface]) ∧ At w k w' s (out ++ t.data.toList) pos := by
  refine (writeString w.heap.size w.heap.size (byteCells out) t wr h.1 (by rw [byteCells, List.length_map]; exact hl) h.2.2.1.size).mono ?_
  rintro e w1 ⟨rfl, h1, hb1, hk1⟩
  exact ⟨rfl, .inr (by rw [byteCells_append]; exact h1), hk1.iter h.2.1 (by have := h.2.2.2; omega), h.2.2.1.trans hb1, h.2.2.2⟩
theorem At.rune {w wr : World} {k : Nat} {s : ByteArray} {out : List UInt8} {pos : Nat} (h : At w k wr s out pos) (r : Nat) (hr : r ≤ 2147483647) (hl : out.length + 4 ≤ 140737488355328) :
    Calls Tryd.prog 29 #[.pointer (some ⟨w.heap.size, 0, none⟩), .int .i32 (r : Int)] wr fun e w' => (∃ n : Int, e = .returned (.tuple #[.int .i64 n, .nilIface])) ∧ At w k w' s (out ++ encodeRune r) pos := by
  refine (writeRune w.heap.size w.heap.size (byteCells out) r (by omega) (by omega) wr h.1 (by rw [byteCells, List.length_map]; exact hl) h.2.2.1.size).mono ?_
  rintro e w1 ⟨rfl, h1, hb1, hk1⟩
  exact ⟨⟨_, rfl⟩, .inr (by rw [byteCells_append, byteCells_encodeRune]; exact h1), hk1.iter h.2.1 (by have := h.2.2.2; omega), h.2.2.1.trans hb1, h.2.2.2⟩
theorem runeBytes (s : ByteArray) (pos : Nat) (hp : pos < s.size) : ∃ l : List UInt8, s.data.toList.drop pos = l ∧ l ≠ [] ∧ Utf8.decode s pos = decodeL l ∧ l.length = s.size - pos := by
  have hl : (s.data.toList.drop pos).length = s.size - pos := by rw [List.length_drop, Array.length_toList]; rfl
  exact ⟨_, rfl, fun e => by rw [e] at hl; simp at hl; omega, (decodeL_drop s pos).symm, hl⟩
theorem BuilderAt_iter {T e : TypeId} {B b : Nat} {p : Value} {bs : List Value} {w : World} (h : BuilderAt T e B b p bs w) {k : Nat} {s : ByteArray} {pos : Nat} (hk : w.heap[k]? = some (.stringIter s pos)) (pos' : Nat) :
    BuilderAt T e B b p bs (w.iterAt k s pos') := by
  obtain ⟨hB, v, hb, hown, hne⟩ := h
  have hkb : b ≠ k := by
    intro e1
    rw [e1, hk] at hb
    cases hb
  refine ⟨hB, v, (iterAt_other w k b s pos' hkb).trans hb, ⟨hown.1, ?_⟩, hne⟩
  rcases hown.2 with hn | ⟨g, cap, cur, hv, hbg, hg, rest⟩
  · exact .inl hn
  · have hkg : g ≠ k := by
      intro e1
      rw [e1, hk] at hg
      cases hg
    exact .inr ⟨g, cap, cur, hv, hbg, (iterAt_other w k g s pos' hkg).trans hg, rest⟩
theorem At.next {w wr : World} {k : Nat} {s : ByteArray} {out : List UInt8} {pos : Nat} (h : At w k wr s out pos) (n : Nat) : At w k (wr.iterAt k s (pos + n)) s out (pos + n) :=
  ⟨h.1.elim (fun x => .inl (BuilderAt_iter x h.2.1 _)) (fun x => .inr (BuilderAt_iter x h.2.1 _)), iterAt_heap _ _ _ _ _ h.2.1, below_iterAt h.2.2.1 (Nat.le_of_lt h.2.2.2) _ _, h.2.2.2⟩
theorem IsBuilder_alloc {T e : TypeId} {B b : Nat} {p : Value} {bs : List Value} {w : World} (h : BuilderAt T e B b p bs w) (o : Obj) : BuilderAt T e B b p bs (w.alloc o) := by
  have hlt := h.lt
  obtain ⟨hB, v, hb, hown, hne⟩ := h
  exact ⟨hB, v, (alloc_old w o b hlt).trans hb, hown.kept (World.grownBy_alloc w o none) (by cases hv : v.ownBlock <;> simp), hne⟩
theorem inner_step (l : List UInt8) (hne : l ≠ []) : inner l = piece l ++ inner (l.drop (adv l)) := by
  conv => lhs; unfold inner
  rw [dif_neg hne]
theorem and15 (c : Nat) (h : c < 2147483648) : bits BinOp.and IntKind.i32 (c : Int) 15 = ((c % 16 : Nat) : Int) := by
  have := bits_mask .i32 31 (by decide) wraps_i32 4 (by omega) (c : Int) (by omega) (by omega)
  simpa using this
theorem hexAt : ∀ (n : Nat) (h : n < (⟨#[48, 49, 50, 51, 52, 53, 54, 55, 56, 57, 97, 98, 99, 100, 101, 102]⟩ : ByteArray).size), (⟨#[48, 49, 50, 51, 52, 53, 54, 55, 56, 57, 97, 98, 99, 100, 101, 102]⟩ : ByteArray)[n] = hexOf n := by
  intro n h
  have h16 : n < 16 := h
  match n, h16, h with
  | 0, _, _ => rfl
  | 1, _, _ => rfl
  | 2, _, _ => rfl
  | 3, _, _ => rfl
  | 4, _, _ => rfl
  | 5, _, _ => rfl
  | 6, _, _ => rfl
  | 7, _, _ => rfl
  | 8, _, _ => rfl
  | 9, _, _ => rfl
  | 10, _, _ => rfl
  | 11, _, _ => rfl
  | 12, _, _ => rfl
  | 13, _, _ => rfl
  | 14, _, _ => rfl
  | 15, _, _ => rfl
  | n + 16, h, _ => omega
theorem inner_nil : inner [] = [] := by unfold inner; rw [dif_pos rfl]
/-- The round's end. -/
theorem rel_step {w wr : World} {k : Nat} {s : ByteArray} {out l : List UInt8} {pos : Nat} (hl : s.data.toList.drop pos = l) (hne : l ≠ []) (hlen : l.length = s.size - pos) (hol : out.length ≤ 1 + 6 * pos)
    (hin : Aside0 (out ++ inner l = 34 :: inner s.data.toList)) (h : At w k wr s (out ++ piece l) (pos + adv l)) :
    ∃ (pos : Nat) (out : List UInt8), At w k wr s out pos ∧ pos ≤ s.size ∧ out.length ≤ 1 + 6 * pos ∧ Aside0 (out ++ inner (s.data.toList.drop pos) = 34 :: inner s.data.toList) := by
  have h1 := piece_le l
  have h2 := wid_le l
  have h3 : 0 < l.length := List.length_pos_iff.2 hne
  refine ⟨pos + adv l, out ++ piece l, h, ?_, by rw [List.length_append]; omega, ⟨?_⟩⟩
  · unfold adv
    split <;> omega
  · rw [List.append_assoc, ← List.drop_drop, hl, ← inner_step l hne]
    exact hin.out
set_option maxHeartbeats 4000000 in
set_option maxRecDepth 100000 in
theorem quote_walk (s : ByteArray) (w : World) (hm : s.size ≤ 17592186044416) :
    Calls Tryd.prog 17 #[.string s] w fun e w' => e = .returned (.string ⟨(inQuotes s.data.toList).toArray⟩) ∧ Below w.heap.size w w' := by
  go_enter Tryd.func17, Tryd.ntmps17
  go_wp2_with (go_at_call 28; refine (writeByte w.heap.size w.heap.size [] 34 _ (fresh_isBuilder 51 5 w) (by simp) (by simp)).mono ?_)
  rintro e w1 ⟨rfl, h1, hb1, hk1⟩
  have hlt := h1.lt
  have hA : At w w1.heap.size (w1.alloc (.stringIter s 0)) s [34] 0 := ⟨.inr (IsBuilder_alloc h1 _), World.iter_heap w1 s 0, ((Below.refl _ _).alloc (Nat.le_refl _) _).trans (hb1.alloc (by have := hb1.size; simp at this; omega) _), hlt⟩
  generalize hk : w1.heap.size = k at hA
  go_wp2
  go_loopw [5] (fun _ wr => ∃ (pos : Nat) (out : List UInt8), At w k wr s out pos ∧ pos ≤ s.size ∧ out.length ≤ 1 + 6 * pos ∧ Aside0 (out ++ inner (s.data.toList.drop pos) = 34 :: inner s.data.toList)) (fun _ wr => s.size - wr.iterPos k)
  case atStart => exact ⟨0, [34], hA, Nat.zero_le _, by simp, ⟨by rw [List.drop_zero]; rfl⟩⟩
  case round =>
    obtain ⟨pos, out, hat, hps, hol, hin⟩ := hrel
    have hpos0 := iterPos_of hat.2.1
    by_cases hp : pos < s.size
    · obtain ⟨l, hl, hne, hd, hlen⟩ := runeBytes s pos hp
      have hnx : ∀ ty, (Instr.next (.pointer (some ⟨k, 0, none⟩)) true ty).run Tryd.prog wr = _ := fun ty => Lib.run_next_any_at wr k s pos ty hat.2.1 hp
      rw [hd] at hnx
      have hadv := dec_adv l hne
      have hN := hat.next (decodeL l).2
      have hstep := inner_step l hne
      rw [hl] at hin
      have hc31 : (decodeL l).1 ≤ 2147483647 := Nat.le_trans (decodeL_rune l) (by decide)
      have hm1 := piece_mark l hne
      have hm2 := piece_low l hne
      have hm3 := piece_plain l hne
      have hpl := piece_le l
      generalize hW1 : wr.iterAt k s (pos + (decodeL l).2) = W1 at *
      generalize (decodeL l).1 = c at *
      generalize (decodeL l).2 = n at *
      subst hadv
      clear hd hat
      by_cases hmark : c = 34 ∨ c = 92
      · by_cases h34 : c = 34
        · have e1 : ((c : Int) == 34) = true := by rw [h34]; rfl
          have hpm := hm1 hmark
          clear h34 hmark hm1 hm2 hm3
          go_wp2_with (first
            | (go_at_call 28; refine (At.byte hN ?hl 92 _ (by rfl)).mono ?_; (case hl => omega); rintro e w3 ⟨rfl, hA2⟩; clear hN; have hN := hA2; clear hA2)
            | (go_at_call 29; refine (At.rune hN c hc31 ?hl).mono ?_; (case hl => rw [List.length_append]; simp; omega); rintro e w4 ⟨⟨_, rfl⟩, hA2⟩; clear hN; have hN := hA2; clear hA2))
          go_roundw
          case rel =>
            refine rel_step hl hne hlen hol hin ?_
            rw [hpm, ← List.append_assoc]
            exact hN
          case measure => rw [iterPos_of hN.2.1, hpos0]; have := adv_pos l; omega
        · have e1 : ((c : Int) == 34) = false := by rw [beq_eq_false_iff_ne]; omega
          have e2 : ((c : Int) == 92) = true := by rw [beq_iff_eq]; omega
          have hpm := hm1 hmark
          clear h34 hmark hm1 hm2 hm3
          go_wp2_with (first
            | (go_at_call 28; refine (At.byte hN ?hl 92 _ (by rfl)).mono ?_; (case hl => omega); rintro e w3 ⟨rfl, hA2⟩; clear hN; have hN := hA2; clear hA2)
            | (go_at_call 29; refine (At.rune hN c hc31 ?hl).mono ?_; (case hl => rw [List.length_append]; simp; omega); rintro e w4 ⟨⟨_, rfl⟩, hA2⟩; clear hN; have hN := hA2; clear hA2))
          go_roundw
          case rel =>
            refine rel_step hl hne hlen hol hin ?_
            rw [hpm, ← List.append_assoc]
            exact hN
          case measure => rw [iterPos_of hN.2.1, hpos0]; have := adv_pos l; omega
      · by_cases hlow : c < 32
        · have e1 : ((c : Int) == 34) = false := by rw [beq_eq_false_iff_ne]; omega
          have e2 : ((c : Int) == 92) = false := by rw [beq_eq_false_iff_ne]; omega
          have e3 : decide ((c : Int) < 32) = true := by rw [decide_eq_true_iff]; omega
          have hand := and15 c (by omega)
          have hmod : c % 16 < 16 := Nat.mod_lt _ (by omega)
          have hs4 : (⟨#[92, 117, 48, 48]⟩ : ByteArray).size = 4 := rfl
          have hs5 : (⟨#[92, 117, 48, 48]⟩ : ByteArray).data.toList.length = 4 := rfl
          go_wp2_with (first
            | (go_at_call 30; refine (At.string hN _ ?hl).mono ?_; (case hl => rw [hs4]; omega); rintro e w2 ⟨rfl, hA2⟩; clear hN; have hN := hA2; clear hA2)
            | (go_at_call 28; first
                | (refine (At.byte hN ?hl (hexOf (c / 16)) _ (by rw [hexAt])).mono ?_; (case hl => rw [List.length_append, hs5]; omega); rintro e w3 ⟨rfl, hA2⟩; clear hN; have hN := hA2; clear hA2)
                | (refine (At.byte hN ?hl (hexOf (c % 16)) _ (by rw [hexAt])).mono ?_; (case hl => rw [List.length_append, List.length_append, hs5]; simp; omega); rintro e w4 ⟨rfl, hA2⟩; clear hN; have hN := hA2; clear hA2)))
          go_roundw
          case rel =>
            refine rel_step hl hne hlen hol hin ?_
            rw [hm2 hmark hlow, ← List.append_assoc, ← List.append_assoc]
            exact hN
          case measure => rw [iterPos_of hN.2.1, hpos0]; have := adv_pos l; omega
        · have e1 : ((c : Int) == 34) = false := by rw [beq_eq_false_iff_ne]; omega
          have e2 : ((c : Int) == 92) = false := by rw [beq_eq_false_iff_ne]; omega
          have e3 : decide ((c : Int) < 32) = false := by rw [decide_eq_false_iff_not]; omega
          go_wp2_with (go_at_call 29; refine (At.rune hN c hc31 ?hl).mono ?_; (case hl => omega); rintro e w4 ⟨⟨_, rfl⟩, hA2⟩; clear hN; have hN := hA2; clear hA2)
          go_roundw
          case rel =>
            refine rel_step hl hne hlen hol hin ?_
            rw [hm3 hmark hlow]
            exact hN
          case measure => rw [iterPos_of hN.2.1, hpos0]; have := adv_pos l; omega
    · obtain rfl : pos = s.size := by omega
      have hnx : ∀ ty, (Instr.next (.pointer (some ⟨k, 0, none⟩)) true ty).run Tryd.prog wr = _ := fun ty => Lib.run_next_end_at wr k s s.size ty hat.2.1 hp
      have hdrop : s.data.toList.drop s.size = [] := List.drop_eq_nil_of_le (Nat.le_refl _)
      rw [hdrop, inner_nil, List.append_nil] at hin
      have hN := hat
      clear hat
      go_wp2_with (first
        | (go_at_call 28; refine (At.byte hN ?hl 34 _ (by rfl)).mono ?_; (case hl => omega); rintro e w3 ⟨rfl, hA2⟩; clear hN; have hN := hA2; clear hA2)
        | (go_at_call 26; refine (Tryd.Builder_String_any w.heap.size w.heap.size _ _ hN.1 hN.2.2.1.size).mono ?_; rintro e w5 ⟨rfl, hb5⟩))
      go_ret
      exact ⟨by rw [hin.out]; rfl, hN.2.2.1.trans hb5⟩
end Go.Proofs.YtldlkoncndlbhaaDoor.Qu
set_option linter.unusedVariables false
set_option linter.unusedSimpArgs false
namespace Go.Proofs.YtldlkoncndlbhaaDoor.Wr
open Go.RowKit Go.Proofs.YtldlkoncndlbhaaDoor.Utf Go.Proofs.YtldlkoncndlbhaaDoor.Bu Go.Proofs.YtldlkoncndlbhaaDoor.Tx Go.Proofs.YtldlkoncndlbhaaDoor.PSh Go.Lib Go.Proofs.YtldlkoncndlbhaaDoorW.PrintWords Go.Proofs.YtldlkoncndlbhaaDoorW.PrintLast Go.Proofs.YtldlkoncndlbhaaDoorW.PrintMore
theorem below_grow (w : World) (os : Array Obj) : Below w.heap.size w (Sort.grow w os) :=
  ⟨rfl, rfl, rfl, by simp [Sort.grow], fun i hi => by simp [Sort.grow, Array.getElem?_append_left hi]⟩
/-- num.Text. -/
theorem text_walk (a : Int) (h0 : -9223372036854775808 ≤ a) (h1 : a ≤ 9223372036854775807) (w : World) (hG : Glob w) :
    Calls Tryd.prog 41 #[.int .i64 a] w fun e w' => e = .returned (.string ⟨(Lib.itoa a).toArray⟩) ∧ Below w.heap.size w w' := by
  have hi : Calls Tryd.prog 53 #[.int .i64 a] w fun e w' => e = .returned (.string ⟨(Lib.itoa a).toArray⟩) ∧ Below w.heap.size w w' := by
    refine (Tryd.strconv_Itoa a h0 h1 w hG.1).mono ?_
    rintro e w' ⟨rfl, k, os, rfl⟩
    exact ⟨rfl, (pw_below_drewN (Below.refl _ _) k).trans (below_grow (w.drewN k) os)⟩
  go_enter Tryd.func41, Tryd.ntmps41
  go_wp2_with (go_at_call 53; refine hi.mono ?_; rintro e w1 ⟨rfl, hb⟩)
  go_ret
  exact ⟨rfl, hb⟩
theorem kept_below {e : TypeId} {bo : Option Nat} {a w w' : World} (h : OthersKept e bo a w) (hb : Below w.heap.size w w') : OthersKept e bo a w' := fun k x hk h1 h2 => by
  have hw := h k x hk h1 h2
  exact (hb.block k (Array.getElem?_eq_some_iff.1 hw).1).trans hw
theorem BuilderAt_below {T e : TypeId} {B b : Nat} {p : Value} {bs : List Value} {w w' : World} (h : BuilderAt T e B b p bs w) (hb : Below w.heap.size w w') : BuilderAt T e B b p bs w' := by
  have hlt := h.lt
  obtain ⟨hB, v, hh, hown, hne⟩ := h
  exact ⟨hB, v, (hb.block b hlt).trans hh, own_move hown (fun k hk => hb.block k (own_lt hown k hk)), hne⟩
/-- What goes on being so: the builder holds 'out'; nothing below has turned; of what stood in 'a' only the builder and rows of bytes have. -/
def St (w0 a : World) (b : Nat) (out : List UInt8) (wr : World) : Prop :=
  Lib.IsBuilder 51 5 w0.heap.size b (byteCells out) wr ∧ Below w0.heap.size w0 wr ∧ OthersKept 5 (some b) a wr
theorem St.below {w0 a : World} {b : Nat} {out : List UInt8} {wr w' : World} (h : St w0 a b out wr) (hb : Below wr.heap.size wr w') : St w0 a b out w' :=
  ⟨h.1.elim (fun x => .inl (BuilderAt_below x hb)) (fun x => .inr (BuilderAt_below x hb)), h.2.1.trans (hb.mono h.2.1.size), kept_below h.2.2 hb⟩
theorem St.byte {w0 a : World} {b : Nat} {out : List UInt8} {wr : World} (h : St w0 a b out wr) (hl : out.length + 1 ≤ 140737488355328) (c : UInt8) (ci : Int) (hc : ci = c.toNat) :
    Calls Tryd.prog 28 #[.pointer (some ⟨b, 0, none⟩), .int .u8 ci] wr fun e w' => e = .returned .nilIface ∧ St w0 a b (out ++ [c]) w' := by
  subst hc
  refine (writeByte w0.heap.size b (byteCells out) c.toNat wr h.1 (by rw [byteCells, List.length_map]; exact hl) h.2.1.size).mono ?_
  rintro e w1 ⟨rfl, h1, hb1, hk1⟩
  exact ⟨rfl, .inr (by rw [Qu.byteCells_append]; exact h1), h.2.1.trans hb1, h.2.2.trans hk1⟩
theorem St.string {w0 a : World} {b : Nat} {out : List UInt8} {wr : World} (h : St w0 a b out wr) (t : ByteArray) (hl : out.length + t.size ≤ 140737488355328) :
    Calls Tryd.prog 30 #[.pointer (some ⟨b, 0, none⟩), .string t] wr fun e w' => (∃ n : Int, e = .returned (.tuple #[.int .i64 n, .nilIface])) ∧ St w0 a b (out ++ t.data.toList) w' := by
  refine (writeString w0.heap.size b (byteCells out) t wr h.1 (by rw [byteCells, List.length_map]; exact hl) h.2.1.size).mono ?_
  rintro e w1 ⟨rfl, h1, hb1, hk1⟩
  exact ⟨⟨_, rfl⟩, .inr (by rw [Qu.byteCells_append]; exact h1), h.2.1.trans hb1, h.2.2.trans hk1⟩
theorem St.box {w0 a : World} {b : Nat} {out : List UInt8} {wr : World} (h : St w0 a b out wr) {k : Nat} {cs : Array Value} {fz : Nat × Nat} (hk : a.heap[k]? = some (.cells cs 39 fz)) (hne : k ≠ b) : wr.heap[k]? = some (.cells cs 39 fz) :=
  h.2.2 k _ hk (fun e => hne (Option.some.inj e)) (fun _ _ e => by cases e)
theorem St.list {w0 a : World} {b : Nat} {out : List UInt8} {wr : World} (h : St w0 a b out wr) (t : List UInt8) (hl : out.length + t.length ≤ 140737488355328) :
    Calls Tryd.prog 30 #[.pointer (some ⟨b, 0, none⟩), .string ⟨t.toArray⟩] wr fun e w' => (∃ n : Int, e = .returned (.tuple #[.int .i64 n, .nilIface])) ∧ St w0 a b (out ++ t) w' :=
  St.string h ⟨t.toArray⟩ (by show out.length + t.toArray.size ≤ _; rw [List.size_toArray]; exact hl)
/-- Seen from before the box was made. -/
theorem St.lift {w0 a w1 : World} {b : Nat} {out : List UInt8} {wr : World} (h : St w0 w1 b out wr) (hk : OthersKept 5 (some b) a w1) : St w0 a b out wr := ⟨h.1, h.2.1, hk.trans h.2.2⟩
theorem St.cell {w0 a : World} {b : Nat} {out : List UInt8} {wr : World} (h : St w0 a b out wr) {k : Nat} {cs : Array Value} {fz : Nat × Nat} (hk : a.heap[k]? = some (.cells cs 39 fz)) (hne : k ≠ b) (j : Nat) (v : Value) (hv : cs[j]? = some v) : wr.cell? ⟨k, j, none⟩ = some v := by
  rw [World.cell?, h.box hk hne]
  exact hv
set_option maxHeartbeats 4000000 in
set_option maxRecDepth 100000 in
theorem write_walk (l : List S39) (A : Option Addr) (cp : Nat) (w0 : World) (b : Nat) (hr : Kd.C k39 w0 A l.length l) (hG : Glob w0) (ht : Tree l) (hs : Sized l) :
    ∀ (f : Nat) (a : Int), 0 ≤ a → a < l.length → a.toNat < f → ∀ (out : List UInt8) (wa w : World), St w0 wa b out w → out.length + (txt l f a).length ≤ 140737488355328 →
    Calls Tryd.prog 25 #[.pointer (some ⟨b, 0, none⟩), .slice A l.length cp, .int .i64 a] w fun e w' => e = .returned (.tuple #[]) ∧ St w0 wa b (out ++ txt l f a) w' := by
  intro f
  induction f with
  | zero => intro a h0 h1 h2; omega
  | succ f ih =>
    intro a h0 h1 h2 out wa w hst hlen
    obtain ⟨hp, hkids⟩ := ht a h0 h1
    obtain ⟨hs3, hs5, hs4⟩ := hs a h0 h1
    obtain ⟨ad, A4, c4, A5, c5, rfl, hx0, hx1, hx2, hx3, hx4, hx5, hl4, hC4, hl5, hC5⟩ := at_T39 hr a h0 h1
    have hlow : ∀ p v, w0.cell? p = some v → w.cell? p = some v := fun p v h => (hst.2.1.cell (World.block_lt_of_cell? w0 _ h)).trans h
    replace hx0 := hlow _ _ hx0
    replace hx1 := hlow _ _ hx1
    replace hx2 := hlow _ _ hx2
    replace hx3 := hlow _ _ hx3
    replace hx4 := hlow _ _ hx4
    replace hx5 := hlow _ _ hx5
    clear hlow
    have hk := plain_kind hp
    rw [txt_succ] at hlen ⊢
    generalize rd_T39 l a = v at *
    obtain ⟨f0, f1, f2, f3, f4, f5⟩ := v
    dsimp only at *
    have p1 := eq_true h0
    have p2 := eq_true h1
    have hbl : b < w.heap.size := hst.1.elim (fun x => x.lt) (fun x => x.lt)
    have hne : w.heap.size ≠ b := by omega
    have hS := hst.below (below_alloc (Below.refl w.heap.size w) (Obj.cells #[.int .i64 f0, .bool f1, .int .i64 f2, .string f3, .slice A4 f4.length c4, .slice A5 f5.length c5] 39))
    have hbox : (w.alloc (Obj.cells #[.int .i64 f0, .bool f1, .int .i64 f2, .string f3, .slice A4 f4.length c4, .slice A5 f5.length c5] 39)).heap[w.heap.size]? = some (Obj.cells #[.int .i64 f0, .bool f1, .int .i64 f2, .string f3, .slice A4 f4.length c4, .slice A5 f5.length c5] 39 (0, 0)) := Array.getElem?_push_size
    obtain ⟨w1, hw1⟩ : ∃ w1, w1 = w.alloc (Obj.cells #[.int .i64 f0, .bool f1, .int .i64 f2, .string f3, .slice A4 f4.length c4, .slice A5 f5.length c5] 39) := ⟨_, rfl⟩
    rw [← hw1] at hbox
    have hkp : OthersKept 5 (some b) wa w1 := by rw [hw1]; exact hS.2.2
    have hS1 : St w0 w1 b out w1 := ⟨by rw [hw1]; exact hS.1, by rw [hw1]; exact hS.2.1, OthersKept.refl _ _ _⟩
    have hGw : Glob w1 := hG.below hS1.2.1
    rw [hw1] at hS1 hGw
    replace hS1 : St w0 w1 b out (w.alloc (Obj.cells #[.int .i64 f0, .bool f1, .int .i64 f2, .string f3, .slice A4 f4.length c4, .slice A5 f5.length c5] 39)) := by rw [hw1]; exact hS1
    clear hS
    have hS := hS1
    clear hS1 hst hw1
    rcases hk with rfl | rfl | ⟨rfl, hn0, hn1⟩ | rfl | rfl | ⟨rfl, hnn⟩
    · rw [txtOf_1 _ _ rfl] at hlen ⊢
      go_enter Tryd.func25, Tryd.ntmps25
      go_wp2_with (go_at_call 30; refine (St.string hS _ (by exact hlen)).mono ?_; rintro e w2 ⟨⟨_, rfl⟩, hA2⟩; clear hS; have hS := hA2; clear hA2)
      go_end0
      exact ⟨rfl, hS.lift hkp⟩
    · rw [txtOf_2 _ _ rfl] at hlen ⊢
      dsimp only at hlen ⊢
      cases f1
      · rw [if_neg (by decide)] at hlen ⊢
        go_enter Tryd.func25, Tryd.ntmps25
        go_wp2_with (go_at_call 30; refine (St.string hS _ (by exact hlen)).mono ?_; rintro e w2 ⟨⟨_, rfl⟩, hA2⟩; clear hS; have hS := hA2; clear hA2)
        go_end0
        exact ⟨rfl, hS.lift hkp⟩
      · rw [if_pos rfl] at hlen ⊢
        go_enter Tryd.func25, Tryd.ntmps25
        go_wp2_with (go_at_call 30; refine (St.string hS _ (by exact hlen)).mono ?_; rintro e w2 ⟨⟨_, rfl⟩, hA2⟩; clear hS; have hS := hA2; clear hA2)
        go_end0
        exact ⟨rfl, hS.lift hkp⟩
    · rw [txtOf_3 _ _ rfl] at hlen ⊢
      go_enter Tryd.func25, Tryd.ntmps25
      go_wp2_with (first
        | (go_at_call 41; refine (text_walk f2 (by omega) (by omega) _ hGw).mono ?_; rintro e w2 ⟨rfl, hb2⟩; have hA2 := hS.below hb2; clear hS hb2; have hS := hA2; clear hA2)
        | (go_at_call 30; refine (St.list hS _ (by exact hlen)).mono ?_; rintro e w2 ⟨⟨_, rfl⟩, hA2⟩; clear hS; have hS := hA2; clear hA2))
      go_end0
      exact ⟨rfl, hS.lift hkp⟩
    · rw [txtOf_4 _ _ rfl] at hlen ⊢
      go_enter Tryd.func25, Tryd.ntmps25
      go_wp2_with (first
        | (go_at_call 17; refine (Qu.quote_walk f3 _ hs3).mono ?_; rintro e w2 ⟨rfl, hb2⟩; have hA2 := hS.below hb2; clear hS hb2; have hS := hA2; clear hA2)
        | (go_at_call 30; refine (St.list hS _ (by exact hlen)).mono ?_; rintro e w2 ⟨⟨_, rfl⟩, hA2⟩; clear hS; have hS := hA2; clear hA2))
      go_end0
      exact ⟨rfl, hS.lift hkp⟩
    · rw [txtOf_5 _ _ rfl] at hlen ⊢
      dsimp only at hlen ⊢
      obtain ⟨g, hg⟩ : ∃ g : Nat → List UInt8, g = fun (i : Nat) => txt l f (rd f5 (i : Int)) := ⟨_, rfl⟩
      rw [show joined (fun (i : Nat) => txt l f (rd f5 (i : Int))) f5.length = joined g f5.length by rw [hg]] at hlen ⊢
      have hlen2 : out.length + ((joined g f5.length).length + 2) ≤ 140737488355328 := by simp only [List.length_append, List.length_cons, List.length_nil] at hlen; omega
      clear hlen
      have hx5 := St.cell hS hbox hne 5 _ rfl
      have hx4 := St.cell hS hbox hne 4 _ rfl
      go_enter Tryd.func25, Tryd.ntmps25
      go_wp2_with (go_at_call 28; refine (St.byte hS ?hl 91 _ (by rfl)).mono ?_; (case hl => (try simp only [List.length_append, List.length_cons, List.length_nil]); omega); rintro e w3 ⟨rfl, hA2⟩; clear hS; have hS := hA2; clear hA2; (try have hx4 := St.cell hS hbox hne 4 _ rfl); (try have hx5 := St.cell hS hbox hne 5 _ rfl))
      go_loopw [50] (fun i wr => ∃ j : Nat, j ≤ f5.length ∧ i = .int .i64 j ∧ St w0 w1 b (out ++ [91] ++ joined g j) wr) (fun i _ => f5.length - (RowKit.intOf i).toNat)
      case atStart => exact ⟨0, Nat.zero_le _, rfl, by rw [joined, List.append_nil]; exact hS⟩
      case round =>
        clear hS
        obtain ⟨j, hj, rfl, hS⟩ := hrel
        by_cases hlt : j < f5.length
        · obtain ⟨ad5, rfl, hkc⟩ := Kd.at_int hC5 (j : Int) (by omega) (by omega)
          have hkc2 : wr.cell? (ad5.add j) = some (.int .i64 (rd f5 (j : Int))) := by
            have := (hS.2.1.cell (World.block_lt_of_cell? w0 _ hkc)).trans hkc
            simpa using this
          clear hkc
          obtain ⟨hk0, hk1⟩ := hkids j hlt
          have hjl := joined_le g f5.length (j + 1) hlt
          have hjs := joined_succ g j
          have hgj : g j = txt l f (rd f5 (j : Int)) := by rw [hg]
          generalize rd f5 (j : Int) = kd at *
          have hll : ((j : Int) < (f5.length : Int)) = True := eq_true (by omega)
          rw [hgj] at hjs
          by_cases hj0 : j = 0
          · rw [if_pos hj0] at hjs
            have hj1 : decide (0 < j) = false := decide_eq_false (by omega)
            have hj3 : (0 < j) = False := eq_false (by omega)
            clear hj0
            have hjm := congrArg List.length hjs
            simp only [List.length_append, List.length_cons, List.length_nil] at hjm
            rw [hjm] at hjl
            go_wp2_with (first
              | (go_at_call 25; refine (ih kd hk0 (by omega) (by omega) _ w1 _ hS (by (try simp only [List.length_append, List.length_cons, List.length_nil]); omega)).mono ?_; rintro e w4 ⟨rfl, hA2⟩; clear hS; have hS := hA2; clear hA2))
            go_roundw
            case rel => exact ⟨j + 1, hlt, by go_num, by rw [hjs]; simpa [List.append_assoc] using hS⟩
            case measure => simp [RowKit.intOf]; omega
          · have hj1 : decide (0 < j) = true := decide_eq_true (by omega)
            have hj3 : (0 < j) = True := eq_true (by omega)
            rw [if_neg hj0] at hjs
            clear hj0
            have hjm := congrArg List.length hjs
            simp only [List.length_append, List.length_cons, List.length_nil] at hjm
            rw [hjm] at hjl
            go_wp2_with (first
              | (go_at_call 28; refine (St.byte hS ?hl 44 _ (by rfl)).mono ?_; (case hl => (try simp only [List.length_append, List.length_cons, List.length_nil]); omega); rintro e w3 ⟨rfl, hA2⟩; clear hS; have hS := hA2; clear hA2; (try have hx4 := St.cell hS hbox hne 4 _ rfl); (try have hx5 := St.cell hS hbox hne 5 _ rfl))
              | (go_at_call 25; refine (ih kd hk0 (by omega) (by omega) _ w1 _ hS (by (try simp only [List.length_append, List.length_cons, List.length_nil]); omega)).mono ?_; rintro e w4 ⟨rfl, hA2⟩; clear hS; have hS := hA2; clear hA2))
            go_roundw
            case rel => exact ⟨j + 1, hlt, by go_num, by rw [hjs]; simpa [List.append_assoc] using hS⟩
            case measure => simp [RowKit.intOf]; omega
        · obtain rfl : j = f5.length := by omega
          go_wp2_with (go_at_call 28; refine (St.byte hS ?hl 93 _ (by rfl)).mono ?_; (case hl => (try simp only [List.length_append, List.length_cons, List.length_nil]); omega); rintro e w3 ⟨rfl, hA2⟩; clear hS; have hS := hA2; clear hA2; (try have hx4 := St.cell hS hbox hne 4 _ rfl); (try have hx5 := St.cell hS hbox hne 5 _ rfl))
          go_end0
          exact ⟨rfl, (show St w0 w1 b (out ++ ([91] ++ joined g f5.length ++ [93])) _ by simpa [List.append_assoc] using hS).lift hkp⟩
    · have hnn0 := Aside0.mk hnn
      clear hnn
      have hnn := hnn0
      clear hnn0
      rw [txtOf_6 _ _ rfl] at hlen ⊢
      dsimp only at hlen ⊢
      obtain ⟨g, hg⟩ : ∃ g : Nat → List UInt8, g = fun (i : Nat) => inQuotes (rdOf ByteArray.empty f4 (i : Int)).data.toList ++ [58] ++ txt l f (rd f5 (i : Int)) := ⟨_, rfl⟩
      rw [show joined (fun (i : Nat) => inQuotes (rdOf ByteArray.empty f4 (i : Int)).data.toList ++ [58] ++ txt l f (rd f5 (i : Int))) f5.length = joined g f5.length by rw [hg]] at hlen ⊢
      have hlen2 : out.length + ((joined g f5.length).length + 2) ≤ 140737488355328 := by simp only [List.length_append, List.length_cons, List.length_nil] at hlen; omega
      clear hlen
      have hx5 := St.cell hS hbox hne 5 _ rfl
      have hx4 := St.cell hS hbox hne 4 _ rfl
      go_enter Tryd.func25, Tryd.ntmps25
      go_wp2_with (go_at_call 28; refine (St.byte hS ?hl 123 _ (by rfl)).mono ?_; (case hl => (try simp only [List.length_append, List.length_cons, List.length_nil]); omega); rintro e w3 ⟨rfl, hA2⟩; clear hS; have hS := hA2; clear hA2; (try have hx4 := St.cell hS hbox hne 4 _ rfl); (try have hnc2 := hlow _ hS.2.1); (try have hx5 := St.cell hS hbox hne 5 _ rfl))
      go_loopw [73] (fun i wr => ∃ j : Nat, j ≤ f5.length ∧ i = .int .i64 j ∧ St w0 w1 b (out ++ [123] ++ joined g j) wr) (fun i _ => f5.length - (RowKit.intOf i).toNat)
      case atStart => exact ⟨0, Nat.zero_le _, rfl, by rw [joined, List.append_nil]; exact hS⟩
      case round =>
        clear hS
        obtain ⟨j, hj, rfl, hS⟩ := hrel
        by_cases hlt : j < f5.length
        · obtain ⟨ad5, rfl, hkc⟩ := Kd.at_int hC5 (j : Int) (by omega) (by omega)
          have hkc2 : wr.cell? (ad5.add j) = some (.int .i64 (rd f5 (j : Int))) := by
            have := (hS.2.1.cell (World.block_lt_of_cell? w0 _ hkc)).trans hkc
            simpa using this
          clear hkc
          obtain ⟨hk0, hk1⟩ := hkids j hlt
          have hjl := joined_le g f5.length (j + 1) hlt
          have hjs := joined_succ g j
          have hgj : g j = inQuotes (rdOf ByteArray.empty f4 (j : Int)).data.toList ++ [58] ++ txt l f (rd f5 (j : Int)) := by rw [hg]
          obtain ⟨ad4, rfl, hnc⟩ := Kd.at_string hC4 (j : Int) (by omega) (by have := hnn.out; omega)
          have hlow : ∀ wq, Below w0.heap.size w0 wq → wq.cell? (ad4.add j) = some (.string (rdOf ByteArray.empty f4 (j : Int))) := fun wq hq => by
            have := (hq.cell (World.block_lt_of_cell? w0 _ hnc)).trans hnc
            simpa using this
          have hns := hs4 j (by have := hnn.out; omega)
          generalize rdOf ByteArray.empty f4 (j : Int) = nm at *
          have hjn : ((j : Int) < (f4.length : Int)) = True := eq_true (by have := hnn.out; omega)
          generalize rd f5 (j : Int) = kd at *
          have hll : ((j : Int) < (f5.length : Int)) = True := eq_true (by omega)
          rw [hgj] at hjs
          have hx4 := St.cell hS hbox hne 4 _ rfl
          have hnc2 := hlow _ hS.2.1
          by_cases hj0 : j = 0
          · rw [if_pos hj0] at hjs
            have hj1 : decide (0 < j) = false := decide_eq_false (by omega)
            have hj3 : (0 < j) = False := eq_false (by omega)
            clear hj0
            have hjm := congrArg List.length hjs
            simp only [List.length_append, List.length_cons, List.length_nil] at hjm
            rw [hjm] at hjl
            go_wp2_with (first
              | (go_at_call 17; refine (Qu.quote_walk nm _ hns).mono ?_; rintro e w2 ⟨rfl, hb2⟩; have hA2 := hS.below hb2; clear hS hb2; have hS := hA2; clear hA2)
              | (go_at_call 30; refine (St.list hS _ (by (try simp only [List.length_append, List.length_cons, List.length_nil]); omega)).mono ?_; rintro e w2 ⟨⟨_, rfl⟩, hA2⟩; clear hS; have hS := hA2; clear hA2)
              | (go_at_call 28; refine (St.byte hS ?hl 58 _ (by rfl)).mono ?_; (case hl => (try simp only [List.length_append, List.length_cons, List.length_nil]); omega); rintro e w3 ⟨rfl, hA2⟩; clear hS; have hS := hA2; clear hA2; (try have hx4 := St.cell hS hbox hne 4 _ rfl); (try have hnc2 := hlow _ hS.2.1); (try have hx5 := St.cell hS hbox hne 5 _ rfl))
              | (go_at_call 25; refine (ih kd hk0 (by omega) (by omega) _ w1 _ hS (by (try simp only [List.length_append, List.length_cons, List.length_nil]); omega)).mono ?_; rintro e w4 ⟨rfl, hA2⟩; clear hS; have hS := hA2; clear hA2))
            go_roundw
            case rel => exact ⟨j + 1, hlt, by go_num, by rw [hjs]; simpa [List.append_assoc] using hS⟩
            case measure => simp [RowKit.intOf]; omega
          · have hj1 : decide (0 < j) = true := decide_eq_true (by omega)
            have hj3 : (0 < j) = True := eq_true (by omega)
            rw [if_neg hj0] at hjs
            clear hj0
            have hjm := congrArg List.length hjs
            simp only [List.length_append, List.length_cons, List.length_nil] at hjm
            rw [hjm] at hjl
            go_wp2_with (first
              | (go_at_call 28; refine (St.byte hS ?hl 44 _ (by rfl)).mono ?_; (case hl => (try simp only [List.length_append, List.length_cons, List.length_nil]); omega); rintro e w3 ⟨rfl, hA2⟩; clear hS; have hS := hA2; clear hA2; (try have hx4 := St.cell hS hbox hne 4 _ rfl); (try have hnc2 := hlow _ hS.2.1); (try have hx5 := St.cell hS hbox hne 5 _ rfl))
              | (go_at_call 17; refine (Qu.quote_walk nm _ hns).mono ?_; rintro e w2 ⟨rfl, hb2⟩; have hA2 := hS.below hb2; clear hS hb2; have hS := hA2; clear hA2)
              | (go_at_call 30; refine (St.list hS _ (by (try simp only [List.length_append, List.length_cons, List.length_nil]); omega)).mono ?_; rintro e w2 ⟨⟨_, rfl⟩, hA2⟩; clear hS; have hS := hA2; clear hA2)
              | (go_at_call 28; refine (St.byte hS ?hl 58 _ (by rfl)).mono ?_; (case hl => (try simp only [List.length_append, List.length_cons, List.length_nil]); omega); rintro e w3 ⟨rfl, hA2⟩; clear hS; have hS := hA2; clear hA2; (try have hx4 := St.cell hS hbox hne 4 _ rfl); (try have hnc2 := hlow _ hS.2.1); (try have hx5 := St.cell hS hbox hne 5 _ rfl))
              | (go_at_call 25; refine (ih kd hk0 (by omega) (by omega) _ w1 _ hS (by (try simp only [List.length_append, List.length_cons, List.length_nil]); omega)).mono ?_; rintro e w4 ⟨rfl, hA2⟩; clear hS; have hS := hA2; clear hA2))
            go_roundw
            case rel => exact ⟨j + 1, hlt, by go_num, by rw [hjs]; simpa [List.append_assoc] using hS⟩
            case measure => simp [RowKit.intOf]; omega
        · obtain rfl : j = f5.length := by omega
          go_wp2_with (go_at_call 28; refine (St.byte hS ?hl 125 _ (by rfl)).mono ?_; (case hl => (try simp only [List.length_append, List.length_cons, List.length_nil]); omega); rintro e w3 ⟨rfl, hA2⟩; clear hS; have hS := hA2; clear hA2; (try have hx4 := St.cell hS hbox hne 4 _ rfl); (try have hnc2 := hlow _ hS.2.1); (try have hx5 := St.cell hS hbox hne 5 _ rfl))
          go_end0
          exact ⟨rfl, (show St w0 w1 b (out ++ ([123] ++ joined g f5.length ++ [125])) _ by simpa [List.append_assoc] using hS).lift hkp⟩
end Go.Proofs.YtldlkoncndlbhaaDoor.Wr
namespace Go.Proofs.YtldlkoncndlbhaaDoor.PRa
open Go.RowKit Go.Proofs.YtldlkoncndlbhaaDoorW.PrintWords Go.Proofs.YtldlkoncndlbhaaDoorW.PrintLast Go.Proofs.YtldlkoncndlbhaaDoorW.PrintMore Go.Proofs.YtldlkoncndlbhaaDoor.Utf
end Go.Proofs.YtldlkoncndlbhaaDoor.PRa
set_option linter.unusedVariables false
namespace Go.Proofs.YtldlkoncndlbhaaDoor.PSh
open Go.RowKit Go.Proofs.YtldlkoncndlbhaaDoor.Utf Go.Proofs.YtldlkoncndlbhaaDoor.Pl Go.Proofs.YtldlkoncndlbhaaDoorW.PrintWords
def haulierref03_UTF.f (a0 : ByteArray) : Option Bool := if a0.size ≤ 140737488351232 then some (utf a0.data.toList) else none
/-- The sizes at which 'plain' is walked. -/
def plainOk (a3 : ByteArray) (l4 : List ByteArray) : Prop := (∀ s ∈ l4, s.size ≤ 140737488355328) ∧ a3.size ≤ 140737488355328 ∧ l4.length ≤ 140737488355328
instance (a3 : ByteArray) (l4 : List ByteArray) : Decidable (plainOk a3 l4) := by unfold plainOk; infer_instance
def show_plain.f (a0_0 : Int) (a0_1 : Bool) (a0_2 : Int) (a0_3 : ByteArray) (l0_4 : List ByteArray) (l0_5 : List Int) : Option Bool := if plainOk a0_3 l0_4 then some (plainB a0_0 a0_1 a0_2 a0_3 l0_4 l0_5) else none
theorem show_plain.calls (a0_0 : Int) (a0_1 : Bool) (a0_2 : Int) (a0_3 : ByteArray) (A0_4 : Option Addr) (c0_4 : Nat) (l0_4 : List ByteArray) (A0_5 : Option Addr) (c0_5 : Nat) (l0_5 : List Int) (r : Bool) (w : World) (hG : Aside0 (Glob w))
    (hr0_4 : Kd.string.C w A0_4 l0_4.length l0_4) (hc0_4 : l0_4.length ≤ c0_4) (hr0_5 : (Kd.int .i64).C w A0_5 l0_5.length l0_5) (hc0_5 : l0_5.length ≤ c0_5) (h : show_plain.f a0_0 a0_1 a0_2 a0_3 l0_4 l0_5 = some r) :
    Calls Tryd.prog 22 #[.agg #[.int .i64 a0_0, .bool a0_1, .int .i64 a0_2, .string a0_3, .slice A0_4 l0_4.length c0_4, .slice A0_5 l0_5.length c0_5]] w fun e w' => e = .returned (.bool r) ∧ Below w.heap.size w w' := by
  unfold show_plain.f at h
  split at h
  · rename_i hs
    obtain rfl := Option.some.inj h
    exact plain_walk _ _ _ _ _ _ _ _ _ _ w hr0_4 hc0_4 hs.1 hs.2.1 hs.2.2 hG.out.2
  · cases h
end Go.Proofs.YtldlkoncndlbhaaDoor.PSh
-- Laid by wip/mk/mk.py of this session (the kit's printer with this session's contracts for library functions).
namespace Go.Proofs.YtldlkoncndlbhaaDoor.PSh
open Go.RowKit Go.Proofs.YtldlkoncndlbhaaDoorW.PrintWords Go.Proofs.YtldlkoncndlbhaaDoorW.PrintLast Go.Proofs.YtldlkoncndlbhaaDoorW.PrintMore
attribute [local go_sem] max2_int min2_int max_two min_two max_three min_three max_four min_four   -- for this text's walks alone
set_option linter.unusedVariables false
set_option linter.unusedSimpArgs false
/-! ### slices_Index_bool_bool: function 39 -/
def slices_Index_bool_bool.l0 : Nat → List Bool → Bool → Int → Int → Option (Int)
  | 0, _, _, _, _ => none
  | k + 1, x0, x1, x7, x8 => if x8 < x7 then (if 0 ≤ x8 then (if x8 < (x0.length : Int) then (if (x1 == (rdOf false x0 x8)) = true then (some x8) else (slices_Index_bool_bool.l0 k x0 x1 x7 (wrap64 (x8 + 1)))) else (none)) else (none)) else (some (-1))
def slices_Index_bool_bool.f (k : Nat) (l0 : List Bool) (a1 : Bool) : Option (Int) := slices_Index_bool_bool.l0 k l0 a1 (l0.length : Int) 0
set_option maxHeartbeats 8000000 in
set_option maxRecDepth 100000 in
theorem slices_Index_bool_bool.calls (k : Nat) (A0 : Option Addr) (c0 : Nat) (l0 : List Bool) (a1 : Bool) (r : Int) (w : World) (hG : Aside0 (Glob w)) (hr0 : Kd.C Kd.bool w A0 l0.length l0) (hc0 : l0.length ≤ c0) (h : slices_Index_bool_bool.f k l0 a1 = some r) :
    Calls Tryd.prog 39 #[.slice A0 l0.length c0, .bool a1] w fun e w' => e = .returned (.int .i64 r) ∧ Drawn0 w w' := by
  have HR0 := Aside0.mk hr0
  have HC0 := Aside0.mk hc0
  clear hr0 hc0
  have H : (slices_Index_bool_bool.l0 k l0 a1 (l0.length : Int) 0) = some r := h
  clear h
  have H' := Aside0.mk H
  clear H
  go_enter Tryd.func39, Tryd.ntmps39
  go_wp2
  go_loopg [8] k (fun kq v8 w' => ∃ (x8_1 : Int), v8 = .int .i64 x8_1 ∧ Aside0 (slices_Index_bool_bool.l0 kq l0 a1 (l0.length : Int) x8_1 = some r) ∧ Aside0 (kq ≤ k) ∧ Drawn0 w w')
  case atStart => exact ⟨(0), (by first | rfl | (simp; done) | (simp [*]; done)), H', ⟨Nat.le_refl _⟩, by repeat (first | exact Drawn0.refl _ | apply Drawn0.step)⟩
  case round =>
    clear H'
    try clear p2
    obtain ⟨x8_1, rfl, HA, HK1, ⟨m1, rfl⟩⟩ := hrel
    cases gk with
    | zero => exact absurd HA.out (by simp [slices_Index_bool_bool.l0])
    | succ k1 =>
      have H := HA.out
      clear HA
      simp only [slices_Index_bool_bool.l0] at H
      by_cases c3 : x8_1 < (l0.length : Int)
      · rw [if_pos c3] at H
        have c3b0 : decide (x8_1 < (l0.length : Int)) = true := decide_eq_true c3
        clear c3
        by_cases c4 : 0 ≤ x8_1
        · rw [if_pos c4] at H
          have c4b0 : decide (0 ≤ x8_1) = true := decide_eq_true c4
          clear c4
          by_cases c5 : x8_1 < (l0.length : Int)
          · rw [if_pos c5] at H
            have c5b0 : decide (x8_1 < (l0.length : Int)) = true := decide_eq_true c5
            clear c5
            by_cases c6 : (a1 == (rdOf false l0 x8_1)) = true
            · rw [if_pos c6] at H
              have c6b0 : (a1 == (rdOf false l0 x8_1)) = true := c6
              (try (have c6b1 : decide (a1 = (rdOf false l0 x8_1)) = true := by simpa using c6))
              (try (have c6b2 : (a1 == (rdOf false l0 x8_1)) = true := by simpa using c6))
              clear c6
              obtain rfl := Option.some.inj H
              have p101 : 0 ≤ (x8_1 : Int) := of_decide_eq_true (by first | (with_reducible assumption) | assumption)
              have q101 : x8_1 < (l0.length : Int) := of_decide_eq_true (by first | (with_reducible assumption) | assumption)
              obtain ⟨ad101, e101, hx101_0⟩ := Kd.at_bool HR0.out x8_1 p101 q101
              cases e101
              replace p101 := eq_true p101
              replace q101 := eq_true q101
              go_wp2
              go_ret
              exact ⟨by first | rfl | (simp; done) | (simp [*]; done), by repeat (first | exact Drawn0.refl _ | apply Drawn0.step)⟩
            · rw [if_neg c6] at H
              have c6b0 : (a1 == (rdOf false l0 x8_1)) = false := by simpa using c6
              (try (have c6b1 : decide (a1 = (rdOf false l0 x8_1)) = false := by simpa using c6))
              (try (have c6b2 : (a1 == (rdOf false l0 x8_1)) = false := by simpa using c6))
              (try (have c6b3 : ¬ (a1 = (rdOf false l0 x8_1)) := by simpa using c6))
              clear c6
              have H' := Aside0.mk H
              clear H
              have p101 : 0 ≤ (x8_1 : Int) := of_decide_eq_true (by first | (with_reducible assumption) | assumption)
              have q101 : x8_1 < (l0.length : Int) := of_decide_eq_true (by first | (with_reducible assumption) | assumption)
              obtain ⟨ad101, e101, hx101_0⟩ := Kd.at_bool HR0.out x8_1 p101 q101
              cases e101
              replace p101 := eq_true p101
              replace q101 := eq_true q101
              go_wp2
              go_roundg k1
              case measure => have := HK1.out; omega
              case rel => exact ⟨(wrap64 (x8_1 + 1)), (by first | rfl | (simp; done) | (simp [*]; done)), H', ⟨by have := HK1.out; omega⟩, by repeat (first | exact Drawn0.refl _ | apply Drawn0.step)⟩
          · rw [if_neg c5] at H
            exact absurd H (by simp)
        · rw [if_neg c4] at H
          exact absurd H (by simp)
      · rw [if_neg c3] at H
        have c3b0 : decide (x8_1 < (l0.length : Int)) = false := decide_eq_false c3
        clear c3
        obtain rfl := Option.some.inj H
        go_wp2
        go_ret
        exact ⟨by first | rfl | (simp; done) | (simp [*]; done), by repeat (first | exact Drawn0.refl _ | apply Drawn0.step)⟩
/-! ### slices_Contains_bool_bool: function 23 -/
def slices_Contains_bool_bool.f (k : Nat) (l0 : List Bool) (a1 : Bool) : Option (Bool) := (slices_Index_bool_bool.f k l0 a1).bind fun t102 => (some (decide (t102 ≥ 0)))
set_option maxHeartbeats 8000000 in
set_option maxRecDepth 100000 in
theorem slices_Contains_bool_bool.calls (k : Nat) (A0 : Option Addr) (c0 : Nat) (l0 : List Bool) (a1 : Bool) (r : Bool) (w : World) (hG : Aside0 (Glob w)) (hr0 : Kd.C Kd.bool w A0 l0.length l0) (hc0 : l0.length ≤ c0) (h : slices_Contains_bool_bool.f k l0 a1 = some r) :
    Calls Tryd.prog 23 #[.slice A0 l0.length c0, .bool a1] w fun e w' => e = .returned (.bool r) ∧ Drawn0 w w' := by
  have HR0 := Aside0.mk hr0
  have HC0 := Aside0.mk hc0
  clear hr0 hc0
  have H : ((slices_Index_bool_bool.f k l0 a1).bind fun t102 => (some (decide (t102 ≥ 0)))) = some r := h
  clear h
  replace H := Option.bind_eq_some_iff.mp H
  obtain ⟨t102, A30, H⟩ := H
  replace H : (some (decide (t102 ≥ 0))) = some r := H
  have A3 := Aside0.mk A30
  clear A30
  obtain rfl := Option.some.inj H
  go_enter Tryd.func23, Tryd.ntmps23
  go_wp2_with (first | ((with_reducible refine gate_callee (f := 39) rfl ?_); refine goesL_ (some 7) rfl rfl Tryd.func39 (by kernel_rfl) rfl #[.slice A0 l0.length c0, .bool a1] rfl (by (try simp only [List.map_toArray, List.map_cons, List.map_nil]); first | done | rfl | (simp only [List.length_drop, List.length_take]; rfl)) ?_; (with_reducible refine (slices_Index_bool_bool.calls k _ _ l0 a1 t102 _ ⟨by repeat (first | exact hG.out | exact hG.out.below (by repeat (first | (with_reducible first | exact HB.out | apply below_alloc | apply pw_below_drewN | apply below_drew1) | exact HB.out | exact Below.refl _ _)) | apply Glob.drewN | apply Glob.drew)⟩ ?side1 ?side2 A3.out).mono ?_); (case side1 => repeat (first | exact HR0.out | (with_reducible refine Kd.C_alloc ?_ _) | (with_reducible refine Kd.C_drewN ?_ _) | (with_reducible refine Kd.C_drew ?_))); (case side2 => exact HC0.out); rintro e w' ⟨rfl, ⟨nd, rfl⟩⟩; refine ⟨_, rfl, ?_⟩))
  go_ret
  exact ⟨by first | rfl | (simp; done) | (simp [*]; done), by repeat (first | exact Drawn0.refl _ | apply Drawn0.step)⟩
end Go.Proofs.YtldlkoncndlbhaaDoor.PSh
