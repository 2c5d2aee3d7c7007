/- A row of bytes of the call's own, and what is put behind it. -/
import Derived.Test.YtipbcdjnemdciaaDoorJson
import Derived.Lib.OthersKept
import Derived.Lib.AppendStr
import Derived.Lib.BufferWrite
import Derived.Maps.AppendAt
import Derived.Laws.OwnMore
set_option linter.unusedVariables false
set_option linter.unusedSimpArgs false
namespace Go.Proofs.YtipbcdjnemdciaaDoor.Js
open Go.RowKit Go.Lib Go.Proofs.YtipbcdjnemdciaaDoorW.PrintWords Go.Proofs.YtipbcdjnemdciaaDoorW.PrintLast Go.Proofs.YtipbcdjnemdciaaDoorW.PrintMore

def numsOf (t : List UInt8) : List Int := t.map fun b => (b.toNat : Int)
theorem numsOf_length (t : List UInt8) : (numsOf t).length = t.length := List.length_map _
/-- A row of bytes of the call's own; nothing below has turned; of what stood in 'a' only rows of bytes have. -/
def Rw (w0 a : World) (v : Value) (out : List UInt8) (w : World) : Prop :=
  w.ownsRow w0.heap.size 5 1 v out.length (byteCells out) ∧ Below w0.heap.size w0 w ∧ OthersKept 5 none a w
section
variable {w0 a0 w w' : World} {v : Value} {out : List UInt8}
theorem Rw.lt (h : Rw w0 a0 v out w) : ∀ k, v.ownBlock = some k → w0.heap.size ≤ k ∧ k < w.heap.size := h.1.lt
theorem Rw.keep (h : Rw w0 a0 v out w) (hb : Below w.heap.size w w') : Rw w0 a0 v out w' :=
  ⟨own_move h.1 (fun k hk => hb.block k (h.lt k hk).2), h.2.1.trans (hb.mono h.2.1.size), fun k x hk h1 h2 => by
    have hw := h.2.2 k x hk h1 h2
    exact (hb.block k (Array.getElem?_eq_some_iff.1 hw).1).trans hw⟩
theorem Rw.alloc (h : Rw w0 a0 v out w) (o : Obj) : Rw w0 a0 v out (w.alloc o) := h.keep (below_alloc (Below.refl _ _) o)
theorem Rw.draw (h : Rw w0 a0 v out w) (n : Nat) : Rw w0 a0 v out (w.drewN n) := h.keep (pw_below_drewN (Below.refl _ _) n)
theorem Rw.lift {a1 : World} (h : Rw w0 a1 v out w) (hk : OthersKept 5 none a0 a1) : Rw w0 a0 v out w := ⟨h.1, h.2.1, hk.trans h.2.2⟩
theorem Rw.here (h : Rw w0 a0 v out w) : Rw w0 w v out w := ⟨h.1, h.2.1, OthersKept.refl _ _ _⟩
theorem Rw.nil (w0 : World) : Rw w0 w0 (.slice none 0 0) [] w0 := ⟨World.ownsRow_nil _ _ _ _, Below.refl _ _, OthersKept.refl _ _ _⟩
theorem own_kind (h : w.ownsRow w0.heap.size 5 1 v out.length (byteCells out)) : ∀ g, v.ownBlock = some g → ∃ c fz, w.heap[g]? = some (.cells c 5 fz) := fun g hg => by
  rcases h.2 with ⟨rfl, _⟩ | ⟨g', cap, cur, rfl, _, hh, _⟩
  · simp [Value.ownBlock] at hg
  · simp [Value.ownBlock] at hg
    subst hg
    exact ⟨_, _, hh⟩
theorem byteCells_length (a : List UInt8) : (byteCells a).length = a.length := List.length_map _
section
variable {ops : Array Oper} {rest : List Oper} {o : Oper} {a : Act} {Q : Exit → Act → World → Prop} {K : Act → World → Prop}
/-- append(out, bytes...). -/
theorem app_law (hgd : o.guard = none) (s x : Operand) (ho : o.op = .call { callee := .builtin .append, args := #[s, x], argTypes := #[22, 22] })
    (hR : Rw w0 a0 v out w) (t : List UInt8) (ad : Addr) (m c : Nat) (hm : t.length = m) (hs : a.eval s = v) (hx : a.eval x = .slice (some ad) m c)
    (hcell : ∀ j u, (byteCells t)[j]? = some u → w.cell? (ad.add j) = some u) (hlen : out.length + m ≤ 140737488355328)
    (h : ∀ v1 w1, Rw w0 a0 v1 (out ++ t) w1 → w.grownBy w1 v.ownBlock → (v1.ownBlock = v.ownBlock ∨ v1.ownBlock = some w.heap.size) → wpList Tryd.prog ops Q rest (a.put o.dst v1) w1) :
    wpList Tryd.prog ops Q (o :: rest) a w := by
  subst hm
  obtain ⟨i0, hi, hz0, hz1, hz2⟩ := info_parts infoByte
  refine wpList_append_own_at w hgd s x 22 ho w0.heap.size 5 i0 (.int .u8 0) 1 1 Tryd.underlying22 hi hz0 hz1 hz2 rfl (by decide) v out.length (byteCells out) hs hR.1 ad t.length c (byteCells t) hx (by rw [byteCells_length, Nat.mul_one]) hcell (byteCells_one t) (by unfold maxLen; omega) (by omega) hR.2.1.size ?_
  intro v1 w1 hown hg _ hat
  exact h v1 w1 ⟨by rw [List.length_append, byteCells_append]; exact hown, hR.2.1.grown hg hR.2.1.size (fun k hk => (hR.lt k hk).1), hR.2.2.grown hg (own_kind hR.1)⟩ hg hat
theorem app_step (hgd : o.guard = none) (s x : Operand) (ho : o.op = .call { callee := .builtin .append, args := #[s, x], argTypes := #[22, 22] })
    (hR : Rw w0 a0 v out w) (t : List UInt8) (ad : Addr) (m c : Nat) (hm : t.length = m) (hs : a.eval s = v) (hx : a.eval x = .slice (some ad) m c)
    (hcell : ∀ j u, (byteCells t)[j]? = some u → w.cell? (ad.add j) = some u) (hlen : out.length + m ≤ 140737488355328)
    (h : ∀ v1 w1, Rw w0 a0 v1 (out ++ t) w1 → w.grownBy w1 v.ownBlock → (v1.ownBlock = v.ownBlock ∨ v1.ownBlock = some w.heap.size) → K (a.put o.dst v1) w1) :
    if Region.wanted o (yielded ops a.tmps) = true then Oper.wp Tryd.prog o a w K Q else K (a.put o.dst undef) w := by
  subst hm
  have hw : Region.wanted o (yielded ops a.tmps) = true := by simp [Region.wanted, hgd]
  rw [if_pos hw]
  obtain ⟨i0, hi, hz0, hz1, hz2⟩ := info_parts infoByte
  obtain ⟨v1, w1, hr, hown, hg, h4, hat⟩ := run_append_own_at (P := Tryd.prog) w w0.heap.size 22 o.type 5 i0 (.int .u8 0) 1 1 Tryd.underlying22 hi hz0 hz1 hz2 rfl (by decide) v out.length (byteCells out) hR.1 ad t.length c (byteCells t) (by rw [byteCells_length, Nat.mul_one]) hcell (byteCells_one t) (by unfold maxLen; omega) (by omega) hR.2.1.size
  unfold Oper.wp execOp
  simp only [ho, resolve, invoke, builtin, Sem.run_bind, Sem.run_pure, Result.andThen_ok, List.map_toArray, List.map_cons, List.map_nil, hs, hx, hr]
  exact h v1 w1 ⟨by rw [List.length_append, byteCells_append]; exact hown, hR.2.1.grown hg hR.2.1.size (fun k hk => (hR.lt k hk).1), hR.2.2.grown hg (own_kind hR.1)⟩ hg hat
/-- append(out, text...). -/
theorem str_law (hgd : o.guard = none) (s x : Operand) (ho : o.op = .call { callee := .builtin .append, args := #[s, x], argTypes := #[22, 9] })
    (hR : Rw w0 a0 v out w) (t : ByteArray) (hs : a.eval s = v) (hx : a.eval x = .string t) (hlen : out.length + t.data.toList.length ≤ 140737488355328)
    (h : ∀ v1 w1, Rw w0 a0 v1 (out ++ t.data.toList) w1 → wpList Tryd.prog ops Q rest (a.put o.dst v1) w1) :
    wpList Tryd.prog ops Q (o :: rest) a w := by
  have hl : t.data.toList.length = t.size := data_length t
  obtain ⟨i0, hi, hz0, hz1, hz2⟩ := info_parts infoByte
  refine wpList_append_own_string w hgd s x 22 9 ho w0.heap.size 5 i0 Tryd.underlying22 Tryd.underlying9 hi hz0 hz1 hz2 v out.length (byteCells out) hs hR.1 t hx (by unfold maxLen; omega) (by omega) hR.2.1.size ?_
  intro v1 w1 hown hg _
  exact h v1 w1 ⟨by rw [List.length_append, byteCells_append, hl]; exact hown, hR.2.1.grown hg hR.2.1.size (fun k hk => (hR.lt k hk).1), hR.2.2.grown hg (own_kind hR.1)⟩
end
/-- Cells of a block that has just been made. -/
theorem lit_cells (W : World) (t : List UInt8) (cs : Array Value) (hc : cs.toList = byteCells t) : ∀ j u, (byteCells t)[j]? = some u → (W.alloc (.cells cs 5)).cell? ((⟨W.heap.size, 0, none⟩ : Addr).add j) = some u := fun j u hu => by
  have hadd : (⟨W.heap.size, 0, none⟩ : Addr).add j = ⟨W.heap.size, j, none⟩ := by unfold Addr.add; split <;> simp_all
  rw [hadd, cell_of_row _ W.heap.size j cs 5 (0, 0) (heap_alloc_new W _), ← hu, ← hc]
  simp
end

theorem Rw.reads {w0 a w : World} {v : Value} {out : List UInt8} (h : Rw w0 a v out w) (hm : out.length ≤ 140737488355328) : ∃ A c, v = .slice A out.length c ∧ ReadsInt w .u8 A out.length (numsOf out) := by
  have hl := numsOf_length out
  rcases Nat.eq_zero_or_pos out.length with h0 | h0
  · rcases h.1.2 with ⟨rfl, _⟩ | ⟨g, cap, cur, rfl, _⟩
    · refine ⟨none, 0, by rw [h0], ?_⟩
      exact ⟨hl, by omega, fun e => by omega⟩
    · exact ⟨_, _, rfl, hl, by omega, fun e => by omega⟩
  · obtain ⟨g, cap, rfl, _, _⟩ := h.1.form h0
    have hc := h.1.cells (g := g) rfl
    refine ⟨_, _, rfl, hl, by omega, fun _ => ⟨⟨g, 0, none⟩, rfl, fun j hj => ?_⟩⟩
    refine hc j _ ?_
    unfold byteCells numsOf
    rw [List.getElem?_map, List.getD_eq_getElem?_getD, List.getElem?_map, List.getElem?_eq_getElem hj]
    rfl

theorem lit_cells2 (W : World) (t : List UInt8) (cs : Array Value) (n : Nat) (hn : n = W.heap.size) (hc : cs.toList = byteCells t) : ∀ j u, (byteCells t)[j]? = some u → (W.alloc (.cells cs 5)).cell? ((⟨n, 0, none⟩ : Addr).add j) = some u := by
  subst hn
  exact lit_cells W t cs hc

/-- A literal's row is the call's own. -/
theorem Rw.lit (w0 a w : World) (hb : Below w0.heap.size w0 w) (hk : OthersKept 5 none a w) (t : List UInt8) (cs : Array Value) (hc : cs.toList = byteCells t) (hs : t.length ≤ 1000) :
    Rw w0 a (.slice (some ⟨w.heap.size, 0, none⟩) t.length t.length) t (w.alloc (.cells cs 5)) := by
  have hsz : cs.size = t.length := by rw [← Array.length_toList, hc, byteCells_length]
  refine ⟨?_, below_alloc hb _, fun k x hk' h1 h2 => ?_⟩
  · have h := World.ownsRow_lit (e := 5) (size := 1) w cs t.length hb.size (by unfold maxLen; omega) (by omega)
    rw [hc] at h
    exact h
  · have hw := hk k x hk' h1 h2
    exact ((below_alloc (Below.refl w.heap.size w) _).block k (Array.getElem?_eq_some_iff.1 hw).1).trans hw
theorem Rw.reads' {w0 a w : World} {v : Value} {out : List UInt8} (h : Rw w0 a v out w) (hm : out.length ≤ 140737488355328) : ∃ A c, v = .slice A (str out).size c ∧ ReadsInt w .u8 A (str out).size (bytesOf (str out)) := by
  obtain ⟨A, c, rfl, hr⟩ := h.reads hm
  exact ⟨A, c, rfl, hr⟩

section
variable {w0 a0 w : World} {v : Value} {out : List UInt8} {ops : Array Oper} {rest : List Oper} {o1 o2 : Oper} {a : Act} {Q : Exit → Act → World → Prop}
/-- A literal and 'append(out, literal...)' at once. -/
theorem app_lit (hg1 : o1.guard = none) (hg2 : o2.guard = none) (t : List UInt8) (cs : Array Value) (m : Nat) (hm : t.length = m) (hc : cs.toList = byteCells t)
    (hrun : (execOp a.eval o1).run Tryd.prog w = .ok (.value (.slice (some ⟨w.heap.size, 0, none⟩) m m)) (w.alloc (.cells cs 5)))
    (s x : Operand) (ho : o2.op = .call { callee := .builtin .append, args := #[s, x], argTypes := #[22, 22] })
    (hs : (a.put o1.dst (.slice (some ⟨w.heap.size, 0, none⟩) m m)).eval s = v) (hx : (a.put o1.dst (.slice (some ⟨w.heap.size, 0, none⟩) m m)).eval x = .slice (some ⟨w.heap.size, 0, none⟩) m m)
    (hR : Rw w0 a0 v out w) (hlen : out.length + m ≤ 140737488355328)
    (h : ∀ v1 w1, Rw w0 a0 v1 (out ++ t) w1 → wpList Tryd.prog ops Q rest ((a.put o1.dst (.slice (some ⟨w.heap.size, 0, none⟩) m m)).put o2.dst v1) w1) :
    wpList Tryd.prog ops Q (o1 :: o2 :: rest) a w := by
  refine Kd.event_run hg1 hrun ?_
  exact app_law hg2 s x ho (hR.alloc _) t ⟨w.heap.size, 0, none⟩ m m hm hs hx (lit_cells w t cs hc) hlen fun v1 w1 h1 _ _ => h v1 w1 h1
end

end Go.Proofs.YtipbcdjnemdciaaDoor.Js
