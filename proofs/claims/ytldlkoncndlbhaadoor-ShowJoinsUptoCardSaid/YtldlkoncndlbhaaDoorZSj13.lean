/- YtldlkoncndlbhaaDoorZSj13: texts of the seat (TopLit, JoinsA, JoinsB, ShowJoins, Laid, RowUptoShowJoins), one behind the other, without what this claim's theorem does not rest on. -/
import Derived.Test.YtldlkoncndlbhaaDoorZSj12
import Derived.Test.YtldlkoncndlbhaaDoorRows
import Derived.ProofKit
import Derived.LaidMore
import Derived.Stop.Joined
import Derived.Lib.LaidTab
import Derived.Lib.LaidU8T
import Derived.Test.YtldlkoncndlbhaaDoorCards
import Derived.Test.YtldlkoncndlbhaaDoorTie
import Derived.WalkKit
import Derived.OpenShut
import Derived.ShutString
import Derived.ChangeOld
import Derived.Below
import Derived.SizedLaws
import Derived.SevenTiedAt
import Derived.Deep.DeepHandedRow
import Derived.Deep.DeepWitnessRowRef

namespace Go.Proofs.YtldlkoncndlbhaaDoor.Tl
open Go.RowKit Go.Proofs.YtldlkoncndlbhaaDoor.PSh Go.Proofs.YtldlkoncndlbhaaDoor.Cp Go.Proofs.YtldlkoncndlbhaaDoor.Pure Go.Proofs.YtldlkoncndlbhaaDoorW.PrintWords Go.Proofs.YtldlkoncndlbhaaDoorW.PrintLast Go.Proofs.YtldlkoncndlbhaaDoorW.PrintMore
set_option linter.unusedSimpArgs false
set_option linter.unusedVariables false
section
variable {W W1 : World} {gs gb : Nat} {a b : Int} {n1 n2 : Nat}
theorem ints_F (hb : W.heap[gb]? = some (.cells #[.int .i64 a, .int .i64 b] 3 (0, 0))) : Kd.F (Kd.int .i64) W (fun k => k = gb) (some ⟨gb, 0, none⟩) 2 [a, b] := by
  have hlt := blk_lt hb
  intro W' hW
  have h := (hW gb rfl hlt).trans hb
  refine ⟨rfl, by decide, fun _ => ⟨⟨gb, 0, none⟩, rfl, fun j p hj => ⟨[.int .i64 p], rfl, rfl, fun i u hi => ?_⟩⟩⟩
  have hc0 : W'.cell? ⟨gb, 0, none⟩ = some (.int .i64 a) := blk_cell h 0
  have hc1 : W'.cell? ⟨gb, 1, none⟩ = some (.int .i64 b) := blk_cell h 1
  rw [add_plain]
  rcases j with _ | _ | j
  · rcases i with _ | i
    · simp at hj hi
      subst hj hi
      exact hc0
    · simp at hi
  · rcases i with _ | i
    · simp at hj hi
      subst hj hi
      exact hc1
    · simp at hi
  · simp at hj
/-- The list of two, its cells. -/
def topCells (n1 n2 gb : Nat) : List Value := [.int .i64 5, .bool false, .int .i64 0, .string ⟨#[]⟩, .slice none 0 0, .slice (some ⟨gb, 0, none⟩) 2 2]
theorem top_FK (hb : W.heap[gb]? = some (.cells #[.int .i64 ((n1 - 1 : Nat) : Int), .int .i64 ((n1 + n2 - 1 : Nat) : Int)] 3 (0, 0))) : Kd.FK k39 W (fun k => k = gb) (top n1 n2) (topCells n1 n2 gb) :=
  k39_mkF W _ (top n1 n2) (Nat.le_refl 0) (Kd.F_nil _ _ _) (Nat.le_refl 2) (ints_F hb)
end
end Go.Proofs.YtldlkoncndlbhaaDoor.Tl
set_option linter.unusedVariables false
set_option linter.unusedSimpArgs false
namespace Go.Proofs.YtldlkoncndlbhaaDoor.Sj
open Go.RowKit Go.Proofs.YtldlkoncndlbhaaDoor.Utf Go.Proofs.YtldlkoncndlbhaaDoor.PSh Go.Proofs.YtldlkoncndlbhaaDoor.Cp Go.Proofs.YtldlkoncndlbhaaDoor.Co Go.Proofs.YtldlkoncndlbhaaDoor.Ao Go.Proofs.YtldlkoncndlbhaaDoor.Tl Go.Proofs.YtldlkoncndlbhaaDoor.Wr Go.Proofs.YtldlkoncndlbhaaDoor.Pure Go.Proofs.YtldlkoncndlbhaaDoorW.PrintWords Go.Proofs.YtldlkoncndlbhaaDoorW.PrintLast Go.Proofs.YtldlkoncndlbhaaDoorW.PrintMore
/-- What Print gives of a tree. -/
theorem print_eq {l : List S39} {w : World} {A : Option Addr} {cp : Nat} {e0 : Int} {T : List UInt8} (hG : Glob w) (hr : Kd.C k39 w A l.length l) (hc : l.length ≤ cp) (hs : Small l) (h0 : checkOf l = e0) (hT : given e0 l = T) :
    Calls Tryd.prog 14 #[.slice A l.length cp] w fun e w' => ∃ (A' : Option Addr) (c' : Nat), e = .returned (.tuple #[.slice A' T.length c', .int .i64 e0]) ∧ ReadsInt w' .u8 A' T.length (numsOf T) ∧ Below w.heap.size w w' := by
  refine (print_tells ⟨hG⟩ hr hc hs).mono fun e w' h => ?_
  obtain ⟨A', c', t, e1, h1, h2, h3⟩ := h
  rw [h0] at e1 h3
  obtain rfl : t = T := h3.trans hT
  exact ⟨A', c', e1, h1, h2⟩
/-- The blocks of the copy's element i. -/
def ownB (B N0 g : Nat) (f : Nat → Nat) (i : Nat) : Nat → Prop := fun k => k ≠ g ∧ f k = i ∧ B ≤ k ∧ k < N0
/-- Element i of the copy. -/
def Elem (W : World) (B N0 g : Nat) (f : Nat → Nat) (x : S39) (i : Nat) : Prop := ∃ v4 v5, W.cell? ⟨g, i * 6, none⟩ = some (.int .i64 x.f0) ∧ W.cell? ⟨g, i * 6 + 1, none⟩ = some (.bool x.f1) ∧ W.cell? ⟨g, i * 6 + 2, none⟩ = some (.int .i64 x.f2) ∧ W.cell? ⟨g, i * 6 + 3, none⟩ = some (.string x.f3) ∧
  W.cell? ⟨g, i * 6 + 4, none⟩ = some v4 ∧ W.cell? ⟨g, i * 6 + 5, none⟩ = some v5 ∧ Kd.string.R 9 W B (ownB B N0 g f i) v4 x.f4 ∧ (Kd.int .i64).R 3 W B (ownB B N0 g f i) v5 x.f5
/-- What may be reached from the row that grows, its first j of the second tree. -/
def okT (B N0 g : Nat) (f : Nat → Nat) (j : Nat) : Nat → Prop := fun k => k < B ∨ N0 ≤ k ∨ (k ≠ g ∧ f k < j)
structure Jn (w3 : World) (B N0 g : Nat) (f : Nat → Nat) (l1 l2 : List S39) (j : Nat) (t : Value) (W : World) : Prop where
  row : Kd.N k39 39 W w3.heap.size (okT B N0 g f j) t (l1 ++ (l2.take j).map (sh l1.length))
  left : ∀ i : Nat, j ≤ i → i < l2.length → Elem W B N0 g f (rd_T39 l2 (i : Int)) i
  below : Below w3.heap.size w3 W
  size : N0 ≤ W.heap.size
theorem cell_blk {w w1 : World} {g o : Nat} (h : w1.heap[g]? = w.heap[g]?) : w1.cell? ⟨g, o, none⟩ = w.cell? ⟨g, o, none⟩ := by
  unfold World.cell?
  simp only [h]
section
variable {W W1 w3 : World} {B N0 g : Nat} {f : Nat → Nat} {x : S39} {i j : Nat} {l1 l2 : List S39} {t : Value}
theorem Elem.move (h : Elem W B N0 g f x i) (hg : W1.heap[g]? = W.heap[g]?) (hm : ∀ k, ownB B N0 g f i k → W1.heap[k]? = W.heap[k]?) : Elem W1 B N0 g f x i := by
  obtain ⟨v4, v5, e0, e1, e2, e3, e4, e5, r4, r5⟩ := h
  exact ⟨v4, v5, (cell_blk hg).trans e0, (cell_blk hg).trans e1, (cell_blk hg).trans e2, (cell_blk hg).trans e3, (cell_blk hg).trans e4, (cell_blk hg).trans e5, Kd.R_step r4 (fun k hk _ => hm k hk), Kd.R_step r5 (fun k hk _ => hm k hk)⟩
theorem int_at {e base n cap kb : Nat} {ok : Nat → Prop} {xs : List Int} (h : (Kd.int .i64).R e W base ok (.slice (some ⟨kb, 0, none⟩) n cap) xs) (q : Nat) (hq : q < n) : W.cell? ⟨kb, q, none⟩ = some (.int .i64 (rd xs (q : Int))) ∧ W.frozen? ⟨kb, q, none⟩ = false := by
  obtain ⟨c, hcl, hM, hcc, hfr⟩ := Kd.R_elem h 0 (q : Int) (by omega) (by omega)
  have hM' : c = [.int .i64 (xs.getD (q : Int).toNat 0)] := hM
  subst hM'
  have h1 := hcc 0 _ rfl
  have h2 := hfr 0
  rw [show ((q : Int)).toNat * (Kd.int .i64).sz + 0 = q from by rw [Int.toNat_natCast]; exact Nat.mul_one q] at h1 h2
  exact ⟨h1, h2⟩
/-- The inner round: what has been written is this row alone. -/
structure Kn (W1 w6 : World) (B N0 g : Nat) (f : Nat → Nat) (j n1 : Nat) (A5 : Option Addr) (c5 : Nat) (f5 : List Int) (q : Nat) (W : World) : Prop where
  keep : ∀ k, some k ≠ (Value.slice A5 f5.length c5).ownBlock → W.heap[k]? = W1.heap[k]?
  size : W.heap.size = W1.heap.size
  below : Below w6.heap.size w6 W
  row : (Kd.int .i64).R 3 W B (ownB B N0 g f j) (.slice A5 f5.length c5) ((f5.take q).map (fun k => k + (n1 : Int)) ++ f5.drop q)
theorem set_next (f5 : List Int) (n1 q : Nat) (hq : q < f5.length) : ((f5.take q).map (fun k => k + (n1 : Int)) ++ f5.drop q).set q (rd f5 (q : Int) + (n1 : Int)) = (f5.take (q + 1)).map (fun k => k + (n1 : Int)) ++ f5.drop (q + 1) := by
  have hl : ((f5.take q).map (fun k => k + (n1 : Int))).length = q := by rw [List.length_map, List.length_take]; omega
  rw [List.set_append_right _ _ (by omega), hl, Nat.sub_self, kids_at f5 q hq, List.set_cons_zero, List.take_succ_eq_append_getElem hq, List.map_append, List.append_assoc, rd_nat f5 q hq]
  rfl
theorem rd_next (f5 : List Int) (n1 q : Nat) (hq : q < f5.length) : rd ((f5.take q).map (fun k => k + (n1 : Int)) ++ f5.drop q) (q : Int) = rd f5 (q : Int) := by
  have hl : ((f5.take q).map (fun k => k + (n1 : Int))).length = q := by rw [List.length_map, List.length_take]; omega
  rw [rd_nat _ _ (by rw [List.length_append, hl, List.length_drop]; omega), rd_nat _ _ hq, List.getElem_append_right (by omega)]
  simp only [List.getElem_drop, hl, Nat.sub_self, Nat.add_zero]
theorem Kn.put {W1 w6 : World} {n1 c5 q kb : Nat} {f5 : List Int} (h : Kn W1 w6 B N0 g f j n1 (some ⟨kb, 0, none⟩) c5 f5 q W) (hq : q < f5.length) (hB : w6.heap.size ≤ kb) : Kn W1 w6 B N0 g f j n1 (some ⟨kb, 0, none⟩) c5 f5 (q + 1) (W.setCell ⟨kb, q, none⟩ (.int .i64 (rd f5 (q : Int) + (n1 : Int)))) where
  keep := fun k hk => (Below.heap_setCell W _ _ k (fun e => hk (by rw [e]; rfl))).trans (h.keep k hk)
  size := (World.size_setCell ..).trans h.size
  below := Below.setCell h.below hB _
  row := by
    have := Kd.R_putn h.row (q : Int) (rd f5 (q : Int) + (n1 : Int))
    rw [Int.toNat_natCast, set_next f5 n1 q hq] at this
    exact this
theorem Jn.start {w6 w7 w8 : World} {A7 : Option Addr} {c7 c8 : Nat} (hN7 : Kd.N k39 39 w7 w6.heap.size (fun _ => True) (.slice A7 l1.length c7) l1) (hb7 : Below w6.heap.size w6 w7) (hb8 : Below w7.heap.size w7 w8)
    (hN8 : Kd.N k39 39 w8 w7.heap.size (fun _ => True) (.slice (some ⟨g, 0, none⟩) l2.length c8) l2) (hO8 : Owned w8 w7.heap.size g f l2 l2.length) : Jn w6 w7.heap.size w8.heap.size g f l1 l2 0 (.slice A7 l1.length c7) w8 where
  row := by
    rw [List.take_zero, List.map_nil, List.append_nil]
    exact Kd.N_mono (Kd.N_old hN7 hb8) (fun k hk => .inl hk.2)
  left := fun i _ hi => by
    obtain ⟨c, hcl, hF, hcc, -⟩ := Kd.N_elem hN8 z39 (i : Int) (by omega) (by omega)
    rw [getD_rd] at hF
    obtain ⟨A4, c4, A5, c5, rfl, -, -, -, -⟩ := k39_openF hF
    obtain ⟨v4, v5, e4, e5, r4, r5⟩ := hO8 i hi
    have h := fun j u e => hcc j u e
    rw [show ((i : Int)).toNat = i from Int.toNat_natCast i] at h
    exact ⟨v4, v5, h 0 _ rfl, h 1 _ rfl, h 2 _ rfl, h 3 _ rfl, e4, e5, Kd.R_mono (Kd.R_bound r4) (fun k hk => ⟨hk.1.1, hk.1.2, hk.2.1, hk.2.2.1⟩), Kd.R_mono (Kd.R_bound r5) (fun k hk => ⟨hk.1.1, hk.1.2, hk.2.1, hk.2.2.1⟩)⟩
  below := hb7.trans (hb8.mono hb7.size)
  size := Nat.le_refl _
/-- What is so when the inner round is done. -/
structure Md (w6 : World) (B N0 g : Nat) (f : Nat → Nat) (l1 l2 : List S39) (j : Nat) (t : Value) (W : World) : Prop where
  row : Kd.N k39 39 W w6.heap.size (okT B N0 g f j) t (l1 ++ (l2.take j).map (sh l1.length))
  left : ∀ i : Nat, j + 1 ≤ i → i < l2.length → Elem W B N0 g f (rd_T39 l2 (i : Int)) i
  below : Below w6.heap.size w6 W
  size : N0 ≤ W.heap.size
theorem Jn.mid {wr w6 : World} {o : Obj} {n1 c5 : Nat} {A5 : Option Addr} {f5 : List Int} {ss : List ByteArray} {v4 : Value} (h : Jn w6 B N0 g f l1 l2 j t wr) (hgN : g < N0)
    (r4 : Kd.string.R 9 wr B (ownB B N0 g f j) v4 ss) (r5 : (Kd.int .i64).R 3 wr B (ownB B N0 g f j) (.slice A5 f5.length c5) f5) {q : Nat}
    (hK : Kn (wr.alloc o) w6 B N0 g f j n1 A5 c5 f5 q W) : Md w6 B N0 g f l1 l2 j t W ∧ Kd.string.R 9 W B (ownB B N0 g f j) v4 ss := by
  have hown : ∀ k, some k = (Value.slice A5 f5.length c5).ownBlock → ownB B N0 g f j k := fun k e => r5.1 k e.symm
  have hty : ∀ k, some k = (Value.slice A5 f5.length c5).ownBlock → ∃ cells, wr.heap[k]? = some (.cells cells 3 (0, 0)) := fun k e => Kd.R_typed r5 k e.symm
  have hsame : ∀ k, k < wr.heap.size → some k ≠ (Value.slice A5 f5.length c5).ownBlock → W.heap[k]? = wr.heap[k]? := fun k hk hne => (hK.keep k hne).trans (heap_alloc_old wr o hk)
  have hs := h.size
  have hz := hK.size
  rw [show (wr.alloc o).heap.size = wr.heap.size + 1 by simp] at hz
  refine ⟨⟨Kd.N_step h.row fun k hk hlt => hsame k hlt fun e => ?_, fun i hi hil => (h.left i (by omega) hil).move (hsame g (by omega) fun e => (hown g e).1 rfl) fun k hk => hsame k (by have := hk.2.2.2; omega) fun e => ?_, hK.below, by omega⟩, ?_⟩
  · obtain ⟨a1, a2, a3, a4⟩ := hown k e
    rcases hk with hk | hk | ⟨hk, hk2⟩ <;> omega
  · have a2 := (hown k e).2.1
    have b2 := hk.2.1
    omega
  · cases hA : (Value.slice A5 f5.length c5).ownBlock with
    | none => exact Kd.R_step r4 fun k hk hlt => hsame k hlt (by rw [hA]; simp)
    | some kb =>
      obtain ⟨cells, hc⟩ := hty kb hA.symm
      have := Kd.R_types r4 hc (by decide)
      exact Kd.R_mono (Kd.R_step this fun k hk hlt => hsame k hlt (by rw [hA]; intro e; injection e with e; exact hk.2 e)) (fun k hk => hk.1)
theorem Md.apart {w6 : World} (h : Md w6 B N0 g f l1 l2 j t W) : ∀ k, ownB B N0 g f j k → okT B N0 g f (j + 1) k ∧ some k ≠ t.ownBlock := fun k hk => by
  obtain ⟨a1, a2, a3, a4⟩ := hk
  refine ⟨.inr (.inr ⟨a1, by omega⟩), fun e => ?_⟩
  rcases h.row.1 k e.symm with hk | hk | ⟨hk, hk2⟩ <;> omega
theorem okT_next {k : Nat} (h : okT B N0 g f j k) : okT B N0 g f (j + 1) k := by
  rcases h with hk | hk | ⟨hk, hk2⟩
  · exact .inl hk
  · exact .inr (.inl hk)
  · exact .inr (.inr ⟨hk, by omega⟩)
theorem Md.next {w6 w1 : World} {t1 : Value} {x : S39} (h : Md w6 B N0 g f l1 l2 j t W) (hgB : B ≤ g) (hgN : g < N0) (hx : rd_T39 l2 (j : Int) = x) (hj : j < l2.length)
    (hN : Kd.N k39 39 w1 w6.heap.size (okT B N0 g f (j + 1)) t1 (l1 ++ (l2.take j).map (sh l1.length) ++ [sh l1.length x])) (hB : Below w6.heap.size w6 w1) (hg : W.grownBy w1 t.ownBlock) : Jn w6 B N0 g f l1 l2 (j + 1) t1 w1 where
  row := by
    have e : rd_T39 l2 (j : Int) = l2[j] := by unfold rd_T39; simp [List.getD, hj]
    rw [List.take_succ_eq_append_getElem hj, List.map_append, ← e, hx, ← List.append_assoc]
    exact hN
  left := fun i hi hil => (h.left i hi hil).move (hg.block g (by have := h.size; omega) fun e => by
      rcases h.row.1 g e.symm with hk | hk | ⟨hk, hk2⟩
      · omega
      · omega
      · exact hk rfl) fun k hk => hg.block k (by have := h.size; have := hk.2.2.2; omega) fun e => by
      obtain ⟨a1, a2, a3, a4⟩ := hk
      rcases h.row.1 k e.symm with hk | hk | ⟨hk, hk2⟩ <;> omega
  below := hB
  size := Nat.le_trans h.size hg.size
end
theorem sum_sh (o : Nat) (l : List S39) : ((l.map (sh o)).map Rd.cost).sum = (l.map Rd.cost).sum := by
  rw [List.map_map]
  congr 1
  refine List.map_congr_left fun x _ => ?_
  show Rd.cost (sh o x) = Rd.cost x
  unfold Rd.cost sh
  dsimp only
  rw [List.length_map]
def both (l1 l2 : List S39) : List S39 := l1 ++ l2.map (sh l1.length)
theorem join_both (l1 l2 : List S39) : join l1 l2 = both l1 l2 ++ [top l1.length l2.length] := rfl
theorem both_len (l1 l2 : List S39) : (both l1 l2).length = l1.length + l2.length := by unfold both; rw [List.length_append, List.length_map]
theorem small_both {l1 l2 : List S39} (h1 : (l1.map Rd.cost).sum ≤ 1048576) (h2 : (l2.map Rd.cost).sum ≤ 1048576) (hn1 : l1.length ≤ 300) (hn2 : l2.length ≤ 300) : Small (both l1 l2) := by
  refine ⟨?_, by rw [both_len]; omega⟩
  unfold both
  rw [List.map_append, List.sum_append, sum_sh]
  omega
theorem small_join {l1 l2 : List S39} (h1 : (l1.map Rd.cost).sum ≤ 1048576) (h2 : (l2.map Rd.cost).sum ≤ 1048576) (hn1 : l1.length ≤ 300) (hn2 : l2.length ≤ 300) : Small (join l1 l2) := by
  refine ⟨?_, by rw [join_len]; omega⟩
  rw [join_both, List.map_append, List.sum_append]
  unfold both
  rw [List.map_append, List.sum_append, sum_sh]
  have : ([top l1.length l2.length].map Rd.cost).sum = 3 := rfl
  omega
end Go.Proofs.YtldlkoncndlbhaaDoor.Sj
set_option linter.unusedVariables false
set_option linter.unusedSimpArgs false
namespace Go.Proofs.YtldlkoncndlbhaaDoor.Sj
open Go.RowKit Go.Proofs.YtldlkoncndlbhaaDoor.Utf Go.Proofs.YtldlkoncndlbhaaDoor.PSh Go.Proofs.YtldlkoncndlbhaaDoor.Cp Go.Proofs.YtldlkoncndlbhaaDoor.Co Go.Proofs.YtldlkoncndlbhaaDoor.Ao Go.Proofs.YtldlkoncndlbhaaDoor.Tl Go.Proofs.YtldlkoncndlbhaaDoor.Wr Go.Proofs.YtldlkoncndlbhaaDoor.Pure Go.Proofs.YtldlkoncndlbhaaDoorW.PrintWords Go.Proofs.YtldlkoncndlbhaaDoorW.PrintLast Go.Proofs.YtldlkoncndlbhaaDoorW.PrintMore
set_option maxHeartbeats 4000000 in
set_option maxRecDepth 100000 in
theorem joins_long (A : Option Addr) (c : Nat) (l1 : List S39) (A' : Option Addr) (c' : Nat) (l2 : List S39) (w : World) (hG : Aside0 (Glob w)) (hbig : 300 < l1.length ∨ 300 < l2.length) :
    Calls Tryd.prog 5 #[.slice A l1.length c, .slice A' l2.length c'] w fun e w' => e = .returned (.bool true) ∧ Below w.heap.size w w' := by
  by_cases h1 : 300 < l1.length
  · have hb1 : ((l1.length : Int) > 300) = True := eq_true (by omega)
    have hb2 : ((300 : Int) < (l1.length : Int)) = True := eq_true (by omega)
    have hb3 : decide ((300 : Int) < (l1.length : Int)) = true := decide_eq_true (by omega)
    have hb4 : decide (300 < l1.length) = true := decide_eq_true h1
    go_enter Tryd.func5, Tryd.ntmps5
    go_wp2_with (go_at_call 10; (with_reducible refine (Aw.awake_walk w hG).mono ?_); rintro e w2 ⟨rfl, hb⟩)
    go_ret
    exact ⟨rfl, hb⟩
  · have h2 : 300 < l2.length := hbig.resolve_left h1
    have hb1 : ((l1.length : Int) > 300) = False := eq_false (by omega)
    have hb2 : ((300 : Int) < (l1.length : Int)) = False := eq_false (by omega)
    have hb3 : decide ((300 : Int) < (l1.length : Int)) = false := decide_eq_false (by omega)
    have hb4 : decide (300 < l1.length) = false := decide_eq_false h1
    have hc1 : ((l2.length : Int) > 300) = True := eq_true (by omega)
    have hc2 : ((300 : Int) < (l2.length : Int)) = True := eq_true (by omega)
    have hc3 : decide ((300 : Int) < (l2.length : Int)) = true := decide_eq_true (by omega)
    have hc4 : decide (300 < l2.length) = true := decide_eq_true h2
    go_enter Tryd.func5, Tryd.ntmps5
    go_wp2_with (go_at_call 10; (with_reducible refine (Aw.awake_walk w hG).mono ?_); rintro e w2 ⟨rfl, hb⟩)
    go_ret
    exact ⟨rfl, hb⟩
set_option maxHeartbeats 4000000 in
set_option maxRecDepth 100000 in
theorem joins_not (A : Option Addr) (c : Nat) (l1 : List S39) (A' : Option Addr) (c' : Nat) (l2 : List S39) (w : World) (hG : Aside0 (Glob w)) (hr : Kd.C k39 w A l1.length l1) (hc : l1.length ≤ c) (hs : Small l1) (hr2 : Kd.C k39 w A' l2.length l2) (hc2 : l2.length ≤ c') (hs2 : Small l2)
    (hn1 : l1.length ≤ 300) (hn2 : l2.length ≤ 300) (k1 k2 : Int) (hk1 : checkOf l1 = k1) (hk2 : checkOf l2 = k2) (hne : k1 ≠ 0 ∨ k2 ≠ 0) :
    Calls Tryd.prog 5 #[.slice A l1.length c, .slice A' l2.length c'] w fun e w' => e = .returned (.bool true) ∧ Below w.heap.size w w' := by
  have hsl := Aside0.mk hs.slots
  have hsl2 := Aside0.mk hs2.slots
  have hb1 : ((l1.length : Int) > 300) = False := eq_false (by omega)
  have hb2 : ((300 : Int) < (l1.length : Int)) = False := eq_false (by omega)
  have hb3 : ((l2.length : Int) > 300) = False := eq_false (by omega)
  have hb4 : ((300 : Int) < (l2.length : Int)) = False := eq_false (by omega)
  obtain ⟨T1, hT1⟩ : ∃ T, given k1 l1 = T := ⟨_, rfl⟩
  obtain ⟨T2, hT2⟩ : ∃ T, given k2 l2 = T := ⟨_, rfl⟩
  have hP1 := Aside0.mk (fun (w' : World) (A' : Option Addr) (cp : Nat) (h1 : Glob w') (h2 : Kd.C k39 w' A' l1.length l1) (h3 : l1.length ≤ cp) => print_eq h1 h2 h3 hs hk1 hT1)
  have hP2 := Aside0.mk (fun (w' : World) (A' : Option Addr) (cp : Nat) (h1 : Glob w') (h2 : Kd.C k39 w' A' l2.length l2) (h3 : l2.length ≤ cp) => print_eq h1 h2 h3 hs2 hk2 hT2)
  clear hT1 hT2 hk1 hk2
  by_cases hz : k1 = 0
  · have hz2 : k2 ≠ 0 := hne.resolve_left (fun h => h hz)
    subst hz
    have e1 : (k2 != 0) = true := bne_iff_ne.2 hz2
    have e2 : (k2 = 0) = False := eq_false hz2
    clear hne hz2
    go_enter Tryd.func5, Tryd.ntmps5
    go_wp2_with (first
      | (go_at_call 10; (with_reducible refine (Aw.awake_walk w hG).mono ?_); rintro e w2 ⟨rfl, hb⟩; have hra := Kd.C_below hr hb; have hrb := Kd.C_below hr2 hb)
      | (go_at_call 12; (with_reducible refine (copied_walk l1 A c w2 hra hc (by omega) hsl.out).mono ?_); rintro e w3 ⟨v, rfl, hN, hb3⟩; obtain ⟨A3, c3, rfl, hc3, hr3⟩ := Kd.N_reads hN; have hB3 := hb.trans (hb3.mono hb.size); have hG3 := hG.out.below hB3)
      | (go_at_call 14; (with_reducible refine (hP1.out w3 A3 c3 hG3 hr3 hc3).mono ?_); rintro e w4 ⟨A4, c4, rfl, -, hb4⟩; have hB4 := hB3.trans (hb4.mono hB3.size); have hrb4 := Kd.C_below hr2 hB4)
      | (go_at_call 12; (with_reducible refine (copied_walk l2 A' c' w4 hrb4 hc2 (by omega) hsl2.out).mono ?_); rintro e w5 ⟨v, rfl, hN5, hb5⟩; obtain ⟨A5, c5, rfl, hc5, hr5⟩ := Kd.N_reads hN5; have hB5 := hB4.trans (hb5.mono hB4.size); have hG5 := hG.out.below hB5)
      | (go_at_call 14; (with_reducible refine (hP2.out w5 A5 c5 hG5 hr5 hc5).mono ?_); rintro e w6 ⟨A6, c6, rfl, -, hb6⟩; have hB6 := hB5.trans (hb6.mono hB5.size)))
    go_ret
    exact ⟨rfl, hB6⟩
  · have e1 : (k1 != 0) = true := bne_iff_ne.2 hz
    have e2 : (k1 = 0) = False := eq_false hz
    clear hne hz
    go_enter Tryd.func5, Tryd.ntmps5
    go_wp2_with (first
      | (go_at_call 10; (with_reducible refine (Aw.awake_walk w hG).mono ?_); rintro e w2 ⟨rfl, hb⟩; have hra := Kd.C_below hr hb; have hrb := Kd.C_below hr2 hb)
      | (go_at_call 12; (with_reducible refine (copied_walk l1 A c w2 hra hc (by omega) hsl.out).mono ?_); rintro e w3 ⟨v, rfl, hN, hb3⟩; obtain ⟨A3, c3, rfl, hc3, hr3⟩ := Kd.N_reads hN; have hB3 := hb.trans (hb3.mono hb.size); have hG3 := hG.out.below hB3)
      | (go_at_call 14; (with_reducible refine (hP1.out w3 A3 c3 hG3 hr3 hc3).mono ?_); rintro e w4 ⟨A4, c4, rfl, -, hb4⟩; have hB4 := hB3.trans (hb4.mono hB3.size); have hrb4 := Kd.C_below hr2 hB4)
      | (go_at_call 12; (with_reducible refine (copied_walk l2 A' c' w4 hrb4 hc2 (by omega) hsl2.out).mono ?_); rintro e w5 ⟨v, rfl, hN5, hb5⟩; obtain ⟨A5, c5, rfl, hc5, hr5⟩ := Kd.N_reads hN5; have hB5 := hB4.trans (hb5.mono hB4.size); have hG5 := hG.out.below hB5)
      | (go_at_call 14; (with_reducible refine (hP2.out w5 A5 c5 hG5 hr5 hc5).mono ?_); rintro e w6 ⟨A6, c6, rfl, -, hb6⟩; have hB6 := hB5.trans (hb6.mono hB5.size)))
    go_ret
    exact ⟨rfl, hB6⟩
end Go.Proofs.YtldlkoncndlbhaaDoor.Sj
set_option linter.unusedVariables false
set_option linter.unusedSimpArgs false
namespace Go.Proofs.YtldlkoncndlbhaaDoor.Sj
open Go.RowKit Go.Proofs.YtldlkoncndlbhaaDoor.Utf Go.Proofs.YtldlkoncndlbhaaDoor.PSh Go.Proofs.YtldlkoncndlbhaaDoor.Cp Go.Proofs.YtldlkoncndlbhaaDoor.Co Go.Proofs.YtldlkoncndlbhaaDoor.Ao Go.Proofs.YtldlkoncndlbhaaDoor.Tl Go.Proofs.YtldlkoncndlbhaaDoor.Wr Go.Proofs.YtldlkoncndlbhaaDoor.Pure Go.Proofs.YtldlkoncndlbhaaDoorW.PrintWords Go.Proofs.YtldlkoncndlbhaaDoorW.PrintLast Go.Proofs.YtldlkoncndlbhaaDoorW.PrintMore
theorem join_bytes (x y T : List UInt8) (h : [91] ++ x ++ [44] ++ y ++ [93] = T) : (T == ((⟨#[91]⟩ : ByteArray) ++ ⟨x.toArray⟩ ++ ⟨#[44]⟩ ++ ⟨y.toArray⟩ ++ ⟨#[93]⟩).toList) = true := by
  rw [← h, ByteArray.toList_eq, beq_iff_eq]
  simp [ByteArray.data_append]
section
variable {wo W2 w6 : World} {l1 l2 : List S39} {t : Value}
/-- The world with the two numbers' row. -/
theorem ints_at (hp1 : 0 < l1.length) (hp2 : 0 < l2.length) (hW2 : wo.alloc (.cells #[.int .i64 ((l1.length : Int) - 1), .int .i64 ((l1.length : Int) + (l2.length : Int) - 1)] 3) = W2)
    (hN : Kd.N k39 39 wo w6.heap.size (fun _ => True) t (both l1 l2)) (hB : Below w6.heap.size w6 wo) :
    Kd.N k39 39 W2 w6.heap.size (fun _ => True) t (both l1 l2) ∧ Below w6.heap.size w6 W2 ∧ Kd.FK k39 W2 (fun k => k = wo.heap.size) (top l1.length l2.length) [.int .i64 5, .bool false, .int .i64 0, .string ⟨#[]⟩, .slice none 0 0, .slice (some ⟨wo.heap.size, 0, none⟩) 2 2] ∧
      (∀ k, k = wo.heap.size → True ∧ some k ≠ t.ownBlock) ∧ W2.heap.size = wo.heap.size + 1 := by
  subst hW2
  refine ⟨Kd.N_alloc hN _, below_alloc hB _, top_FK (n1 := l1.length) (n2 := l2.length) ?_, fun k hk => ⟨trivial, fun e => ?_⟩, by simp⟩
  · have e1 : ((l1.length : Int) - 1) = ((l1.length - 1 : Nat) : Int) := by omega
    have e2 : ((l1.length : Int) + (l2.length : Int) - 1) = ((l1.length + l2.length - 1 : Nat) : Int) := by omega
    rw [e1, e2]
    exact blk_new _ _
  · have := Kd.N_lt hN k e.symm
    omega
end
set_option maxHeartbeats 4000000 in
set_option maxRecDepth 100000 in
theorem joins_some (A : Option Addr) (c : Nat) (l1 : List S39) (A' : Option Addr) (c' : Nat) (l2 : List S39) (w : World) (hG : Aside0 (Glob w)) (hr : Kd.C k39 w A l1.length l1) (hc : l1.length ≤ c) (hs : Small l1) (hr2 : Kd.C k39 w A' l2.length l2) (hc2 : l2.length ≤ c') (hs2 : Small l2)
    (hn1 : l1.length ≤ 300) (hn2 : l2.length ≤ 300) (hk1 : checkOf l1 = 0) (hk2 : checkOf l2 = 0) (hsB : Small (both l1 l2)) (hsJ : Small (join l1 l2)) :
    Calls Tryd.prog 5 #[.slice A l1.length c, .slice A' l2.length c'] w fun e w' => e = .returned (.bool true) ∧ Below w.heap.size w w' := by
  have hkJ := Aside0.mk (join_check l1 l2 hk1 hk2 (by omega))
  have hsl := Aside0.mk hs.slots
  have hsl2 := Aside0.mk hs2.slots
  obtain ⟨hp1, -, -⟩ := check_open l1 hk1
  obtain ⟨hp2, -, -⟩ := check_open l2 hk2
  have hb1 : ((l1.length : Int) > 300) = False := eq_false (by omega)
  have hb2 : ((300 : Int) < (l1.length : Int)) = False := eq_false (by omega)
  have hb3 : ((l2.length : Int) > 300) = False := eq_false (by omega)
  have hb4 : ((300 : Int) < (l2.length : Int)) = False := eq_false (by omega)
  have hP1 := Aside0.mk (fun (w' : World) (A' : Option Addr) (cp : Nat) (h1 : Glob w') (h2 : Kd.C k39 w' A' l1.length l1) (h3 : l1.length ≤ cp) => print_eq h1 h2 h3 hs hk1 (if_pos rfl : given 0 l1 = textOf l1))
  have hP2 := Aside0.mk (fun (w' : World) (A' : Option Addr) (cp : Nat) (h1 : Glob w') (h2 : Kd.C k39 w' A' l2.length l2) (h3 : l2.length ≤ cp) => print_eq h1 h2 h3 hs2 hk2 (if_pos rfl : given 0 l2 = textOf l2))
  go_enter Tryd.func5, Tryd.ntmps5
  go_wp2_with (first
    | (go_at_call 10; (with_reducible refine (Aw.awake_walk w hG).mono ?_); rintro e w2 ⟨rfl, hb⟩; have hra := Kd.C_below hr hb; have hrb := Kd.C_below hr2 hb)
    | (go_at_call 12; (with_reducible refine (copied_walk l1 A c w2 hra hc (by omega) hsl.out).mono ?_); rintro e w3 ⟨v, rfl, hN, hb3⟩; obtain ⟨A3, c3, rfl, hc3, hr3⟩ := Kd.N_reads hN; have hB3 := hb.trans (hb3.mono hb.size); have hG3 := hG.out.below hB3)
    | (go_at_call 14; (with_reducible refine (hP1.out w3 A3 c3 hG3 hr3 hc3).mono ?_); rintro e w4 ⟨A4, c4, rfl, hrd4, hb4⟩; have hB4 := hB3.trans (hb4.mono hB3.size); have hrb4 := Kd.C_below hr2 hB4; have hra4 := Kd.C_below hr hB4)
    | (go_at_call 12; (with_reducible refine (copied_walk l2 A' c' w4 hrb4 hc2 (by omega) hsl2.out).mono ?_); rintro e w5 ⟨v, rfl, hN5, hb5⟩; obtain ⟨A5, c5, rfl, hc5, hr5⟩ := Kd.N_reads hN5; have hB5 := hB4.trans (hb5.mono hB4.size); have hG5 := hG.out.below hB5)
    | (go_at_call 14; (with_reducible refine (hP2.out w5 A5 c5 hG5 hr5 hc5).mono ?_); rintro e w6 ⟨A6, c6, rfl, hrd6, hb6⟩; have hB6 := hB5.trans (hb6.mono hB5.size); have hra6 := Kd.C_below hr hB6; have hrd4' := hrd4.below (hb5.trans (hb6.mono hb5.size)))
    | (go_at_call 12; (with_reducible refine (copied_walk l1 A c w6 hra6 hc (by omega) hsl.out).mono ?_); rintro e w7 ⟨v7, rfl, hN7, hb7⟩; obtain ⟨A7, c7, rfl⟩ := Kd.N_slice hN7; have hB7 := hB6.trans (hb7.mono hB6.size); have hrb7 := Kd.C_below hr2 hB7)
    | (go_at_call 12; (with_reducible refine (copied_owns l2 A' c' w7 hrb7 hc2 (by omega) hp2 hsl2.out).mono ?_); rintro e w8 ⟨g, c8, f, rfl, hN8, hO8, hb8⟩))
  clear hr3 hr5 hra hrb hra4 hrb4 hra6 hrb7 hN hN5 hc3 hc5 hrd4 hP1 hP2
  have hJ0 := Aside0.mk (Jn.start hN7 hb7 hb8 hN8 hO8)
  obtain ⟨g', cap', he', hgB, hgN, -⟩ := Kd.N_form hN8 hp2
  obtain rfl : g = g' := by
    injection he' with h1 h2 h3
    injection h1 with h1
    injection h1 with h1
  clear he'
  obtain ⟨B, hBe⟩ : ∃ B, w7.heap.size = B := ⟨_, rfl⟩
  obtain ⟨N0, hNe⟩ : ∃ N, w8.heap.size = N := ⟨_, rfl⟩
  rw [hBe, hNe] at hJ0
  rw [hBe] at hgB
  rw [hNe] at hgN
  clear hN7 hN8 hO8
  go_loopw [9, 48] (fun t i wr => ∃ j : Nat, j ≤ l2.length ∧ i = .int .i64 j ∧ Jn w6 B N0 g f l1 l2 j t wr) (fun _ i _ => l2.length - (RowKit.intOf i).toNat)
  case atStart => exact ⟨0, Nat.zero_le _, rfl, hJ0.out⟩
  case round =>
    obtain ⟨j, hj, rfl, hJ⟩ := hrel
    obtain ⟨wo, hwo⟩ : ∃ wo, wo = wr := ⟨_, rfl⟩
    subst hwo
    by_cases hlt : j < l2.length
    · have q1 : ((j : Int) < (l2.length : Int)) = True := eq_true (by omega)
      have hE := hJ.left j (Nat.le_refl _) hlt
      obtain ⟨hs5a, hs5b⟩ := hsl2.out (j : Int) (by omega) (by omega)
      have htr := (check_tree l2 hk2 (j : Int) (by omega) (by omega)).2
      obtain ⟨x, hx⟩ : ∃ x, rd_T39 l2 (j : Int) = x := ⟨_, rfl⟩
      rw [hx] at hE hs5a hs5b htr
      obtain ⟨v4, v5, x0, x1, x2, x3, x4, x5, r4, r5⟩ := hE
      obtain ⟨A4', c4', rfl, -, -⟩ := Kd.R_reads r4
      obtain ⟨A5', c5', rfl, -, -⟩ := Kd.R_reads r5
      have HT := Aside0.mk htr
      clear htr
      go_wp2
      generalize hW1 : wo.alloc (.cells #[.int .i64 x.f0, .bool x.f1, .int .i64 x.f2, .string x.f3, .slice A4' x.f4.length c4', .slice A5' x.f5.length c5'] 39) = W1
      have hKn0 : Kn W1 w6 B N0 g f j l1.length A5' c5' x.f5 0 W1 := by
        subst hW1
        refine ⟨fun _ _ => rfl, rfl, below_alloc hJ.below _, ?_⟩
        rw [List.take_zero, List.map_nil, List.nil_append, List.drop_zero]
        exact Kd.R_below r5 (below_alloc (Below.refl _ _) _)
      go_loopw [55] (fun i W => ∃ q : Nat, q ≤ x.f5.length ∧ i = .int .i64 q ∧ Kn W1 w6 B N0 g f j l1.length A5' c5' x.f5 q W) (fun i _ => x.f5.length - (RowKit.intOf i).toNat)
      case atStart => exact ⟨0, Nat.zero_le _, rfl, hKn0⟩
      case round =>
        obtain ⟨q, hq, rfl, hK⟩ := hrel
        by_cases hqt : q < x.f5.length
        · obtain ⟨kb, cp, he, hkb, -, -⟩ := Kd.R_form hK.row (by rw [List.length_append, List.length_map, List.length_take, List.length_drop]; omega)
          injection he with he1 he2 he3
          subst he1
          clear he2 he3
          have hkb2 := (hK.row.1 kb rfl).2.2.2
          have hw6s : w6.heap.size ≤ B := by rw [← hBe]; exact hb7.size
          have hsz := hJ.size
          have hx5 : wr.cell? ⟨wo.heap.size, 5, none⟩ = some (.slice (some ⟨kb, 0, none⟩) x.f5.length c5') := by
            rw [cell_blk (hK.keep wo.heap.size (fun e => by injection e with e; have e : wo.heap.size = kb := e; omega)), ← hW1]
            exact blk_cell (blk_new _ _) 5
          obtain ⟨hin, hfz⟩ := int_at hK.row q hqt
          rw [rd_next x.f5 l1.length q hqt] at hin
          obtain ⟨hr0, hr1⟩ := HT.out q hqt
          have hput := hK.put hqt (by omega)
          generalize rd x.f5 (q : Int) = r at *
          have hwr : wrap64 (r + (l1.length : Int)) = r + (l1.length : Int) := by unfold wrap64; omega
          have hqq : ((q : Int) < (x.f5.length : Int)) = True := eq_true (by omega)
          go_wp2
          refine ⟨⟨q + 1, by omega, rfl, hput⟩, ?_⟩
          show x.f5.length - ((q : Int) + 1).toNat < x.f5.length - ((q : Int)).toNat
          omega
        · obtain rfl : q = x.f5.length := by omega
          obtain ⟨hM, r4'⟩ := hJ.mid (o := .cells #[.int .i64 x.f0, .bool x.f1, .int .i64 x.f2, .string x.f3, .slice A4' x.f4.length c4', .slice A5' x.f5.length c5'] 39) hgN r4 r5 (by rw [hW1]; exact hK)
          have hsz := hJ.size
          have hbW : wr.heap[wo.heap.size]? = some (.cells #[.int .i64 x.f0, .bool x.f1, .int .i64 x.f2, .string x.f3, .slice A4' x.f4.length c4', .slice A5' x.f5.length c5'] 39 (0, 0)) := by
            rw [hK.keep wo.heap.size (fun e => by have := (r5.1 wo.heap.size e.symm).2.2.2; omega), ← hW1]
            exact blk_new _ _
          have y0 : wr.cell? ⟨wo.heap.size, 0, none⟩ = some (.int .i64 x.f0) := blk_cell hbW 0
          have y1 : wr.cell? ⟨wo.heap.size, 1, none⟩ = some (.bool x.f1) := blk_cell hbW 1
          have y2 : wr.cell? ⟨wo.heap.size, 2, none⟩ = some (.int .i64 x.f2) := blk_cell hbW 2
          have y3 : wr.cell? ⟨wo.heap.size, 3, none⟩ = some (.string x.f3) := blk_cell hbW 3
          have y4 : wr.cell? ⟨wo.heap.size, 4, none⟩ = some (.slice A4' x.f4.length c4') := blk_cell hbW 4
          have y5 : wr.cell? ⟨wo.heap.size, 5, none⟩ = some (.slice A5' x.f5.length c5') := blk_cell hbW 5
          have r5' := hK.row
          rw [List.take_length, List.drop_length, List.append_nil] at r5'
          have hqq : ((x.f5.length : Int) < (x.f5.length : Int)) = False := eq_false (by omega)
          have hl5 : (sh l1.length x).f5.length = x.f5.length := List.length_map ..
          have hFK := Aside0.mk (k39_mkF wr (ownB B N0 g f j) (sh l1.length x) (A4 := A4') (c4 := c4') (Kd.R_reads' r4').2.1 (Kd.R_F r4') (A5 := A5') (c5 := c5') (by rw [hl5]; exact (Kd.R_reads' r5').1 ▸ (Kd.R_reads' r5').2.1) (by rw [hl5]; exact Kd.R_F r5'))
          rw [hl5] at hFK
          have hll : (l1 ++ (l2.take j).map (sh l1.length)).length ≤ 600 := by rw [List.length_append, List.length_map, List.length_take]; omega
          clear hl5 r5' r4' r4 r5 hK hKn0 hbW
          go_wp2_with (at_builtin; refine Kd.N_append k39 (w0 := w6) w6.heap.size rfl (.tmp 68) (.tmp 70) 23 39 lz0 88 rfl Tryd.underlying23 info39 rfl (by decide) (by decide) _ (l1 ++ (l2.take j).map (sh l1.length)) (sh l1.length x) [.int .i64 x.f0, .bool x.f1, .int .i64 x.f2, .string x.f3, .slice A4' x.f4.length c4', .slice A5' x.f5.length c5'] (okT B N0 g f (j + 1)) (ownB B N0 g f j) rfl rfl hFK.out hM.apart (fun k hk => .inr (.inl (Nat.le_trans hM.size hk))) (Kd.N_mono hM.row (fun _ => okT_next)) hM.below hM.below.size (by omega) ?_; intro v1 w1 hN1 hB1 hg1 hat1; have hJ1 := hM.next hgB hgN hx hlt hN1 hB1 hg1; clear hN1 hB1 hg1 hat1)
          refine ⟨⟨j + 1, by omega, rfl, hJ1⟩, ?_⟩
          show l2.length - ((j : Int) + 1).toNat < l2.length - ((j : Int)).toNat
          omega
    · obtain rfl : j = l2.length := by omega
      have hN := hJ.row
      rw [List.take_length] at hN
      replace hN := Kd.N_mono hN (fun _ _ => trivial)
      change Kd.N k39 39 wo w6.heap.size (fun _ => True) _ (both l1 l2) at hN
      have hBo := hJ.below
      have HLB := Aside0.mk (both_len l1 l2)
      clear hJ hJ0 hb8
      rcases hkJ.out with hk | hk
      · have hPJ := Aside0.mk (fun (w' : World) (A' : Option Addr) (cp : Nat) (h1 : Glob w') (h2 : Kd.C k39 w' A' (join l1 l2).length (join l1 l2)) (h3 : (join l1 l2).length ≤ cp) => print_eq h1 h2 h3 hsJ hk (if_neg (by decide) : given 26 (join l1 l2) = []))
        obtain ⟨K2, hKK⟩ := refcheck_tells (join l1 l2) hsJ.sz
        have hK2 := hKK K2 (Nat.le_refl _)
        rw [hk] at hK2
        clear hKK
        obtain ⟨At, ct, rfl⟩ := Kd.N_slice hN
        go_wp2_with (first
          | (at_builtin; (generalize hW2 : wo.alloc (.cells #[.int .i64 ((l1.length : Int) - 1), .int .i64 ((l1.length : Int) + (l2.length : Int) - 1)] 3) = W2; obtain ⟨hN2, hB2, hF2, hok2, hz2⟩ := ints_at hp1 hp2 hW2 hN hBo; refine append_old k39 (w0 := w6) w6.heap.size rfl (.tmp 74) (.tmp 86) 23 39 lz0 88 rfl Tryd.underlying23 info39 rfl (by decide) (by decide) _ (both l1 l2) (top l1.length l2.length) [.int .i64 5, .bool false, .int .i64 0, .string ⟨#[]⟩, .slice none 0 0, .slice (some ⟨wo.heap.size, 0, none⟩) 2 2] (fun _ => True) (fun k => k = wo.heap.size) rfl (by rw [hz2]; rfl) hF2 hok2 (fun _ _ => trivial) hN2 hB2 hB2.size (by have := HLB.out; omega) ?_; intro v9 w9 hN9 hNt9 hB9; change Kd.N k39 39 w9 w6.heap.size (fun _ => True) v9 (join l1 l2) at hN9; obtain ⟨A9, c9, rfl, hc9, hr9⟩ := Kd.N_reads hN9; have hG9 := hG.out.below (hB6.trans (hB9.mono hB6.size))))
          | (go_at_call 14; (with_reducible refine (hPJ.out w9 A9 c9 hG9 hr9 hc9).mono ?_); rintro e w10 ⟨A10, c10, rfl, -, hb10⟩; have hB10 := hB9.trans (hb10.mono hB9.size); obtain ⟨-, hct, hC0⟩ := Kd.N_reads' (Kd.N_below hNt9 hb10))
          | (go_at_call 12; (with_reducible refine (copied_walk (both l1 l2) At ct w10 hC0 hct (by have := HLB.out; omega) hsB.slots).mono ?_); rintro e w11 ⟨v11, rfl, hN11, hb11⟩)
          | (at_builtin; (generalize hW3 : w11.alloc (.cells #[.int .i64 ((l1.length : Int) - 1), .int .i64 ((l1.length : Int) + (l2.length : Int) - 1)] 3) = W3; obtain ⟨hN3, hB3', hF3, hok3, hz3⟩ := ints_at hp1 hp2 hW3 hN11 hb11; refine append_old k39 (w0 := w10) w10.heap.size rfl (.tmp 94) (.tmp 106) 23 39 lz0 88 rfl Tryd.underlying23 info39 rfl (by decide) (by decide) _ (both l1 l2) (top l1.length l2.length) [.int .i64 5, .bool false, .int .i64 0, .string ⟨#[]⟩, .slice none 0 0, .slice (some ⟨w11.heap.size, 0, none⟩) 2 2] (fun _ => True) (fun k => k = w11.heap.size) rfl (by rw [hz3]; rfl) hF3 hok3 (fun _ _ => trivial) hN3 hB3' hB3'.size (by have := HLB.out; omega) ?_; intro v12 w12 hN12 _ hB12; change Kd.N k39 39 w12 w10.heap.size (fun _ => True) v12 (join l1 l2) at hN12; obtain ⟨A12, c12, rfl, hc12, hr12⟩ := Kd.N_reads hN12; have hBw := hB6.trans (hB10.mono hB6.size); have hBw2 := hBw.trans (hB12.mono hBw.size)))
          | (go_at_call 13; (with_reducible refine (haulierref03_Check.calls K2 A12 c12 (join l1 l2) 26 w12 ⟨hG.out.below hBw2⟩ hr12 hc12 hK2).mono ?_); rintro e w13 ⟨rfl, hb13⟩))
        go_ret
        exact ⟨rfl, hBw2.trans (hb13.mono hBw2.size)⟩
      · obtain ⟨T, hT⟩ : ∃ T, [91] ++ textOf l1 ++ [44] ++ textOf l2 ++ [93] = T := ⟨_, rfl⟩
        have hPJ := Aside0.mk (fun (w' : World) (A' : Option Addr) (cp : Nat) (h1 : Glob w') (h2 : Kd.C k39 w' A' (join l1 l2).length (join l1 l2)) (h3 : (join l1 l2).length ≤ cp) => print_eq h1 h2 h3 hsJ hk (((if_pos rfl : given 0 (join l1 l2) = textOf (join l1 l2)).trans (join_text l1 l2 hk1 hk2)).trans hT))
        have HT := Aside0.mk (join_bytes _ _ _ hT)
        have t1 := hs.text hk1
        have t2 := hs2.text hk2
        have z1 : (9223372036854775807 < 1 + (textOf l1).length) = False := eq_false (by omega)
        have z2 : (9223372036854775807 < 1 + (textOf l1).length + 1) = False := eq_false (by omega)
        have z3 : (9223372036854775807 < 1 + (textOf l1).length + 1 + (textOf l2).length) = False := eq_false (by omega)
        have z4 : (9223372036854775807 < 1 + (textOf l1).length + 1 + (textOf l2).length + 1) = False := eq_false (by omega)
        clear hT
        go_wp2_with (first
          | (at_builtin; (generalize hW2 : wo.alloc (.cells #[.int .i64 ((l1.length : Int) - 1), .int .i64 ((l1.length : Int) + (l2.length : Int) - 1)] 3) = W2; obtain ⟨hN2, hB2, hF2, hok2, hz2⟩ := ints_at hp1 hp2 hW2 hN hBo; refine append_old k39 (w0 := w6) w6.heap.size rfl (.tmp 74) (.tmp 86) 23 39 lz0 88 rfl Tryd.underlying23 info39 rfl (by decide) (by decide) _ (both l1 l2) (top l1.length l2.length) [.int .i64 5, .bool false, .int .i64 0, .string ⟨#[]⟩, .slice none 0 0, .slice (some ⟨wo.heap.size, 0, none⟩) 2 2] (fun _ => True) (fun k => k = wo.heap.size) rfl (by rw [hz2]; rfl) hF2 hok2 (fun _ _ => trivial) hN2 hB2 hB2.size (by have := HLB.out; omega) ?_; intro v9 w9 hN9 hNt9 hB9; change Kd.N k39 39 w9 w6.heap.size (fun _ => True) v9 (join l1 l2) at hN9; obtain ⟨A9, c9, rfl, hc9, hr9⟩ := Kd.N_reads hN9; have hG9 := hG.out.below (hB6.trans (hB9.mono hB6.size))))
          | (go_at_call 14; (with_reducible refine (hPJ.out w9 A9 c9 hG9 hr9 hc9).mono ?_); rintro e w10 ⟨A10, c10, rfl, hrd10, hb10⟩; have hB10 := hB9.trans (hb10.mono hB9.size); have k1 := as_string (A := A4) (c := c4) (hrd4'.below hB10); have k2 := as_string (A := A6) (c := c6) (hrd6.below hB10); have k3 := as_string (A := A10) (c := c10) hrd10))
        go_ret
        rw [HT.out]
        exact ⟨rfl, hB6.trans (hB10.mono hB6.size)⟩
theorem showJoins_walk (A : Option Addr) (c : Nat) (l1 : List S39) (A' : Option Addr) (c' : Nat) (l2 : List S39) (w : World) (hG : Aside0 (Glob w)) (hr : Kd.C k39 w A l1.length l1) (hc : l1.length ≤ c) (hcost : (l1.map Rd.cost).sum ≤ 1048576)
    (hr2 : Kd.C k39 w A' l2.length l2) (hc2 : l2.length ≤ c') (hcost2 : (l2.map Rd.cost).sum ≤ 1048576) :
    Calls Tryd.prog 5 #[.slice A l1.length c, .slice A' l2.length c'] w fun e w' => e = .returned (.bool true) ∧ Below w.heap.size w w' := by
  have hs : Small l1 := Small.of hcost
  have hs2 : Small l2 := Small.of hcost2
  by_cases hb1 : 300 < l1.length
  · exact joins_long A c l1 A' c' l2 w hG (.inl hb1)
  · by_cases hb2 : 300 < l2.length
    · exact joins_long A c l1 A' c' l2 w hG (.inr hb2)
    · by_cases h1 : checkOf l1 = 0
      · by_cases h2 : checkOf l2 = 0
        · exact joins_some A c l1 A' c' l2 w hG hr hc hs hr2 hc2 hs2 (by omega) (by omega) h1 h2 (small_both hcost hcost2 (by omega) (by omega)) (small_join hcost hcost2 (by omega) (by omega))
        · exact joins_not A c l1 A' c' l2 w hG hr hc hs hr2 hc2 hs2 (by omega) (by omega) _ _ rfl rfl (.inr h2)
      · exact joins_not A c l1 A' c' l2 w hG hr hc hs hr2 hc2 hs2 (by omega) (by omega) _ _ rfl rfl (.inl h1)
end Go.Proofs.YtldlkoncndlbhaaDoor.Sj
namespace Go.Proofs.YtldlkoncndlbhaaDoor.Laid
open Go.ChangeShapes Go.WideShapes Go.ChangeAt Go.RowKit Go.Proofs.YtldlkoncndlbhaaDoorW.PrintWords
/-- A table of integers that reads as listed. -/
theorem tab_is {P : Program} {W : World} {name : String} {k : IntKind} {zs : List Int} {g : Nat} {t e : TypeId} {n : Nat}
    (hg : P.globalNamed name = some g) (hty : (P.globals[g]?).map (·.type) = some t) (ht : P.underlying t = some (.array n e)) (he : P.underlying e = some (.int k)) (hce : P.cellsOf e = 1) (hct : P.cellsOf t = n)
    (h : Lib.VarReads P W name (Lib.tabData k zs)) : Lib.TabIs P W name k zs := by
  obtain ⟨g', t', cs, fuel, p, hg', ht', hvar, hd⟩ := h
  obtain rfl := Option.some.inj (hg.symm.trans hg')
  obtain rfl := Option.some.inj (hty.symm.trans ht')
  unfold Lib.TabIs
  rw [hvar, ← Lib.cells_of_tab ht he hce hct hd]
def laid : List (String × DataW Unit) := [("math/bits.deBruijn32tab", Rows.laid_math_bits_deBruijn32tab), ("math/bits.deBruijn64tab", Rows.laid_math_bits_deBruijn64tab), ("internal/strconv.uint64pow10", Rows.laid_internal_strconv_uint64pow10), ("unicode/utf8.acceptRanges", Rows.laid_unicode_utf8_acceptRanges), ("unicode/utf8.first", Rows.laid_unicode_utf8_first)]
theorem dataPow : Rows.laid_internal_strconv_uint64pow10 (H := Unit) = Lib.tabData .u64 Lib.pow10Tab := by kernel_rfl
theorem dataAcc : Rows.laid_unicode_utf8_acceptRanges (H := Unit) = Lib.acceptData := by kernel_rfl
theorem dataFirst : Rows.laid_unicode_utf8_first = Lib.firstData := by kernel_rfl
theorem extra : U8Extra Tryd.prog Tryd.lays196_ren := ⟨by kernel_rfl, by kernel_rfl, by kernel_rfl, by kernel_rfl, by kernel_rfl, by kernel_rfl, by kernel_rfl⟩
theorem glob_of_laid {W : World} (h : laidMetH Tryd.prog laid W) : Glob W := by
  rw [MakeChecks.laidMetH_plain _ _ _ (by kernel_rfl)] at h
  have hp := Lib.laidMet.reads h (n := "internal/strconv.uint64pow10") (d := Rows.laid_internal_strconv_uint64pow10) (by simp [laid])
  rw [dataPow] at hp
  have ha := Lib.laidMet.reads h (n := "unicode/utf8.acceptRanges") (d := Rows.laid_unicode_utf8_acceptRanges) (by simp [laid])
  rw [dataAcc] at ha
  have hf := Lib.laidMet.reads h (n := "unicode/utf8.first") (d := Rows.laid_unicode_utf8_first) (by simp [laid])
  rw [dataFirst] at hf
  exact ⟨tab_is (P := Tryd.prog) (g := 2) (t := 115) (e := 98) (n := 20) (by kernel_rfl) (by kernel_rfl) Tryd.underlying115 Tryd.underlying98 (by kernel_rfl) (by kernel_rfl) hp,
    utf8Tabs_of_readsT (U8Types.of196 Tryd.lays196) extra hf ha⟩
def firstCells : Array Value := (Go.Pinned.utf8FirstZ.map fun (n : Nat) => Value.int .u8 (n : Int)).toArray
/-- The heap that the door's own run leaves, utf8's table in its place (its text is pinned, not in the dump). -/
noncomputable def door (os : Os) : World := { World.doorLaid Tryd.prog 72 os with heap := (World.doorLaid Tryd.prog 72 os).heap.modify 0 fun o => match o with | .cells _ t fz => .cells firstCells t fz | o => o }
theorem all_of_laid {W : World} (h : laidMetH Tryd.prog laid W) : Aside0 (Glob W) := ⟨glob_of_laid h⟩
end Go.Proofs.YtldlkoncndlbhaaDoor.Laid
namespace Go.Proofs.YtldlkoncndlbhaaDoor.showJoinsUpto
open Go.ChangeShapes Go.WideShapes Go.ChangeAt Go.RowKit Go.Proofs.YtldlkoncndlbhaaDoor.PSh
set_option linter.unusedVariables false
theorem own : ownKnob Tryd.prog.godebug = none := by kernel_rfl
theorem laidOut : laidOutB Tryd.prog = true := by kernel_rfl
theorem reads (os : Os) {H : Type} (enc : TypeId × Value → H) : ∃ places, DataW.whole enc Tryd.prog ((Laid.door os).forCall (fun _ _ => 0) ⟨#[], #[.slice none 0 0, .slice none 0 0], []⟩).memory Tryd.f5.params.toList Rows.showJoinsSpec.vars false (#[.slice none 0 0, .slice none 0 0] : Array Value).toList 8 = some ([.nil, .nil], [], places) :=
  ⟨[], by kernel_rfl⟩
theorem met (os : Os) : laidMetH Tryd.prog Rows.showJoinsUptoRow.laid ((Laid.door os).forCall (fun _ _ => 0) ⟨#[], #[.slice none 0 0, .slice none 0 0], []⟩).memory := laidMetH_of_parts3 (fuel := 8) (laidMet_of_run' 8 (by kernel_rfl) (by kernel_rfl)) (by kernel_rfl) (by kernel_rfl)
set_option maxRecDepth 100000 in
theorem lifted (os : Os) (started : os.Started) (H : Type) (enc : TypeId × Value → H) (F : Stop.Interp) :
    ReturnsInHanded {} Tryd.checked os 5 .any ((Rows.OpenSpec.upto Rows.showJoinsSpec).preRow enc Tryd.prog Tryd.f5 Rows.showJoinsUptoRow.domain false Rows.showJoinsUptoRow.laid) (((Rows.OpenSpec.upto Rows.showJoinsSpec).at F).post enc Tryd.prog Tryd.f5 false true false false) := by
  obtain ⟨places, hx⟩ := reads os enc
  refine returnsInHanded_of_row (C := Tryd.checked) (s := Rows.OpenSpec.upto Rows.showJoinsSpec) own started (by kernel_rfl) Tryd.func5
    (witness_row_atRef (enc := enc) (C := Tryd.checked) false (Laid.door os) #[.slice none 0 0, .slice none 0 0] rfl (by kernel_rfl) (by kernel_rfl) (by kernel_rfl)
      (OpenSpec.preRow_of_cond 8 hx (by kernel_rfl) (fun k hk => by cases hk; kernel_rfl) (by kernel_rfl) (met os))) ?_
  intro W base args ds gs before hval0 hW _ hcond _ hL _ _
  have hbulk : Rows.uptoBulkAll (ds ++ gs) ≤ 1048576 := Bulk.small (hcond _ rfl)
  have hval : ∀ (j : Nat) t v, Tryd.f5.params[j]? = some t → args[j]? = some v → Value.okWide Tryd.prog W .any base t v := hval0
  have hW' := hW
  obtain ⟨p, q, hA0, hV, rfl, hfz, hnd⟩ := hW
  have hA : DataW.TrodAll enc Tryd.prog W 0 (fun _ => true) true Tryd.f5.params.toList args.toList ds p := hA0
  rw [Tryd.params5] at hA hval
  obtain ⟨v0, vs0, d0, ds0, p0, q0, hargs, rfl, rfl, h0, r0⟩ := trodAll_cons hA
  obtain ⟨v1, vs1, d1, ds1, p1, q1, rfl, rfl, rfl, h1, r1⟩ := trodAll_cons r0
  obtain ⟨rfl, rfl, rfl⟩ := trodAll_nil r1
  obtain rfl : args = #[v0, v1] := by cases args; simp_all
  obtain ⟨rfl, rfl⟩ := trodVars_none hV
  obtain ⟨a0, len0, cap0, rfl⟩ := okWide_slice Tryd.underlying23 (hval 0 23 v0 rfl rfl)
  have k0 := h0
  have lt0 : ∀ x ∈ p0, x.block < W.heap.size := by obtain ⟨m, hm⟩ := k0; exact DataW.trod_lt m _ _ _ hm
  obtain ⟨fuel0, hf0⟩ := h0
  obtain ⟨A0, c0, l0, hcs0, hlc0, hC0, hb0⟩ := Rd.tree_ofB hf0
  simp [Value.cells] at hcs0
  obtain ⟨rfl, rfl, rfl⟩ := hcs0
  have hs0 : (l0.map Rd.cost).sum ≤ 1048576 := Nat.le_trans hb0 (Nat.le_trans (Bulk.part_le (by simp)) hbulk)
  obtain ⟨a1, len1, cap1, rfl⟩ := okWide_slice Tryd.underlying23 (hval 1 23 v1 rfl rfl)
  have k1 := h1
  have lt1 : ∀ x ∈ p1, x.block < W.heap.size := by obtain ⟨m, hm⟩ := k1; exact DataW.trod_lt m _ _ _ hm
  obtain ⟨fuel1, hf1⟩ := h1
  obtain ⟨A1, c1, l1, hcs1, hlc1, hC1, hb1⟩ := Rd.tree_ofB hf1
  simp [Value.cells] at hcs1
  obtain ⟨rfl, rfl, rfl⟩ := hcs1
  have hs1 : (l1.map Rd.cost).sum ≤ 1048576 := Nat.le_trans hb1 (Nat.le_trans (Bulk.part_le (by simp)) hbulk)
  clear hA0 hval0 hcond
  refine (Sj.showJoins_walk _ _ l0 _ _ l1 W (Laid.all_of_laid hL) hC0 hlc0 hs0 hC1 hlc1 hs1).mono fun e W' ⟨he, bel⟩ => ?_
  subst he
  exact ⟨_, rfl, _, _, _, [], _, [], hW', trodAll_mk1 (shut_bool Tryd.underlying4 _), (trodAll_cons_mk (Below.trod laidOut (by kernel_rfl) (of_decide_eq_true (by kernel_rfl)) k0 bel lt0) (trodAll_cons_mk (Below.trod laidOut (by kernel_rfl) (of_decide_eq_true (by kernel_rfl)) k1 bel lt1) trodAll_mk0)), rfl, bel.frame _, fun h => by cases h⟩
theorem over : Rows.ShowJoinsUptoSaid :=
  OpenClaim.holds_of_cond 5 Tryd.f5 rfl rfl rfl rfl rfl rfl rfl ⟨rfl, rfl, rfl, rfl, rfl⟩ rfl rfl rfl rfl rfl (by kernel_rfl) Tryd.func5 (by kernel_rfl)
    (of_decide_eq_true (by kernel_rfl)) (by unfold Func.isWrapper; first | (rw [if_pos (by decide +kernel)]; kernel_rfl) | (rw [if_neg (by decide +kernel)]; exact ⟨rfl, rfl⟩))
    (fun os started H enc _ F => by rw [OpenClaim.pre_eq_preRow]; exact lifted os started H enc F)
theorem card : Rows.ShowJoinsUptoCardSaid :=
  Claim7.holds_tied_plain_at .later [] [.data, .data, .data, .data, .pinned] true (true, "f7f64af52245c68ce9e21da70b951672bd4e299224670fb1b5d98f932e9bff4c") true
    over (fun _ h => by cases h) (by kernel_rfl) (fun _ h => by cases h) showJoinsUpto_row_tie rfl ⟨rfl, rfl⟩ (by kernel_rfl) rfl
    (fun f fn hf hfn => by
      obtain rfl : f = 5 := Option.some.inj ((show Tryd.prog.funcNamed "haulier/haulierlaw03.ShowJoins" = some 5 by kernel_rfl).symm.trans hf) |>.symm
      obtain rfl : fn = Tryd.f5 := (Option.some.inj (Tryd.func5.symm.trans hfn)).symm
      exact ⟨by kernel_rfl, fun j t ht => by
        rw [Tryd.params5] at ht
        have hm : t ∈ [23] := by simpa using Array.mem_of_getElem? ht
        have hall : ([23].all fun u => !Tryd.prog.wantsStandIn u) = true := by kernel_rfl
        exact (show Tryd.prog.wantsStandIn t = false by simpa using List.all_eq_true.1 hall t hm)⟩)
    (by kernel_rfl)
end Go.Proofs.YtldlkoncndlbhaaDoor.showJoinsUpto
namespace Go.Proofs.YtldlkoncndlbhaaDoor
/-- The card, under a short name, for the claim. -/
theorem showJoins_upto : Rows.ShowJoinsUptoCardSaid := showJoinsUpto.card
end Go.Proofs.YtldlkoncndlbhaaDoor
