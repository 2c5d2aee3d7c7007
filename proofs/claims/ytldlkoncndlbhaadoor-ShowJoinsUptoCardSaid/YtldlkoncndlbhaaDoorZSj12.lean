/- YtldlkoncndlbhaaDoorZSj12: texts of the seat (RefQuote, RefQuoteW, PTxx0, PTxx1, RefText, RefWrite, RefPrint, Same, Fit, CopyOwn, AppOld, Join), one behind the other, without what this claim's theorem does not rest on. -/
import Derived.Test.YtldlkoncndlbhaaDoorZSj11
import Derived.Lib.OthersKept
import Derived.Lib.OwnKind
import Derived.Lib.AppendStr
import Derived.Lib.BufferWrite
import Derived.Maps.AppendAt
import Derived.Test.YtldlkoncndlbhaaDoorProg
import Derived.Below
import Derived.Deep.Draws
import Derived.Deep.AppendLies
import Derived.OwnWalk
import Derived.Laws.BytesArg
import Derived.Laws.MakeOwn
import Derived.Laws.OwnMore
import Derived.Deep.OwnRows
import Derived.Tactics
import Derived.Lib.ConvBytes
import Derived.Laws.Slices
import Derived.WalkKit
import Derived.KernelRfl
import Derived.RowKit3
import Derived.Deep.LoopGhost
import Derived.Deep.QuietTactic
import Derived.BigQuiet
import Derived.WideLaws
import Derived.Deep.DeepCutAuto
import Derived.Deep.CutBlock
import Derived.Deep.RegionHeld3
import Derived.Laws.Rows
import Derived.ArgAppend
import Derived.Laws.IdiomCopy
import Derived.OrdersHeld
import Derived.Laws.BitsLemmas
import Derived.RowKit
import Derived.Lib.ItoaNum

set_option linter.unusedVariables false
set_option linter.unusedSimpArgs false
namespace Go.Proofs.YtldlkoncndlbhaaDoor.Rq
open Go.RowKit Go.Proofs.YtldlkoncndlbhaaDoor.Utf Go.Lib Go.Proofs.YtldlkoncndlbhaaDoorW.PrintWords Go.Proofs.YtldlkoncndlbhaaDoorW.PrintLast Go.Proofs.YtldlkoncndlbhaaDoorW.PrintMore
/-- A row of bytes of the call's own; nothing below has turned; of what stood in 'a' only rows of bytes have. -/
def Rw (w0 a : World) (v : Value) (out : List UInt8) (w : World) : Prop :=
  w.ownsRow w0.heap.size 5 1 v out.length (byteCells out) ∧ Below w0.heap.size w0 w ∧ OthersKept 5 none a w
section
variable {w0 a0 w w' : World} {v : Value} {out : List UInt8}
section
variable {ops : Array Oper} {rest : List Oper} {o : Oper} {a : Act} {Q : Exit → Act → World → Prop} {K : Act → World → Prop}
end
end
/-- The text's bytes lie there, apart from the row. -/
def Lies (s : ByteArray) (g : Nat) (v : Value) (w : World) : Prop :=
  g < w.heap.size ∧ (∀ j, j < s.size → w.cell? ⟨g, j, none⟩ = some (.int .u8 ((s.data.toList.getD j 0).toNat : Int))) ∧ v.ownBlock ≠ some g
section
variable {w0 a0 w w' : World} {v v1 : Value} {out : List UInt8} {s : ByteArray} {g : Nat}
end
end Go.Proofs.YtldlkoncndlbhaaDoor.Rq
set_option linter.unusedVariables false
set_option linter.unusedSimpArgs false
namespace Go.Proofs.YtldlkoncndlbhaaDoor.Rq
open Go.RowKit Go.Proofs.YtldlkoncndlbhaaDoor.Utf Go.Lib Go.Proofs.YtldlkoncndlbhaaDoorW.PrintWords Go.Proofs.YtldlkoncndlbhaaDoorW.PrintLast Go.Proofs.YtldlkoncndlbhaaDoorW.PrintMore
def T15 : Bool × List (List Nat × List Nat) := (true, [([], []), ([], []), ([], []), ([2], [2]), ([1, 3], [1, 3]), ([], []), ([], []), ([6], [6]), ([5, 7], [5, 7]), ([4, 8], [4, 8]), ([0, 9], [0, 9]), ([10, 10, 0, 1, 2, 3, 4, 5, 6, 7, 8, 9, 10], [0, 10])])
def B15 : List Nat := [0, 0, 0, 4, 14, 0, 0, 64, 224, 510, 1023, 2047]
def hexPiece (c : UInt8) : List UInt8 := [92, 117, 48, 48, hexOf (c.toNat / 16), hexOf (c.toNat % 16)]
def hexCells (c : UInt8) : Array Value := #[.int .u8 92, .int .u8 117, .int .u8 48, .int .u8 48, .int .u8 ((hexOf (c.toNat / 16)).toNat : Int), .int .u8 ((hexOf (c.toNat % 16)).toNat : Int)]
/-- What is so in each round. -/
def At (w0 a0 : World) (s : ByteArray) (g : Nat) (v : Value) (out : List UInt8) (w : World) : Prop := Rw w0 a0 v out w ∧ Lies s g v w
end Go.Proofs.YtldlkoncndlbhaaDoor.Rq
-- Laid by wip/mk/mk.py of this session (the kit's printer with this session's contracts for library functions).
namespace Go.Proofs.YtldlkoncndlbhaaDoor.PTx
open Go.RowKit Go.Proofs.YtldlkoncndlbhaaDoorW.PrintWords Go.Proofs.YtldlkoncndlbhaaDoorW.PrintLast Go.Proofs.YtldlkoncndlbhaaDoorW.PrintMore
attribute [local go_sem] max2_int min2_int max_two min_two max_three min_three max_four min_four   -- for this text's walks alone
set_option linter.unusedVariables false
set_option linter.unusedSimpArgs false
def errW : Option Int → Value
  | none => .nilIface
  | some c => .iface 0 (.int .i64 c)
-- the values' own types
end Go.Proofs.YtldlkoncndlbhaaDoor.PTx
-- Laid by wip/mk/mk.py of this session (the kit's printer with this session's contracts for library functions).
namespace Go.Proofs.YtldlkoncndlbhaaDoor.PTx
open Go.RowKit Go.Proofs.YtldlkoncndlbhaaDoorW.PrintWords Go.Proofs.YtldlkoncndlbhaaDoorW.PrintLast Go.Proofs.YtldlkoncndlbhaaDoorW.PrintMore
attribute [local go_sem] max2_int min2_int max_two min_two max_three min_three max_four min_four   -- for this text's walks alone
set_option linter.unusedVariables false
set_option linter.unusedSimpArgs false
/-! ### haulierref01_Text: function 42 -/
mutual
def haulierref01_Text.l0 : Nat → Int → ByteArray → Option (ByteArray)
  | 0, _, _ => none
  | k + 1, x0, x3 => (some (([(wrap64 (48 + (Int.tmod x0 10))) % 256] : List Int) : List Int)).bind fun y102 => (if (strOfNums y102).size + x3.size ≤ 9223372036854775807 then (if (wrap64 (Int.tdiv x0 10)) = 0 then (some ((strOfNums y102) ++ x3)) else (haulierref01_Text.l0 k (wrap64 (Int.tdiv x0 10)) ((strOfNums y102) ++ x3))) else (none))
def haulierref01_Text.f : Nat → Int → Option (ByteArray)
  | 0, _ => none
  | k + 1, a0 => if a0 = (-9223372036854775808) then (some (⟨#[45, 57, 50, 50, 51, 51, 55, 50, 48, 51, 54, 56, 53, 52, 55, 55, 53, 56, 48, 56]⟩ : ByteArray)) else (if a0 < 0 then ((haulierref01_Text.f k (wrap64 (-a0))).bind fun t101 => (if 1 + t101.size ≤ 9223372036854775807 then (some ((⟨#[45]⟩ : ByteArray) ++ t101)) else (none))) else (haulierref01_Text.l0 k a0 (⟨#[]⟩ : ByteArray)))
end
end Go.Proofs.YtldlkoncndlbhaaDoor.PTx
namespace Go.Proofs.YtldlkoncndlbhaaDoor.Rt
open Go.RowKit Go.Proofs.YtldlkoncndlbhaaDoor.PTx Go.Proofs.YtldlkoncndlbhaaDoorW.PrintWords Go.Proofs.YtldlkoncndlbhaaDoorW.PrintLast Go.Proofs.YtldlkoncndlbhaaDoorW.PrintMore
end Go.Proofs.YtldlkoncndlbhaaDoor.Rt
set_option linter.unusedVariables false
set_option linter.unusedSimpArgs false
namespace Go.Proofs.YtldlkoncndlbhaaDoor.Rq
open Go.RowKit Go.Proofs.YtldlkoncndlbhaaDoor.Utf Go.Proofs.YtldlkoncndlbhaaDoor.Tx Go.Proofs.YtldlkoncndlbhaaDoor.PSh Go.Lib Go.Proofs.YtldlkoncndlbhaaDoorW.PrintWords Go.Proofs.YtldlkoncndlbhaaDoorW.PrintLast Go.Proofs.YtldlkoncndlbhaaDoorW.PrintMore
section
variable {w0 a w : World} {v : Value} {out : List UInt8}
end
end Go.Proofs.YtldlkoncndlbhaaDoor.Rq
set_option linter.unusedVariables false
set_option linter.unusedSimpArgs false
namespace Go.Proofs.YtldlkoncndlbhaaDoor.Rq
open Go.RowKit Go.Proofs.YtldlkoncndlbhaaDoor.Utf Go.Proofs.YtldlkoncndlbhaaDoor.Tx Go.Proofs.YtldlkoncndlbhaaDoor.Wr Go.Proofs.YtldlkoncndlbhaaDoor.PSh Go.Lib Go.Proofs.YtldlkoncndlbhaaDoorW.PrintWords Go.Proofs.YtldlkoncndlbhaaDoorW.PrintLast Go.Proofs.YtldlkoncndlbhaaDoorW.PrintMore
end Go.Proofs.YtldlkoncndlbhaaDoor.Rq
namespace Go.Proofs.YtldlkoncndlbhaaDoor.Wr
open Go.RowKit Go.Proofs.YtldlkoncndlbhaaDoor.Utf Go.Proofs.YtldlkoncndlbhaaDoor.Tx Go.Proofs.YtldlkoncndlbhaaDoor.PSh Go.Proofs.YtldlkoncndlbhaaDoorW.PrintWords Go.Proofs.YtldlkoncndlbhaaDoorW.PrintLast Go.Proofs.YtldlkoncndlbhaaDoorW.PrintMore
set_option linter.unusedSimpArgs false
set_option linter.unusedVariables false
/-- What Print gives of a tree. -/
def given (r : Int) (l : List S39) : List UInt8 := if r = 0 then textOf l else []
end Go.Proofs.YtldlkoncndlbhaaDoor.Wr
namespace Go.Proofs.YtldlkoncndlbhaaDoor.Pure
open Go.RowKit Go.Proofs.YtldlkoncndlbhaaDoor.Utf Go.Proofs.YtldlkoncndlbhaaDoor.Pl Go.Proofs.YtldlkoncndlbhaaDoor.Tx Go.Proofs.YtldlkoncndlbhaaDoor.Wr Go.Proofs.YtldlkoncndlbhaaDoor.Rd Go.Proofs.YtldlkoncndlbhaaDoor.PSh Go.Proofs.YtldlkoncndlbhaaDoorW.PrintWords Go.Proofs.YtldlkoncndlbhaaDoorW.PrintLast Go.Proofs.YtldlkoncndlbhaaDoorW.PrintMore
set_option linter.unusedSimpArgs false
set_option linter.unusedVariables false
/-- Of a bounded cost. -/
def Small (l : List S39) : Prop := (l.map cost).sum ≤ 4194304 ∧ l.length ≤ 1048576
theorem Small.of {l : List S39} (h : (l.map cost).sum ≤ 1048576) : Small l := ⟨by omega, Nat.le_trans (len_cost l) h⟩
theorem at_mem {l : List S39} {a : Int} (h0 : 0 ≤ a) (h1 : a < l.length) : rd_T39 l a ∈ l := by
  have hl : a.toNat < l.length := by omega
  unfold rd_T39
  rw [List.getD_eq_getElem?_getD, List.getElem?_eq_getElem hl]
  exact List.getElem_mem hl
theorem Small.at_ {l : List S39} (h : Small l) {a : Int} (h0 : 0 ≤ a) (h1 : a < l.length) :
    (rd_T39 l a).f3.size ≤ 4194304 ∧ (rd_T39 l a).f4.length ≤ 4194304 ∧ (rd_T39 l a).f5.length ≤ 4194304 ∧ ∀ s ∈ (rd_T39 l a).f4, s.size ≤ 4194304 := by
  have h2 := sum_mem l _ (at_mem h0 h1)
  have h3 := h.1
  generalize rd_T39 l a = v at *
  have h4 := names_len v.f4
  have h5 : cost v = 1 + v.f3.size + (v.f4.map fun s => s.size + 1).sum + v.f5.length := rfl
  refine ⟨by omega, by omega, by omega, fun s hs => ?_⟩
  have := name_le v.f4 s hs
  omega
theorem Small.sz {l : List S39} (h : Small l) : Sz l := fun a h0 h1 => by
  obtain ⟨g3, g4, g5, gn⟩ := h.at_ h0 h1
  exact ⟨⟨fun s hs => Nat.le_trans (gn s hs) (by decide), by omega, by omega⟩, by omega⟩
theorem Small.sized {l : List S39} (h : Small l) : Sized l := fun a h0 h1 => by
  obtain ⟨g3, g4, g5, gn⟩ := h.at_ h0 h1
  refine ⟨by omega, by omega, fun i hi => ?_⟩
  have hm : rdOf ByteArray.empty (rd_T39 l a).f4 (i : Int) ∈ (rd_T39 l a).f4 := by
    unfold rdOf
    rw [Int.toNat_natCast, List.getD_eq_getElem?_getD, List.getElem?_eq_getElem hi]
    exact List.getElem_mem hi
  have := gn _ hm
  omega
theorem Small.slots {l : List S39} (h : Small l) : ∀ a : Int, 0 ≤ a → a < l.length → (rd_T39 l a).f4.length * 16 ≤ 140737488355328 ∧ (rd_T39 l a).f5.length * 8 ≤ 140737488355328 := fun a h0 h1 => by
  obtain ⟨g3, g4, g5, gn⟩ := h.at_ h0 h1
  exact ⟨by omega, by omega⟩
theorem sumN_names (ss : List ByteArray) : ∀ m, m ≤ ss.length → sumN (fun i => 6 * (rdOf ByteArray.empty ss (i : Int)).size + 3) m ≤ 6 * ((ss.take m).map fun s => s.size + 1).sum
  | 0, _ => Nat.zero_le _
  | m + 1, h => by
    have ih := sumN_names ss m (by omega)
    rw [sumN, List.take_succ_eq_append_getElem (by omega), List.map_append, List.sum_append]
    have e : rdOf ByteArray.empty ss (m : Int) = ss[m] := by
      unfold rdOf
      rw [Int.toNat_natCast, List.getD_eq_getElem?_getD, List.getElem?_eq_getElem (by omega)]
      rfl
    have e2 : (List.map (fun s : ByteArray => s.size + 1) [ss[m]]).sum = ss[m].size + 1 := by simp
    rw [e, e2]
    omega
theorem own_cost (v : S39) : ownLen v ≤ 32 * cost v := by
  have h := sumN_names v.f4 v.f4.length (Nat.le_refl _)
  rw [List.take_length] at h
  unfold ownLen cost
  omega
theorem sumN_list (l : List S39) : ∀ m, m ≤ l.length → sumN (fun j => ownLen (rd_T39 l (j : Int))) m ≤ 32 * ((l.take m).map cost).sum
  | 0, _ => Nat.zero_le _
  | m + 1, h => by
    have ih := sumN_list l m (by omega)
    rw [sumN, List.take_succ_eq_append_getElem (by omega), List.map_append, List.sum_append]
    have e : rd_T39 l (m : Int) = l[m] := by
      unfold rd_T39
      rw [Int.toNat_natCast, List.getD_eq_getElem?_getD, List.getElem?_eq_getElem (by omega)]
      rfl
    have e2 : (List.map cost [l[m]]).sum = cost l[m] := by simp
    have := own_cost l[m]
    rw [e, e2]
    omega
theorem Small.text {l : List S39} (h : Small l) (hc : checkOf l = 0) : (textOf l).length ≤ 134217728 := by
  have h1 := text_len l hc
  have h2 := sumN_list l l.length (Nat.le_refl _)
  rw [List.take_length] at h2
  have := h.1
  omega
theorem Small.ok {l : List S39} (h : Small l) (hc : checkOf l = 0) : 0 < l.length ∧ Tree l ∧ Sized l ∧ (textOf l).length ≤ 140737488355328 :=
  ⟨(check_nodes l hc).1, check_tree l hc, h.sized, Nat.le_trans (h.text hc) (by decide)⟩
/-- What both Prints leave. -/
def Printed (w : World) (l : List S39) : Ending → World → Prop := fun e w' => ∃ (A' : Option Addr) (c' : Nat) (t : List UInt8), e = .returned (.tuple #[.slice A' t.length c', .int .i64 (checkOf l)]) ∧ ReadsInt w' .u8 A' t.length (numsOf t) ∧ Below w.heap.size w w' ∧ t = given (checkOf l) l
theorem print_tells {l : List S39} {w : World} {A : Option Addr} {cp : Nat} (hG : Aside0 (Glob w)) (hr : Kd.C k39 w A l.length l) (hc : l.length ≤ cp) (hs : Small l) :
    Calls Tryd.prog 14 #[.slice A l.length cp] w (Printed w l) := by
  obtain ⟨K, hK⟩ := check_tells l hs.sz
  exact (print_walk K l A cp (checkOf l) w hG hr hc hs.2 (hK K (Nat.le_refl _)) hs.ok).mono fun e w' h => h
/-- A text as a string. -/
theorem as_string {w : World} {A : Option Addr} {c : Nat} {t : List UInt8} (hrd : ReadsInt w .u8 A t.length (numsOf t)) : (convert 30 9 (.slice A t.length c)).run Tryd.prog w = .ok (.string ⟨t.toArray⟩) w := by
  have h := string_of_reads (P := Tryd.prog) (src := 30) (dst := 9) (e := 5) (c := c) Tryd.underlying30 Tryd.underlying5 Tryd.underlying9 hrd
  exact h.trans (by rw [Aw.str_nums])
end Go.Proofs.YtldlkoncndlbhaaDoor.Pure
namespace Go.Proofs.YtldlkoncndlbhaaDoor.Co
open Go.RowKit Go.Proofs.YtldlkoncndlbhaaDoor.PSh Go.Proofs.YtldlkoncndlbhaaDoor.Cp Go.Proofs.YtldlkoncndlbhaaDoorW.PrintWords Go.Proofs.YtldlkoncndlbhaaDoorW.PrintLast Go.Proofs.YtldlkoncndlbhaaDoorW.PrintMore
set_option linter.unusedSimpArgs false
set_option linter.unusedVariables false
/-- The blocks of element i. -/
def own (g : Nat) (f : Nat → Nat) (i : Nat) : Nat → Prop := fun k => k ≠ g ∧ f k = i
/-- The inner rows of the first m elements are the row's own, told apart by f. -/
def Owned (w : World) (base g : Nat) (f : Nat → Nat) (l : List S39) (m : Nat) : Prop := ∀ i : Nat, i < m → ∃ v4 v5, w.cell? ⟨g, i * 6 + 4, none⟩ = some v4 ∧ w.cell? ⟨g, i * 6 + 5, none⟩ = some v5 ∧
  Kd.string.R 9 w base (own g f i) v4 (rd_T39 l (i : Int)).f4 ∧ (Kd.int .i64).R 3 w base (own g f i) v5 (rd_T39 l (i : Int)).f5
section
variable {w w1 W0 W6 : World} {base g : Nat} {f : Nat → Nat} {l : List S39} {m j : Nat}
theorem Owned.below (h : Owned w base g f l m) (hb : Below w.heap.size w w1) (hg : g < w.heap.size) : Owned w1 base g f l m := fun i hi => by
  obtain ⟨v4, v5, e4, e5, r4, r5⟩ := h i hi
  exact ⟨v4, v5, (hb.cell hg).trans e4, (hb.cell hg).trans e5, Kd.R_below r4 hb, Kd.R_below r5 hb⟩
theorem off_ne {g a b : Nat} (h : a ≠ b) : (⟨g, a, none⟩ : Addr) ≠ ⟨g, b, none⟩ := fun e => h (by injection e)
theorem cell_other (w : World) (g a b : Nat) (v : Value) (h : a ≠ b) : (w.setCell ⟨g, a, none⟩ v).cell? ⟨g, b, none⟩ = w.cell? ⟨g, b, none⟩ := World.cell?_setCell_other (h := off_ne h) ..
theorem cell_same (w : World) (g a : Nat) (u v : Value) (h : w.cell? ⟨g, a, none⟩ = some u) : (w.setCell ⟨g, a, none⟩ v).cell? ⟨g, a, none⟩ = some v := World.cell?_setCell_same (h := h) ..
theorem owned_put (hO : Owned W0 base g f l j) (hb : base ≤ W0.heap.size) (hg : g < W0.heap.size) (hB : Below W0.heap.size W0 W6) {v4 v5 : Value}
    (r4 : Kd.string.R 9 W6 W0.heap.size (fun _ => True) v4 (rd_T39 l (j : Int)).f4) (r5 : (Kd.int .i64).R 3 W6 W0.heap.size (fun _ => True) v5 (rd_T39 l (j : Int)).f5)
    {bs n cap : Nat} (hN : Kd.N k39 39 W6 bs (fun _ => True) (.slice (some ⟨g, 0, none⟩) n cap) l) (hj : j < l.length) :
    ∃ f', Owned ((W6.setCell ⟨g, j * 6 + 4, none⟩ v4).setCell ⟨g, j * 6 + 5, none⟩ v5) base g f' l (j + 1) := by
  obtain ⟨A4, c4, A5, c5, hx4, hx5, -⟩ := elem_at hN j hj
  refine ⟨fun k => if W0.heap.size ≤ k then j else f k, fun i hi => ?_⟩
  by_cases hij : i = j
  · subst hij
    refine ⟨v4, v5, ?_, ?_, ?_, ?_⟩
    · rw [cell_other _ g (i * 6 + 5) (i * 6 + 4) v5 (by omega)]
      exact cell_same _ _ _ _ _ hx4
    · refine cell_same _ _ _ (.slice A5 (rd_T39 l (i : Int)).f5.length c5) _ ?_
      rw [cell_other _ g (i * 6 + 4) (i * 6 + 5) v4 (by omega)]
      exact hx5
    · have h := Kd.R_lower (Kd.R_bound r4) hb
      have hk : ∀ k, (True ∧ W0.heap.size ≤ k ∧ k < W6.heap.size ∧ ∃ q, q ∈ 9 :: Kd.string.E ∧ ∃ cells, W6.heap[k]? = some (.cells cells q (0, 0))) → k ≠ g := fun k hk => by have := hk.2.1; omega
      exact Kd.R_mono (Kd.R_far (Kd.R_far h hk v4) hk v5) (fun k hk2 => ⟨hk k hk2, if_pos hk2.2.1⟩)
    · have h := Kd.R_lower (Kd.R_bound r5) hb
      have hk : ∀ k, (True ∧ W0.heap.size ≤ k ∧ k < W6.heap.size ∧ ∃ q, q ∈ 3 :: (Kd.int .i64).E ∧ ∃ cells, W6.heap[k]? = some (.cells cells q (0, 0))) → k ≠ g := fun k hk => by have := hk.2.1; omega
      exact Kd.R_mono (Kd.R_far (Kd.R_far h hk v4) hk v5) (fun k hk2 => ⟨hk k hk2, if_pos hk2.2.1⟩)
  · obtain ⟨u4, u5, e4, e5, s4, s5⟩ := hO i (by omega)
    refine ⟨u4, u5, ?_, ?_, ?_, ?_⟩
    · rw [cell_other _ g (j * 6 + 5) (i * 6 + 4) v5 (by omega), cell_other _ g (j * 6 + 4) (i * 6 + 4) v4 (by omega), hB.cell hg]
      exact e4
    · rw [cell_other _ g (j * 6 + 5) (i * 6 + 5) v5 (by omega), cell_other _ g (j * 6 + 4) (i * 6 + 5) v4 (by omega), hB.cell hg]
      exact e5
    · have h := Kd.R_below (Kd.R_bound s4) hB
      exact Kd.R_mono (Kd.R_far (Kd.R_far h (fun k hk => hk.1.1) v4) (fun k hk => hk.1.1) v5) (fun k hk => ⟨hk.1.1, (if_neg (by have := hk.2.2.1; omega)).trans hk.1.2⟩)
    · have h := Kd.R_below (Kd.R_bound s5) hB
      exact Kd.R_mono (Kd.R_far (Kd.R_far h (fun k hk => hk.1.1) v4) (fun k hk => hk.1.1) v5) (fun k hk => ⟨hk.1.1, (if_neg (by have := hk.2.2.1; omega)).trans hk.1.2⟩)
end
set_option maxHeartbeats 4000000 in
set_option maxRecDepth 100000 in
theorem copied_owns (l : List S39) (A : Option Addr) (cp : Nat) (w : World) (hr : Kd.C k39 w A l.length l) (hc : l.length ≤ cp) (hcap : l.length ≤ 1048576) (hpos : 0 < l.length)
    (hs : ∀ a : Int, 0 ≤ a → a < l.length → (rd_T39 l a).f4.length * 16 ≤ 140737488355328 ∧ (rd_T39 l a).f5.length * 8 ≤ 140737488355328) :
    Calls Tryd.prog 12 #[.slice A l.length cp] w fun e w' => ∃ (g c : Nat) (f : Nat → Nat), e = .returned (.slice (some ⟨g, 0, none⟩) l.length c) ∧ Kd.N k39 39 w' w.heap.size (fun _ => True) (.slice (some ⟨g, 0, none⟩) l.length c) l ∧ Owned w' w.heap.size g f l l.length ∧ Below w.heap.size w w' := by
  have hF := Kd.C_F heap39 hr
  go_enter Tryd.func12, Tryd.ntmps12
  go_wp2_with (at_builtin; refine Kd.N_append_rows k39 (w0 := w) w.heap.size rfl (.tmp 5) (.tmp 6) 23 39 lz0 88 rfl Tryd.underlying23 info39 rfl (by decide) (by decide) (.slice (some ⟨w.heap.size, 0, none⟩) 0 0) [] l A l.length cp (fun _ => True) (fun k => k < w.heap.size) rfl rfl (Kd.R_N (lit_nil k39 _ w _ (Nat.le_refl _) _ trivial)) (Kd.F_alloc hF _) (fun k hk => ⟨trivial, fun e => by simp [Value.ownBlock] at e; omega⟩) (fun _ _ => trivial) (below_alloc (Below.refl _ _) _) (by simp) (by simp; omega) ?_; intro v1 w1 hN hB hg hat; clear hg hat; obtain ⟨A1, c1, rfl⟩ := Kd.N_slice hN)
  simp only [List.nil_append] at hN
  obtain ⟨g, cap0, he0, hgb, hgl, -, -⟩ := Kd.N_form hN hpos
  injection he0 with h1 h2 h3
  subst h1
  subst h3
  go_loopw [10] (fun i wr => ∃ j : Nat, j ≤ l.length ∧ i = .int .i64 j ∧ Kd.N k39 39 wr w.heap.size (fun _ => True) (.slice (some ⟨g, 0, none⟩) l.length c1) l ∧ Below w.heap.size w wr ∧ ∃ f, Owned wr w.heap.size g f l j) (fun i _ => l.length - (intOf i).toNat)
  case atStart => exact ⟨0, Nat.zero_le _, rfl, hN, hB, fun _ => 0, fun i hi => absurd hi (Nat.not_lt_zero _)⟩
  case round =>
    obtain ⟨j, hj, rfl, hNr, hBr, f0, hO⟩ := hrel
    by_cases hlt : j < l.length
    · obtain ⟨g', cap, he, hg0, hg1, cells, hcells⟩ := Kd.N_form hNr (by omega)
      obtain ⟨rfl, rfl⟩ : g = g' ∧ c1 = cap := by
        injection he with h1 h2 h3
        injection h1 with h1
        injection h1 with h1
        exact ⟨h1, h3⟩
      have hO0 := Aside0.mk (hO.below (below_drew (Below.refl wr.heap.size wr)) hg1)
      clear hO
      have hN0 := Kd.N_drew hNr
      have hB0 : Below w.heap.size w wr.drew := below_drew hBr
      have hgW : g < wr.drew.heap.size := hg1
      obtain ⟨A4, c4, A5, c5, hx4, hx5, hz4, hz5, hl4, hF4, hl5, hF5⟩ := elem_at hN0 j hlt
      obtain ⟨hs4, hs5⟩ := hs (j : Int) (by omega) (by omega)
      obtain ⟨f4, he4⟩ : ∃ f4, (rd_T39 l (j : Int)).f4 = f4 := ⟨_, rfl⟩
      obtain ⟨f5, he5⟩ : ∃ f5, (rd_T39 l (j : Int)).f5 = f5 := ⟨_, rfl⟩
      rw [he4] at hx4 hl4 hF4 hs4
      rw [he5] at hx5 hl5 hF5 hs5
      have hS : ∀ W, Below wr.drew.heap.size wr.drew W → W.cell? ⟨g, j * 6 + 4, none⟩ = some (.slice A4 f4.length c4) ∧ W.cell? ⟨g, j * 6 + 5, none⟩ = some (.slice A5 f5.length c5) := fun W hB => ⟨(hB.cell hgW).trans hx4, (hB.cell hgW).trans hx5⟩
      have hC4 : ∀ W, Below wr.drew.heap.size wr.drew W → Kd.string.C W A4 f4.length f4 := fun W hB => Kd.F_now (Kd.F_below hF4 hB)
      have hC5 : ∀ W, Below wr.drew.heap.size wr.drew W → (Kd.int .i64).C W A5 f5.length f5 := fun W hB => Kd.F_now (Kd.F_below hF5 hB)
      have hst : ∀ W, Below wr.drew.heap.size wr.drew W → Kd.N k39 39 W w.heap.size (fun _ => True) (.slice (some ⟨g, 0, none⟩) l.length c1) l ∧ W.cell? ⟨g, j * 6 + 4, none⟩ = some (.slice A4 f4.length c4) ∧ W.frozen? ⟨g, j * 6 + 4, none⟩ = false ∧ W.cell? ⟨g, j * 6 + 5, none⟩ = some (.slice A5 f5.length c5) ∧ W.frozen? ⟨g, j * 6 + 5, none⟩ = false := fun W hB => by
        have hNW := Kd.N_below hN0 hB
        obtain ⟨_, _, _, _, _, _, hz, hz2, _⟩ := elem_at hNW j hlt
        exact ⟨hNW, (hS W hB).1, hz, (hS W hB).2, hz2⟩
      have q1 : ((j : Int) < (l.length : Int)) = True := eq_true (by omega)
      clear hF4 hF5 hl4 hl5 hz4 hz5
      go_wp2
      refine start_ (n := 24) (S := fun w' => w'.cell? ⟨g, j * 6 + 4, none⟩ = some (.slice A4 f4.length c4) ∧ w'.cell? ⟨g, j * 6 + 5, none⟩ = some (.slice A5 f5.length c5)) (ds := [20, 23]) #[false, false, false, false, false, false, false, false, false, false, false, false, false, false, false, false, false, false, false, false, false, false, false, false] (by kernel_rfl) rfl rfl ⟨hx4, hx5⟩ (fun hHeld => ?_)
      refine with_tabW copied.tab5 copied.bits5 (fun HT_ HW_ => ?_)
      generalize hW0 : wr.drew = W0 at *
      refine pure_ (i := 0) (N := some 13) (v := ?_) (a' := ?_) #[true, false, false, false, false, false, false, false, false, false, false, false, false, false, false, false, false, false, false, false, false, false, false, false] rfl rfl (any_of HT_.out (by kernel_rfl)) (fun _ _ _ h => h) (Or.inl ⟨by rfl, ?_⟩) ?_ ?_
      rotate_left
      · intro w'
        go_simp
        with_reducible rfl
      rotate_left
      · simp only [Act.put, List.setIfInBounds_toArray, List.set_cons_zero, List.set_cons_succ, i64_w, i32_w]
        rfl
      refine pure_ (i := 1) (N := some 14) (v := ?_) (a' := ?_) #[true, true, false, false, false, false, false, false, false, false, false, false, false, false, false, false, false, false, false, false, false, false, false, false] rfl rfl (any_of HT_.out (by kernel_rfl)) (fun _ _ _ h => h) (Or.inl ⟨by rfl, ?_⟩) ?_ ?_
      rotate_left
      · intro w'
        go_simp
        with_reducible rfl
      rotate_left
      · simp only [Act.put, List.setIfInBounds_toArray, List.set_cons_zero, List.set_cons_succ, i64_w, i32_w]
        rfl
      refine pure_ (i := 2) (N := some 15) (v := ?_) (a' := ?_) #[true, true, true, false, false, false, false, false, false, false, false, false, false, false, false, false, false, false, false, false, false, false, false, false] rfl rfl (any_of HT_.out (by kernel_rfl)) (fun _ _ _ h => h) (Or.inl ⟨by rfl, ?_⟩) ?_ ?_
      rotate_left
      · intro w'
        go_simp
        with_reducible rfl
      rotate_left
      · simp only [Act.put, List.setIfInBounds_toArray, List.set_cons_zero, List.set_cons_succ, i64_w, i32_w]
        rfl
      refine pure_ (i := 3) (N := some 16) (v := ?_) (a' := ?_) #[true, true, true, true, false, false, false, false, false, false, false, false, false, false, false, false, false, false, false, false, false, false, false, false] rfl rfl (any_of HT_.out (by kernel_rfl)) (fun _ _ _ h => h) (Or.inl ⟨by rfl, ?_⟩) ?_ ?_
      rotate_left
      · intro w'
        go_simp
        with_reducible rfl
      rotate_left
      · simp only [Act.put, List.setIfInBounds_toArray, List.set_cons_zero, List.set_cons_succ, i64_w, i32_w]
        rfl
      refine pure_ (i := 5) (N := some 18) (v := ?_) (a' := ?_) #[true, true, true, true, false, true, false, false, false, false, false, false, false, false, false, false, false, false, false, false, false, false, false, false] rfl rfl (any_of HT_.out (by kernel_rfl)) (fun _ _ _ h => h) (Or.inl ⟨by rfl, ?_⟩) ?_ ?_
      rotate_left
      · intro w'
        go_simp
        with_reducible rfl
      rotate_left
      · simp only [Act.put, List.setIfInBounds_toArray, List.set_cons_zero, List.set_cons_succ, i64_w, i32_w]
        rfl
      refine pure_ (i := 6) (N := some 19) (v := ?_) (a' := ?_) #[true, true, true, true, false, true, true, false, false, false, false, false, false, false, false, false, false, false, false, false, false, false, false, false] rfl rfl (any_of HT_.out (by kernel_rfl)) (fun _ _ _ h => h) (Or.inl ⟨by rfl, ?_⟩) ?_ ?_
      rotate_left
      · intro w'
        go_simp
        with_reducible rfl
      rotate_left
      · simp only [Act.put, List.setIfInBounds_toArray, List.set_cons_zero, List.set_cons_succ, i64_w, i32_w]
        rfl
      refine pure_ (i := 7) (N := some 20) (v := ?_) (a' := ?_) #[true, true, true, true, false, true, true, true, false, false, false, false, false, false, false, false, false, false, false, false, false, false, false, false] rfl rfl (any_of HT_.out (by kernel_rfl)) (fun _ _ _ h => h) (Or.inl ⟨by rfl, ?_⟩) ?_ ?_
      rotate_left
      · intro w'
        go_simp
        with_reducible rfl
      rotate_left
      · simp only [Act.put, List.setIfInBounds_toArray, List.set_cons_zero, List.set_cons_succ, i64_w, i32_w]
        rfl
      refine pure_ (i := 8) (N := some 21) (v := ?_) (a' := ?_) #[true, true, true, true, false, true, true, true, true, false, false, false, false, false, false, false, false, false, false, false, false, false, false, false] rfl rfl (any_of HT_.out (by kernel_rfl)) (fun _ _ _ h => h) (Or.inl ⟨by rfl, ?_⟩) ?_ ?_
      rotate_left
      · intro w'
        go_simp
        with_reducible rfl
      rotate_left
      · simp only [Act.put, List.setIfInBounds_toArray, List.set_cons_zero, List.set_cons_succ, i64_w, i32_w]
        rfl
      refine pure_ (i := 12) (N := some 25) (v := ?_) (a' := ?_) #[true, true, true, true, false, true, true, true, true, false, false, false, true, false, false, false, false, false, false, false, false, false, false, false] rfl rfl (any_of HT_.out (by kernel_rfl)) (fun _ _ _ h => h) (Or.inl ⟨by rfl, ?_⟩) ?_ ?_
      rotate_left
      · intro w'
        go_simp
        with_reducible rfl
      rotate_left
      · simp only [Act.put, List.setIfInBounds_toArray, List.set_cons_zero, List.set_cons_succ, i64_w, i32_w]
        rfl
      refine pure_ (i := 13) (N := some 26) (v := ?_) (a' := ?_) #[true, true, true, true, false, true, true, true, true, false, false, false, true, true, false, false, false, false, false, false, false, false, false, false] rfl rfl (any_of HT_.out (by kernel_rfl)) (fun _ _ _ h => h) (Or.inl ⟨by rfl, ?_⟩) ?_ ?_
      rotate_left
      · intro w'
        go_simp
        with_reducible rfl
      rotate_left
      · simp only [Act.put, List.setIfInBounds_toArray, List.set_cons_zero, List.set_cons_succ, i64_w, i32_w]
        rfl
      refine pure_ (i := 14) (N := some 27) (v := ?_) (a' := ?_) #[true, true, true, true, false, true, true, true, true, false, false, false, true, true, true, false, false, false, false, false, false, false, false, false] rfl rfl (any_of HT_.out (by kernel_rfl)) (fun _ _ _ h => h) (Or.inl ⟨by rfl, ?_⟩) ?_ ?_
      rotate_left
      · intro w'
        go_simp
        with_reducible rfl
      rotate_left
      · simp only [Act.put, List.setIfInBounds_toArray, List.set_cons_zero, List.set_cons_succ, i64_w, i32_w]
        rfl
      refine pure_ (i := 15) (N := some 28) (v := ?_) (a' := ?_) #[true, true, true, true, false, true, true, true, true, false, false, false, true, true, true, true, false, false, false, false, false, false, false, false] rfl rfl (any_of HT_.out (by kernel_rfl)) (fun _ _ _ h => h) (Or.inl ⟨by rfl, ?_⟩) ?_ ?_
      rotate_left
      · intro w'
        go_simp
        with_reducible rfl
      rotate_left
      · simp only [Act.put, List.setIfInBounds_toArray, List.set_cons_zero, List.set_cons_succ, i64_w, i32_w]
        rfl
      refine take_ (i := 9) (N := some 22) (v := ?_) (a' := ?_) #[true, true, true, true, false, true, true, true, true, true, false, false, true, true, true, true, false, false, false, false, false, false, false, false] rfl rfl (take_ofW HT_.out HW_.out (by kernel_rfl)) (fun _ _ _ h => h) (Or.inl ⟨by rfl, ?_⟩) hHeld ?_ ?_
      rotate_left
      · rintro w' ⟨s0, s1⟩
        go_simp
        with_reducible rfl
      rotate_left
      · simp only [Act.put, List.setIfInBounds_toArray, List.set_cons_zero, List.set_cons_succ, i64_w, i32_w]
        rfl
      refine take_ (i := 16) (N := some 29) (v := ?_) (a' := ?_) #[true, true, true, true, false, true, true, true, true, true, false, false, true, true, true, true, true, false, false, false, false, false, false, false] rfl rfl (take_ofW HT_.out HW_.out (by kernel_rfl)) (fun _ _ _ h => h) (Or.inl ⟨by rfl, ?_⟩) hHeld ?_ ?_
      rotate_left
      · rintro w' ⟨s0, s1⟩
        go_simp
        with_reducible rfl
      rotate_left
      · simp only [Act.put, List.setIfInBounds_toArray, List.set_cons_zero, List.set_cons_succ, i64_w, i32_w]
        rfl
      refine join_ (σ := Value × Value × Value) 7 #[true, true, true, true, true, true, true, true, true, true, true, true, true, true, true, true, true, false, false, false, false, false, false, false] (fun s => [(17, s.1), (24, s.2.1), (23, s.2.2)]) (fun s w' => Kd.string.R 9 w' W0.heap.size (fun _ => True) s.2.2 f4 ∧ (Kd.int .i64).R 3 w' W0.heap.size (fun _ => True) s.2.1 [] ∧ (∀ k, s.2.1.ownBlock = some k → s.2.2.ownBlock ≠ some k) ∧ Below W0.heap.size W0 w') ?cont ?orders
      case orders =>
        intro hjoin
        refine two_ (i := 4) (j := 11) (Ni := some 17) (Nj := some 24) #[true, true, true, true, true, true, true, true, true, true, false, false, true, true, true, true, true, false, false, false, false, false, false, false] #[true, true, true, true, false, true, true, true, true, true, false, true, true, true, true, true, true, false, false, false, false, false, false, false] rfl rfl rfl rfl (two_of HT_.out (by kernel_rfl)) (by decide) (by decide) (fun K hK => ?_) (fun K hK => ?_)
        · refine value_ (v := .slice (some ⟨W0.heap.size, 0, none⟩) 0 0) (w1 := W0.alloc (.cells #[] 9)) (by rfl) rfl (by first | (go_simp; done) | (go_simp; rfl)) ?_
          refine hK.out _ _ (hS _ (below_alloc (Below.refl _ _) _)) (fun hh => ?_)
          clear hK K
          have hB1 : Below W0.heap.size W0 (W0.alloc (.cells #[] 9)) := below_alloc (Below.refl _ _) _
          have hR17 : Kd.string.R 9 (W0.alloc (.cells #[] 9)) W0.heap.size (fun _ => True) (.slice (some ⟨W0.heap.size, 0, none⟩) 0 0) [] := lit_nil _ _ _ _ (Nat.le_refl _) _ trivial
          have hz1 : (W0.alloc (.cells #[] 9)).heap.size = W0.heap.size + 1 := Array.size_push _
          generalize W0.alloc (.cells #[] 9) = W1 at *
          refine two_ (i := 10) (j := 11) (Ni := some 23) (Nj := some 24) #[true, true, true, true, true, true, true, true, true, true, true, false, true, true, true, true, true, false, false, false, false, false, false, false] #[true, true, true, true, true, true, true, true, true, true, false, true, true, true, true, true, true, false, false, false, false, false, false, false] rfl rfl rfl rfl (two_of HT_.out (by kernel_rfl)) (by decide) (by decide) (fun K hK => ?_) (fun K hK => ?_)
          · refine app_step hR17 (hC4 _ hB1) hB1 hs4 (by rfl) rfl rfl rfl ?_
            intro v23 W2 hR23 hB2 hg2 hat2
            refine hK.out _ _ (hS _ hB2) (fun hh => ?_)
            clear hK K
            refine one_ (i := 11) (N := some 24) #[true, true, true, true, true, true, true, true, true, true, true, true, true, true, true, true, true, false, false, false, false, false, false, false] rfl rfl (one_of HT_.out (by kernel_rfl)) (by decide) (fun K hK => ?_)
            refine value_ (v := .slice (some ⟨W2.heap.size, 0, none⟩) 0 0) (w1 := W2.alloc (.cells #[] 3)) (by rfl) rfl (by first | (go_simp; done) | (go_simp; rfl)) ?_
            refine hK.out _ _ (hS _ (below_alloc hB2 _)) (fun hh => ?_)
            clear hK K
            exact hjoin ((.slice (some ⟨W0.heap.size, 0, none⟩) 0 0), .slice (some ⟨W2.heap.size, 0, none⟩) 0 0, v23) _ ⟨Kd.R_alloc hR23 _, lit_nil _ _ _ _ hB2.size _ trivial, fun k hk he => by have := Kd.R_lt hR23 k he; simp [Value.ownBlock] at hk; omega, below_alloc hB2 _⟩
          · refine value_ (v := .slice (some ⟨W1.heap.size, 0, none⟩) 0 0) (w1 := W1.alloc (.cells #[] 3)) (by rfl) rfl (by first | (go_simp; done) | (go_simp; rfl)) ?_
            refine hK.out _ _ (hS _ (below_alloc hB1 _)) (fun hh => ?_)
            clear hK K
            refine one_ (i := 10) (N := some 23) #[true, true, true, true, true, true, true, true, true, true, true, true, true, true, true, true, true, false, false, false, false, false, false, false] rfl rfl (one_of HT_.out (by kernel_rfl)) (by decide) (fun K hK => ?_)
            have hB2 := below_alloc hB1 (.cells #[] 3)
            have hR24 : (Kd.int .i64).R 3 (W1.alloc (.cells #[] 3)) W0.heap.size (fun k => k = W1.heap.size) (.slice (some ⟨W1.heap.size, 0, none⟩) 0 0) [] := lit_nil _ _ _ _ hB1.size _ rfl
            refine app_step (Kd.R_alloc hR17 _) (hC4 _ hB2) hB2 hs4 (by rfl) rfl rfl rfl ?_
            intro v23 W3 hR23 hB3 hg3 hat3
            refine hK.out _ _ (hS _ hB3) (fun hh => ?_)
            clear hK K
            exact hjoin ((.slice (some ⟨W0.heap.size, 0, none⟩) 0 0), .slice (some ⟨W1.heap.size, 0, none⟩) 0 0, v23) _ ⟨hR23, Kd.R_mono (Kd.R_grown hR24 hg3 (fun k hk he => by subst hk; simp [Value.ownBlock] at he; omega)) (fun _ _ => trivial), fun k hk he => by (have hk' : W1.heap.size = k := by simpa [Value.ownBlock] using hk); (rcases hat3 with h | ⟨b, h, hle⟩); (rw [h] at he; have he' : W0.heap.size = k := by simpa [Value.ownBlock] using he); (omega); (rw [h] at he; injection he with he; have hz2 : (W1.alloc (.cells #[] 3)).heap.size = W1.heap.size + 1 := Array.size_push _); (omega), hB3⟩
        · refine value_ (v := .slice (some ⟨W0.heap.size, 0, none⟩) 0 0) (w1 := W0.alloc (.cells #[] 3)) (by rfl) rfl (by first | (go_simp; done) | (go_simp; rfl)) ?_
          refine hK.out _ _ (hS _ (below_alloc (Below.refl _ _) _)) (fun hh => ?_)
          clear hK K
          have hB1 : Below W0.heap.size W0 (W0.alloc (.cells #[] 3)) := below_alloc (Below.refl _ _) _
          have hR24 : (Kd.int .i64).R 3 (W0.alloc (.cells #[] 3)) W0.heap.size (fun k => k = W0.heap.size) (.slice (some ⟨W0.heap.size, 0, none⟩) 0 0) [] := lit_nil _ _ _ _ (Nat.le_refl _) _ rfl
          have hz1 : (W0.alloc (.cells #[] 3)).heap.size = W0.heap.size + 1 := Array.size_push _
          generalize W0.alloc (.cells #[] 3) = W1 at *
          refine one_ (i := 4) (N := some 17) #[true, true, true, true, true, true, true, true, true, true, false, true, true, true, true, true, true, false, false, false, false, false, false, false] rfl rfl (one_of HT_.out (by kernel_rfl)) (by decide) (fun K hK => ?_)
          refine value_ (v := .slice (some ⟨W1.heap.size, 0, none⟩) 0 0) (w1 := W1.alloc (.cells #[] 9)) (by rfl) rfl (by first | (go_simp; done) | (go_simp; rfl)) ?_
          refine hK.out _ _ (hS _ (below_alloc hB1 _)) (fun hh => ?_)
          clear hK K
          have hR17 : Kd.string.R 9 (W1.alloc (.cells #[] 9)) W0.heap.size (fun _ => True) (.slice (some ⟨W1.heap.size, 0, none⟩) 0 0) [] := lit_nil _ _ _ _ hB1.size _ trivial
          have hB2 := below_alloc hB1 (.cells #[] 9)
          refine one_ (i := 10) (N := some 23) #[true, true, true, true, true, true, true, true, true, true, true, true, true, true, true, true, true, false, false, false, false, false, false, false] rfl rfl (one_of HT_.out (by kernel_rfl)) (by decide) (fun K hK => ?_)
          refine app_step hR17 (hC4 _ hB2) hB2 hs4 (by rfl) rfl rfl rfl ?_
          intro v23 W3 hR23 hB3 hg3 hat3
          refine hK.out _ _ (hS _ hB3) (fun hh => ?_)
          clear hK K
          exact hjoin (.slice (some ⟨W1.heap.size, 0, none⟩) 0 0, .slice (some ⟨W0.heap.size, 0, none⟩) 0 0, v23) _ ⟨hR23, Kd.R_mono (Kd.R_grown (Kd.R_alloc hR24 _) hg3 (fun k hk he => by subst hk; simp [Value.ownBlock] at he; omega)) (fun _ _ => trivial), fun k hk he => by (have hk' : W0.heap.size = k := by simpa [Value.ownBlock] using hk); (rcases hat3 with h | ⟨b, h, hle⟩); (rw [h] at he; have he' : W1.heap.size = k := by simpa [Value.ownBlock] using he); (omega); (rw [h] at he; injection he with he; have hz2 : (W1.alloc (.cells #[] 9)).heap.size = W1.heap.size + 1 := Array.size_push _); (omega), hB3⟩
      case cont =>
        rintro ⟨v17, v24, v23⟩ W5 ⟨hR23, hR24, hne, hB5⟩
        dsimp only at hR23 hR24 hne
        obtain ⟨A23, c23, rfl⟩ := Kd.R_slice hR23
        refine norm_ (a' := ?_) ?_ ?_
        rotate_left
        · simp only [putAll, Act.put, List.setIfInBounds_toArray, List.set_cons_zero, List.set_cons_succ, i64_w, i32_w]
          rfl
        refine one_ (i := 17) (oi := { dst := some 30, op := Go.Op.call { callee := Go.Callee.builtin Go.Builtin.append, args := #[Go.Operand.tmp 24, Go.Operand.tmp 29], argTypes := #[37, 37] }, type := 37, pos := "law.go:23", after := #[{ on := 11, ground := Go.Ground.data }, { on := 16, ground := Go.Ground.data }, { on := 10, ground := Go.Ground.chain }], guard := none }) (N := some 30) #[true, true, true, true, true, true, true, true, true, true, true, true, true, true, true, true, true, true, false, false, false, false, false, false] (by (kernel_rfl)) rfl (one_of HT_.out (by kernel_rfl)) (by decide) (fun K hK => ?_)
        refine appi_step hR24 (hC5 _ hB5) hB5 hs5 (by rfl) rfl rfl rfl ?_
        intro v30 W6 hR30 hB6 hg6 hat6
        refine hK.out _ _ (hS _ hB6) (fun hh => ?_)
        clear hK K
        obtain ⟨A30, c30, rfl⟩ := Kd.R_slice hR30
        have hR23' := Kd.R_grown (Kd.R_tight rfl hR23) hg6 (fun k hk he => hne k he.symm hk.symm)
        obtain ⟨hN6, hx46, hf46, hx56, hf56⟩ := hst W6 hB6
        refine pure_ (i := 18) (N := some 31) (v := ?_) (a' := ?_) #[true, true, true, true, true, true, true, true, true, true, true, true, true, true, true, true, true, true, true, false, false, false, false, false] rfl rfl (any_of HT_.out (by kernel_rfl)) (fun _ _ _ h => h) (Or.inl ⟨by rfl, ?_⟩) ?_ ?_
        rotate_left
        · intro w'
          go_simp
          with_reducible rfl
        rotate_left
        · simp only [Act.put, List.setIfInBounds_toArray, List.set_cons_zero, List.set_cons_succ, i64_w, i32_w]
          rfl
        refine pure_ (i := 19) (N := some 32) (v := ?_) (a' := ?_) #[true, true, true, true, true, true, true, true, true, true, true, true, true, true, true, true, true, true, true, true, false, false, false, false] rfl rfl (any_of HT_.out (by kernel_rfl)) (fun _ _ _ h => h) (Or.inl ⟨by rfl, ?_⟩) ?_ ?_
        rotate_left
        · intro w'
          go_simp
          with_reducible rfl
        rotate_left
        · simp only [Act.put, List.setIfInBounds_toArray, List.set_cons_zero, List.set_cons_succ, i64_w, i32_w]
          rfl
        refine last_skip (i := 20) (oi := { dst := none, op := Go.Op.store 36 (Go.Operand.tmp 32) (Go.Operand.tmp 23), type := 0, pos := "law.go:23", after := #[{ on := 19, ground := Go.Ground.data }, { on := 10, ground := Go.Ground.data }, { on := 17, ground := Go.Ground.chain }, { on := 0, ground := Go.Ground.phase }, { on := 1, ground := Go.Ground.phase }, { on := 2, ground := Go.Ground.textOnly Go.Departure.lateStores }, { on := 3, ground := Go.Ground.textOnly Go.Departure.lateStores }, { on := 4, ground := Go.Ground.phase }, { on := 5, ground := Go.Ground.phase }, { on := 6, ground := Go.Ground.phase }, { on := 7, ground := Go.Ground.phase }, { on := 8, ground := Go.Ground.phase }, { on := 9, ground := Go.Ground.phase }, { on := 10, ground := Go.Ground.phase }, { on := 11, ground := Go.Ground.textOnly Go.Departure.lateStoresUnsure }, { on := 12, ground := Go.Ground.textOnly Go.Departure.lateStores }, { on := 13, ground := Go.Ground.textOnly Go.Departure.lateStores }, { on := 14, ground := Go.Ground.textOnly Go.Departure.lateStoresUnsure }, { on := 15, ground := Go.Ground.textOnly Go.Departure.lateStoresUnsure }, { on := 16, ground := Go.Ground.phase }, { on := 17, ground := Go.Ground.phase }], guard := none }) (w1 := ?_) #[true, true, true, true, true, true, true, true, true, true, true, true, true, true, true, true, true, true, true, true, true, false, false, false] (by (kernel_rfl)) rfl (one_of HT_.out (by kernel_rfl)) (by decide) rfl ?_ ?_
        rotate_left
        · go_simp
          rfl
        refine pure_ (i := 21) (N := some 33) (v := ?_) (a' := ?_) #[true, true, true, true, true, true, true, true, true, true, true, true, true, true, true, true, true, true, true, true, true, true, false, false] rfl rfl (any_of HT_.out (by kernel_rfl)) (fun _ _ _ h => h) (Or.inl ⟨by rfl, ?_⟩) ?_ ?_
        rotate_left
        · intro w'
          go_simp
          with_reducible rfl
        rotate_left
        · simp only [Act.put, List.setIfInBounds_toArray, List.set_cons_zero, List.set_cons_succ, i64_w, i32_w]
          rfl
        refine pure_ (i := 22) (N := some 34) (v := ?_) (a' := ?_) #[true, true, true, true, true, true, true, true, true, true, true, true, true, true, true, true, true, true, true, true, true, true, true, false] rfl rfl (any_of HT_.out (by kernel_rfl)) (fun _ _ _ h => h) (Or.inl ⟨by rfl, ?_⟩) ?_ ?_
        rotate_left
        · intro w'
          go_simp
          with_reducible rfl
        rotate_left
        · simp only [Act.put, List.setIfInBounds_toArray, List.set_cons_zero, List.set_cons_succ, i64_w, i32_w]
          rfl
        refine last_skip (i := 23) (oi := { dst := none, op := Go.Op.store 37 (Go.Operand.tmp 34) (Go.Operand.tmp 30), type := 0, pos := "law.go:23", after := #[{ on := 22, ground := Go.Ground.data }, { on := 17, ground := Go.Ground.data }, { on := 20, ground := Go.Ground.chain }, { on := 0, ground := Go.Ground.phase }, { on := 1, ground := Go.Ground.phase }, { on := 2, ground := Go.Ground.phase }, { on := 3, ground := Go.Ground.phase }, { on := 4, ground := Go.Ground.phase }, { on := 5, ground := Go.Ground.phase }, { on := 6, ground := Go.Ground.phase }, { on := 7, ground := Go.Ground.phase }, { on := 8, ground := Go.Ground.phase }, { on := 9, ground := Go.Ground.phase }, { on := 10, ground := Go.Ground.phase }, { on := 11, ground := Go.Ground.phase }, { on := 12, ground := Go.Ground.phase }, { on := 13, ground := Go.Ground.phase }, { on := 14, ground := Go.Ground.phase }, { on := 15, ground := Go.Ground.phase }, { on := 16, ground := Go.Ground.phase }, { on := 17, ground := Go.Ground.phase }, { on := 18, ground := Go.Ground.phase }, { on := 19, ground := Go.Ground.phase }, { on := 20, ground := Go.Ground.phase }], guard := none }) (w1 := ?_) #[true, true, true, true, true, true, true, true, true, true, true, true, true, true, true, true, true, true, true, true, true, true, true, true] (by (kernel_rfl)) rfl (one_of HT_.out (by kernel_rfl)) (by decide) rfl ?_ ?_
        rotate_left
        · go_simp
          rfl
        refine done_ (done_of HT_.out (by kernel_rfl)) ?_
        have hB6' := hB0.trans (hB6.mono hB0.size)
        obtain ⟨hN7, hg7⟩ := put4 hN6 j hlt (b0 := W0.heap.size) (by rw [he4]; exact Kd.R_mono hR23' (fun _ _ => trivial)) hgW
        have hR30' : (Kd.int .i64).R 3 (W6.setCell ⟨g, j * 6 + 4, none⟩ (.slice A23 f4.length c23)) W0.heap.size (fun _ => True) (.slice A30 f5.length c30) f5 := Kd.R_mono (Kd.R_grown (Kd.R_bound hR30) hg7 (fun k hk he => by have := hk.2.1; injection he with he; omega)) (fun _ _ => trivial)
        obtain ⟨hN8, hg8⟩ := put5 hN7 j hlt (b0 := W0.heap.size) (by rw [he5]; exact hR30') hgW
        have hB7' := hB6'.grown hg7 hB6'.size (fun k e => by injection e with e; omega)
        have hB8' := hB7'.grown hg8 hB7'.size (fun k e => by injection e with e; omega)
        have hOw := Aside0.mk (owned_put hO0.out hB0.size hgW hB6 (by rw [he4]; exact Kd.R_mono hR23' (fun _ _ => trivial)) (by rw [he5]; exact Kd.R_mono hR30 (fun _ _ => trivial)) hN6 hlt)
        go_wp2
        go_roundw
        case rel => exact ⟨j + 1, by omega, by go_num, hN8, hB8', hOw.out⟩
        case measure => simp [intOf]; omega
    · obtain rfl : j = l.length := by omega
      go_wp2
      go_ret
      exact ⟨g, c1, rfl, hNr, ⟨f0, hO⟩, hBr⟩
end Go.Proofs.YtldlkoncndlbhaaDoor.Co
namespace Go.Proofs.YtldlkoncndlbhaaDoor.Ao
open Go.RowKit Go.Proofs.YtldlkoncndlbhaaDoorW.PrintWords Go.Proofs.YtldlkoncndlbhaaDoorW.PrintLast Go.Proofs.YtldlkoncndlbhaaDoorW.PrintMore
set_option linter.unusedSimpArgs false
set_option linter.unusedVariables false
section
variable {P : Program} (w : World)
/-- Behind an append the elder slice owns what it owned. -/
theorem run_keeps (base : Nat) (t ty e : TypeId) (i : TypeInfo) (z : Value) (size bytes : Nat) (ht : P.underlying t = some (.slice e)) (hi : P.info? e = some i) (hz : i.zero = some z)
    (hsize : i.size = size) (hby : i.bytes = bytes) (hzs : z.cells.size = size) (hsz : 0 < size)
    (v : Value) (n : Nat) (xs : List Value) (hown : w.ownsRow base e size v n xs)
    (a : Addr) (m c : Nat) (news : List Value) (hl : news.length = m * size) (hnews : ∀ j u, news[j]? = some u → w.cell? (a.add j) = some u) (h1 : ∀ u ∈ news, u.oneCell' = true)
    (h63 : n + m ≤ maxLen) (hbytes : (n + m) * bytes ≤ 140737488355328) (hbase : base ≤ w.heap.size) :
    ∃ v' w', (Builtin.append_ #[t, t] ty #[v, .slice (some a) m c]).run P w = .ok v' w' ∧ w'.ownsRow base e size v n xs := by
  have hsmall : n + m ≤ 9223372036854775807 := by simp only [maxLen] at h63; omega
  have hown' := hown
  obtain ⟨hlen, hor⟩ := hown'
  rcases hor with ⟨rfl, rfl⟩ | ⟨g, cap, cur, rfl, hbg, hg, hnc, hcm, hcs, htake⟩
  · obtain ⟨v', w', hr, -⟩ := run_append_own (P := P) w base t ty e i z size bytes ht hi hz hsize hby hzs hsz _ 0 xs hown a m c news hl hnews h1 h63 hbytes hbase
    refine ⟨v', w', hr, hlen, .inl ⟨rfl, rfl⟩⟩
  · subst hsize
    subst hby
    by_cases hroom : n + m ≤ cap
    · have hfit : n * i.size + news.length ≤ cur.size := by rw [hl, hcs, ← Nat.add_mul]; exact Nat.mul_le_mul_right _ hroom
      have hr := run_append_room (P := P) w t ty e i ht hi g n cap cur hg a m c news hl hnews h1 hroom hfit
      refine ⟨_, _, hr, hlen, .inr ⟨g, cap, _, rfl, hbg, setRow_heap w g cur _ e _ hg, hnc, hcm, ?_, ?_⟩⟩
      · simp only [List.size_toArray, List.length_append, List.length_take, List.length_drop, Array.length_toList]
        omega
      · rw [htake, List.append_assoc, ← hlen]
        exact List.take_left
    · have holds : ∀ j u, xs[j]? = some u → w.cell? ((⟨g, 0, none⟩ : Addr).add j) = some u := hown.cells (g := g) rfl
      have hr := run_append_grow (P := P) w t ty e i z ht hi hz ⟨g, 0, none⟩ n cap xs hown.1 holds a m c news hl hnews (by omega) (by omega) (growslice_fits (by omega) hbytes)
      exact ⟨_, _, hr, hown.kept (row := none) ⟨rfl, rfl, rfl, by simp, fun k hk _ => heap_alloc_old w.drew _ hk⟩ (.inr (by simp [Value.ownBlock]))⟩
end
section
variable {P : Program} {ops : Array Oper} {rest : List Oper} {o : Oper} {a : Act} {Q : Exit → Act → World → Prop} {α : Type}
/-- append(v, x), behind 'at_builtin': x's cells are cs; v still reads as before. -/
theorem append_old (d : Kd α) {w0 W : World} (base : Nat) (hgd : o.guard = none) (s x : Operand) (t e : TypeId) (z : Value) (bytes : Nat)
    (ho : o.op = .call { callee := .builtin .append, args := #[s, x], argTypes := #[t, t] })
    (ht : P.underlying t = some (.slice e)) (hinfo : (P.info? e).map (fun i => (i.zero, i.size, i.bytes)) = some (some z, d.sz, bytes)) (hz : z.cells.size = d.sz) (hs0 : 0 < d.sz) (hb0 : 0 < bytes)
    (v : Value) (xs : List α) (p : α) (cs : List Value) (ok okp : Nat → Prop) (hs : a.eval s = v) (hx : a.eval x = .slice (some ⟨W.heap.size, 0, none⟩) 1 1) (hp : Kd.FK d W okp p cs) (hokp : ∀ k, okp k → ok k ∧ some k ≠ v.ownBlock) (hfresh : ∀ k, W.heap.size ≤ k → ok k)
    (HO : Kd.N d e W base ok v xs) (HB : Below base w0 W) (hbase : base ≤ W.heap.size) (hl : (xs.length + 1) * bytes ≤ 140737488355328)
    (h : ∀ v1 w1, Kd.N d e w1 base ok v1 (xs ++ [p]) → Kd.N d e w1 base ok v xs → Below base w0 w1 → wpList P ops Q rest (a.put o.dst v1) w1) :
    wpList P ops Q (o :: rest) a (W.alloc (.cells cs.toArray e)) := by
  obtain ⟨h0, rows, hlr, hR, hf⟩ := HO
  obtain ⟨hR0, inner, hown, hrr⟩ := hR
  obtain ⟨i0, hi, hzz⟩ := Option.map_eq_some_iff.1 hinfo
  simp only [Prod.mk.injEq] at hzz
  obtain ⟨hz0, hz1, hz2⟩ := hzz
  have hcl : cs.length = d.sz := d.K_len (Kd.FK_now hp)
  have hc1 : ∀ u ∈ cs, u.oneCell' = true := d.K_one (Kd.FK_now hp)
  have hlen : xs.length + 1 ≤ 140737488355328 := Nat.le_trans (Nat.le_mul_of_pos_right _ hb0) hl
  refine wpList_plain hgd fun K hK => ?_
  have hnews := World.news_of_block (cs := cs.toArray) (t := e) (fr := (0, 0)) (heap_alloc_new W (.cells cs.toArray e))
  obtain ⟨v1, w1, hr1, hown1, hg1, -, hat1⟩ := run_append_own_at (P := P) (W.alloc (.cells cs.toArray e)) base t o.type e i0 z d.sz bytes ht hi hz0 hz1 hz2 hz hs0 v rows.length inner (World.ownsRow.alloc hown _) ⟨W.heap.size, 0, none⟩ 1 1 cs (by rw [hcl]; simp)
    (by simpa using hnews) hc1 (by rw [hlr]; simp only [maxLen]; omega) (by rw [hlr]; exact hl) (by simp; omega)
  obtain ⟨v2, w2, hr2, hold⟩ := run_keeps (P := P) (W.alloc (.cells cs.toArray e)) base t o.type e i0 z d.sz bytes ht hi hz0 hz1 hz2 hz hs0 v rows.length inner (World.ownsRow.alloc hown _) ⟨W.heap.size, 0, none⟩ 1 1 cs (by rw [hcl]; simp)
    (by simpa using hnews) hc1 (by rw [hlr]; simp only [maxLen]; omega) (by rw [hlr]; exact hl) (by simp; omega)
  have he := hr1.symm.trans hr2
  injection he with e1 e2
  subst e1
  subst e2
  have hg : W.grownBy w1 v.ownBlock := World.grownBy.trans (World.grownBy_alloc W _ _) hg1
  have hat : v1.ownBlock = v.ownBlock ∨ ∃ b, v1.ownBlock = some b ∧ W.heap.size ≤ b := by
    rcases hat1 with h | h
    · exact .inl h
    · exact .inr ⟨_, h, by simp⟩
  have hB1 : Below base w0 w1 := (HB.alloc hbase _).grown hg1 (by simp; omega) (own_base hown)
  have hN1 : Kd.N d e w1 base ok v1 (xs ++ [p]) := Kd.N_appended h0 hlr hf (ys := [p]) (news := [cs]) rfl (fun j y c hy hc => by
    rcases j with _ | j
    · simp only [List.getElem?_cons_zero, Option.some.injEq] at hy hc
      rw [← hy, ← hc]; exact hp
    · simp at hy) hokp hfresh (Kd.R_appended (d := Kd.raw d.sz) (ok := fun _ => True) (okp := fun _ => False) (fun _ _ => trivial) hrr (Kd.FK_raw hp) (fun _ hk => hk.elim) (fun _ _ => trivial) hown1 hg hat) hg hat
  have hN2 : Kd.N d e w1 base ok v xs := ⟨h0, rows, hlr, ⟨hR0, inner, hold, hrr⟩, fun j x c hx hc => Kd.FK_step (hf j x c hx hc) (fun k hk hlt => hg.block k hlt hk.2)⟩
  unfold Oper.wp execOp
  simp only [ho, resolve, invoke, builtin, Sem.run_bind, Sem.run_pure, Result.andThen_ok, List.map_toArray, List.map_cons, List.map_nil, hs, hx, hr1]
  exact hK _ _ (h v1 w1 hN1 hN2 hB1)
end
end Go.Proofs.YtldlkoncndlbhaaDoor.Ao
namespace Go.Proofs.YtldlkoncndlbhaaDoor.Pure
open Go.RowKit Go.Proofs.YtldlkoncndlbhaaDoor.Utf Go.Proofs.YtldlkoncndlbhaaDoor.Pl Go.Proofs.YtldlkoncndlbhaaDoor.Tx Go.Proofs.YtldlkoncndlbhaaDoor.Wr Go.Proofs.YtldlkoncndlbhaaDoor.PSh Go.Proofs.YtldlkoncndlbhaaDoorW.PrintWords Go.Proofs.YtldlkoncndlbhaaDoorW.PrintLast Go.Proofs.YtldlkoncndlbhaaDoorW.PrintMore
set_option linter.unusedSimpArgs false
set_option linter.unusedVariables false
/-- A value whose kids lie o places further on. -/
def sh (o : Nat) (x : S39) : S39 := ⟨x.f0, x.f1, x.f2, x.f3, x.f4, x.f5.map fun k => k + (o : Int)⟩
theorem plain_sh (o : Nat) (x : S39) : plainOf (sh o x) = plainOf x := by
  unfold plainOf plainB sh
  simp only [List.length_map]
theorem sh_zero (x : S39) : sh 0 x = x := by
  unfold sh
  have : (x.f5.map fun k => k + ((0 : Nat) : Int)) = x.f5 := by
    rw [show (fun k : Int => k + ((0 : Nat) : Int)) = id from funext fun k => by show k + ((0 : Nat) : Int) = k; omega, List.map_id]
  rw [this]
theorem rd_map (xs : List Int) (o : Nat) (i : Nat) (h : i < xs.length) : rd (xs.map fun k => k + (o : Int)) (i : Int) = rd xs (i : Int) + o := by
  rw [rd_nat _ _ (by rw [List.length_map]; exact h), rd_nat _ _ h, List.getElem_map]
/-- The kids of a value that lies further on. -/
theorem kids_sim (o i n N : Nat) (dp dp' : List Int) (hdp : ∀ k : Nat, k < i → rd dp' ((o + k : Nat) : Int) = rd dp (k : Int)) (hon : o + n ≤ N) (hin : i ≤ n) :
    ∀ (kids : List Int) (fl fl' : List Bool) (m : Int) (z : List Bool × Int), kidsGo dp i fl kids m = some z → fl.length = n → fl'.length = N → (∀ k : Nat, k < n → rdOf false fl' ((o + k : Nat) : Int) = rdOf false fl (k : Int)) →
    ∃ fl1', kidsGo dp' (o + i) fl' (kids.map fun k => k + (o : Int)) m = some (fl1', z.2) ∧ fl1'.length = N ∧ z.1.length = n ∧ (∀ k : Nat, k < n → rdOf false fl1' ((o + k : Nat) : Int) = rdOf false z.1 (k : Int)) ∧ (∀ j : Nat, (j < o ∨ o + i ≤ j) → rdOf false fl1' (j : Int) = rdOf false fl' (j : Int))
  | [], fl, fl', m, z, h, h1, h2, h3 => by
    rw [kidsGo] at h
    cases h
    exact ⟨fl', by rw [List.map_nil, kidsGo], h2, h1, h3, fun _ _ => rfl⟩
  | k :: r, fl, fl', m, z, h, h1, h2, h3 => by
    rw [kidsGo] at h
    split at h
    · rename_i hc
      obtain ⟨k0, k1, kf⟩ := hc
      obtain ⟨a, rfl⟩ : ∃ a : Nat, k = (a : Int) := ⟨k.toNat, by omega⟩
      rw [Int.toNat_natCast] at h
      have e1 : ((a : Int) + (o : Int)) = ((o + a : Nat) : Int) := by omega
      rw [List.map_cons, kidsGo, e1, if_pos ⟨by omega, by omega, by rw [h3 a (by omega)]; exact kf⟩, Int.toNat_natCast, hdp a (by omega)]
      obtain ⟨fl1', e, g1, g2, g3, g4⟩ := kids_sim o i n N dp dp' hdp hon hin r (fl.set a true) (fl'.set (o + a) true) _ z h (by rw [List.length_set]; exact h1) (by rw [List.length_set]; exact h2) (fun k hk => by
        rw [rdF_set _ _ _ _ (by omega), rdF_set _ _ _ _ (by omega)]
        by_cases hak : a = k
        · rw [if_pos hak, if_pos (by omega)]
        · rw [if_neg hak, if_neg (by omega)]; exact h3 k hk)
      refine ⟨fl1', e, g1, g2, g3, fun j hj => ?_⟩
      rw [g4 j hj, rdF_set _ _ _ _ (by omega), if_neg (by omega)]
    · cases h
/-- The values of a tree that lies further on. -/
theorem nodes_sim (l M : List S39) (o n N : Nat) (hon : o + n ≤ N) (hM : ∀ k : Nat, k < n → rd_T39 M ((o + k : Nat) : Int) = sh o (rd_T39 l (k : Int))) :
    ∀ (d i : Nat) (fl : List Bool) (dp : List Int) (fl' : List Bool) (dp' : List Int) (z : List Bool × List Int), nodesGo l d i fl dp = some z → i + d ≤ n → fl.length = n → dp.length = n → fl'.length = N → dp'.length = N →
    (∀ k : Nat, k < n → rdOf false fl' ((o + k : Nat) : Int) = rdOf false fl (k : Int)) → (∀ k : Nat, k < i → rd dp' ((o + k : Nat) : Int) = rd dp (k : Int)) →
    ∃ z' : List Bool × List Int, (∀ D, nodesGo M (d + D) (o + i) fl' dp' = nodesGo M D (o + i + d) z'.1 z'.2) ∧ z'.1.length = N ∧ z'.2.length = N ∧ (∀ k : Nat, k < n → rdOf false z'.1 ((o + k : Nat) : Int) = rdOf false z.1 (k : Int)) ∧
      (∀ k : Nat, k < i + d → rd z'.2 ((o + k : Nat) : Int) = rd z.2 (k : Int)) ∧ (∀ j : Nat, (j < o ∨ o + i + d ≤ j + 1) → rdOf false z'.1 (j : Int) = rdOf false fl' (j : Int)) ∧ (∀ j : Nat, j < o → rd z'.2 (j : Int) = rd dp' (j : Int))
  | 0, i, fl, dp, fl', dp', z, h, hi, h1, h2, h3, h4, h5, h6 => by
    rw [nodesGo] at h
    cases h
    exact ⟨(fl', dp'), fun D => by rw [Nat.zero_add, Nat.add_zero], h3, h4, h5, h6, fun _ _ => rfl, fun _ _ => rfl⟩
  | d + 1, i, fl, dp, fl', dp', z, h, hi, h1, h2, h3, h4, h5, h6 => by
    rw [nodesGo] at h
    split at h
    · rename_i hp
      cases hk : kidsGo dp i fl (rd_T39 l (i : Int)).f5 0 with
      | none => rw [hk] at h; cases h
      | some q =>
        rw [hk] at h
        obtain ⟨fl1', e, g1, g2, g3, g4⟩ := kids_sim o i n N dp dp' h6 hon (by omega) _ fl fl' 0 q hk h1 h3 h5
        obtain ⟨z', k1, k2, k3, k4, k5, k6, k7⟩ := nodes_sim l M o n N hon hM d (i + 1) q.1 (dp.set i (if 5 ≤ (rd_T39 l (i : Int)).f0 then q.2 + 1 else q.2)) fl1' (dp'.set (o + i) (if 5 ≤ (rd_T39 l (i : Int)).f0 then q.2 + 1 else q.2)) z h (by omega) g2 (by rw [List.length_set]; exact h2) g1 (by rw [List.length_set]; exact h4) g3 (fun k hk => by
          rw [rd_set _ _ _ _ (by omega), rd_set _ _ _ _ (by omega)]
          by_cases hik : i = k
          · rw [if_pos hik, if_pos (by omega)]
          · rw [if_neg hik, if_neg (by omega)]; exact h6 k (by omega))
        refine ⟨z', fun D => ?_, k2, k3, k4, fun k hk => k5 k (by omega), fun j hj => ?_, fun j hj => ?_⟩
        · have hst : nodesGo M (d + D + 1) (o + i) fl' dp' = nodesGo M (d + D) (o + i + 1) fl1' (dp'.set (o + i) (if 5 ≤ (rd_T39 l (i : Int)).f0 then q.2 + 1 else q.2)) := by
            rw [nodesGo, hM i (by omega), plain_sh, if_pos hp]
            show (match kidsGo dp' (o + i) fl' ((rd_T39 l (i : Int)).f5.map fun k => k + (o : Int)) 0 with
              | none => none
              | some (fl'', m) => nodesGo M (d + D) (o + i + 1) fl'' (dp'.set (o + i) (if 5 ≤ (rd_T39 l (i : Int)).f0 then m + 1 else m))) = _
            rw [e]
          have hk1 := k1 D
          rw [← Nat.add_assoc o i 1] at hk1
          rw [show d + 1 + D = d + D + 1 by omega, hst, hk1, show o + i + 1 + d = o + i + (d + 1) by omega]
        · rw [k6 j (by omega), g4 j (by omega)]
        · rw [k7 j hj, rd_set _ _ _ _ (by omega), if_neg (by omega)]
    · cases h
theorem rdF_get (fl : List Bool) (k : Nat) (h : k < fl.length) : rdOf false fl (k : Int) = fl[k] := by
  unfold rdOf
  rw [Int.toNat_natCast, List.getD_eq_getElem?_getD, List.getElem?_eq_getElem h]
  rfl
theorem all_true (fl : List Bool) (m : Nat) (hm : m ≤ fl.length) : (fl.take m).contains false = false ↔ ∀ k : Nat, k < m → rdOf false fl (k : Int) = true := by
  constructor
  · intro h k hk
    rw [rdF_get fl k (by omega)]
    cases hv : fl[k] with
    | true => rfl
    | false =>
      exfalso
      have : (fl.take m).contains false = true := by
        rw [List.contains_iff_mem]
        have h2 : (fl.take m)[k]'(by rw [List.length_take]; omega) = false := by rw [List.getElem_take]; exact hv
        rw [← h2]
        exact List.getElem_mem _
      rw [this] at h
      cases h
  · intro h
    cases hc : (fl.take m).contains false with
    | false => rfl
    | true =>
      exfalso
      rw [List.contains_iff_mem] at hc
      obtain ⟨i, hi, hv⟩ := List.getElem_of_mem hc
      rw [List.length_take] at hi
      rw [List.getElem_take] at hv
      have := h i (by omega)
      rw [rdF_get fl i (by omega), hv] at this
      cases this
/-- What a tree that passes the check leaves. -/
theorem check_open (l : List S39) (h : checkOf l = 0) : 0 < l.length ∧ l.length ≤ 8192 ∧ ∃ z, nodesGo l l.length 0 (List.replicate l.length false) (List.replicate l.length 0) = some z ∧ (z.1.take (l.length - 1)).contains false = false := by
  obtain ⟨h0, h1, z, hz⟩ := check_nodes l h
  refine ⟨h0, h1, z, hz, ?_⟩
  unfold checkOf at h
  rw [if_neg (by omega), if_neg (by omega), hz] at h
  unfold endOf at h
  dsimp only at h
  split at h
  · cases h
  · rename_i hc
    cases hcc : (z.1.take (l.length - 1)).contains false with
    | false => rfl
    | true => exact absurd hcc hc
theorem kids_len (dp : List Int) (i : Nat) : ∀ (kids : List Int) (fl : List Bool) (m : Int) (z : List Bool × Int), kidsGo dp i fl kids m = some z → z.1.length = fl.length
  | [], fl, m, z, h => by rw [kidsGo] at h; cases h; rfl
  | k :: r, fl, m, z, h => by
    rw [kidsGo] at h
    split at h
    · rw [kids_len dp i r _ _ z h, List.length_set]
    · cases h
theorem nodes_len (l : List S39) : ∀ (d i : Nat) (fl : List Bool) (dp : List Int) (z : List Bool × List Int), nodesGo l d i fl dp = some z → z.1.length = fl.length
  | 0, i, fl, dp, z, h => by rw [nodesGo] at h; cases h; rfl
  | d + 1, i, fl, dp, z, h => by
    rw [nodesGo] at h
    split at h
    · cases hk : kidsGo dp i fl (rd_T39 l (i : Int)).f5 0 with
      | none => rw [hk] at h; cases h
      | some q =>
        rw [hk] at h
        rw [nodes_len l d (i + 1) _ _ z h, kids_len dp i _ fl 0 q hk]
    · cases h
theorem rdF_rep (N k : Nat) : rdOf false (List.replicate N false) (k : Int) = false := by
  unfold rdOf
  rw [Int.toNat_natCast, List.getD_eq_getElem?_getD, List.getElem?_replicate]
  split <;> rfl
/-- The list of two. -/
def top (n1 n2 : Nat) : S39 := ⟨5, false, 0, ⟨#[]⟩, [], [((n1 - 1 : Nat) : Int), ((n1 + n2 - 1 : Nat) : Int)]⟩
def join (l1 l2 : List S39) : List S39 := l1 ++ l2.map (sh l1.length) ++ [top l1.length l2.length]
section
variable (l1 l2 : List S39)
theorem join_len : (join l1 l2).length = l1.length + l2.length + 1 := by unfold join; rw [List.length_append, List.length_append, List.length_map]; rfl
theorem join_1 (k : Nat) (h : k < l1.length) : rd_T39 (join l1 l2) ((0 + k : Nat) : Int) = sh 0 (rd_T39 l1 (k : Int)) := by
  rw [sh_zero, Nat.zero_add]
  unfold rd_T39 join
  rw [Int.toNat_natCast, List.getD_eq_getElem?_getD, List.getD_eq_getElem?_getD, List.append_assoc, List.getElem?_append_left h]
theorem join_2 (k : Nat) (h : k < l2.length) : rd_T39 (join l1 l2) ((l1.length + k : Nat) : Int) = sh l1.length (rd_T39 l2 (k : Int)) := by
  unfold rd_T39 join
  rw [Int.toNat_natCast, Int.toNat_natCast, List.getD_eq_getElem?_getD, List.getD_eq_getElem?_getD, List.append_assoc, List.getElem?_append_right (by omega), Nat.add_sub_cancel_left, List.getElem?_append_left (by rw [List.length_map]; exact h), List.getElem?_map, List.getElem?_eq_getElem h]
  rfl
theorem join_3 : rd_T39 (join l1 l2) ((l1.length + l2.length : Nat) : Int) = top l1.length l2.length := by
  unfold rd_T39 join
  rw [Int.toNat_natCast, List.getD_eq_getElem?_getD, List.getElem?_append_right (by rw [List.length_append, List.length_map]; omega), List.length_append, List.length_map, Nat.sub_self]
  rfl
theorem plain_top (n1 n2 : Nat) : plainOf (top n1 n2) = true := by
  unfold plainOf plainB top
  dsimp only
  rw [if_pos (show namesGo [] [] = true from rfl), if_neg (by decide), if_neg (by decide), if_neg (by decide), if_neg (by decide), if_pos rfl, show (⟨#[]⟩ : ByteArray).toList = [] from ByteArray.toList_eq _]
  rfl
/-- Check of the two in one list: it is a tree; it may be too deep. -/
theorem join_check (h1 : checkOf l1 = 0) (h2 : checkOf l2 = 0) (hn : l1.length + l2.length + 1 ≤ 8192) : checkOf (join l1 l2) = 26 ∨ checkOf (join l1 l2) = 0 := by
  obtain ⟨p1, _, z1, e1, c1⟩ := check_open l1 h1
  obtain ⟨p2, _, z2, e2, c2⟩ := check_open l2 h2
  obtain ⟨n1, hn1⟩ : ∃ n, l1.length = n := ⟨_, rfl⟩
  obtain ⟨n2, hn2⟩ : ∃ n, l2.length = n := ⟨_, rfl⟩
  have hl := join_len l1 l2
  have m1 := join_1 l1 l2
  have m2 := join_2 l1 l2
  have m3 := join_3 l1 l2
  rw [hn1] at e1 c1 p1 m1 m2 m3 hl hn
  rw [hn2] at e2 c2 p2 m2 m3 hl hn
  generalize join l1 l2 = M at *
  obtain ⟨N, hN⟩ : ∃ N, n1 + n2 + 1 = N := ⟨_, rfl⟩
  obtain ⟨a, a1, a2, a3, a4, a5, a6, a7⟩ := nodes_sim l1 M 0 n1 N (by omega) m1 n1 0 (List.replicate n1 false) (List.replicate n1 0) (List.replicate N false) (List.replicate N 0) z1 e1 (by omega) (List.length_replicate ..) (List.length_replicate ..) (List.length_replicate ..) (List.length_replicate ..)
    (fun k _ => by rw [rdF_rep, rdF_rep]) (fun k hk => absurd hk (Nat.not_lt_zero _))
  obtain ⟨b, b1, b2, b3, b4, b5, b6, b7⟩ := nodes_sim l2 M n1 n2 N (by omega) m2 n2 0 (List.replicate n2 false) (List.replicate n2 0) a.1 a.2 z2 e2 (by omega) (List.length_replicate ..) (List.length_replicate ..) a2 a3
    (fun k hk => by rw [a6 _ (by omega), rdF_rep, rdF_rep]) (fun k hk => absurd hk (Nat.not_lt_zero _))
  have hz1 : z1.1.length = n1 := (nodes_len _ _ _ _ _ _ e1).trans (List.length_replicate ..)
  have hz2 : z2.1.length = n2 := (nodes_len _ _ _ _ _ _ e2).trans (List.length_replicate ..)
  have t1 := (all_true z1.1 (n1 - 1) (by omega)).1 c1
  have t2 := (all_true z2.1 (n2 - 1) (by omega)).1 c2
  -- both last values are nobody's yet
  have r1 : rdOf false b.1 ((n1 - 1 : Nat) : Int) = false := by rw [b6 _ (by omega), a6 _ (by omega), rdF_rep]
  have r2 : rdOf false b.1 ((n1 + n2 - 1 : Nat) : Int) = false := by rw [b6 _ (by omega), a6 _ (by omega), rdF_rep]
  have a1' := a1 (n2 + 1)
  have b1' := b1 1
  rw [Nat.add_zero, Nat.zero_add] at a1'
  rw [Nat.add_zero] at b1'
  have hrun : nodesGo M N 0 (List.replicate N false) (List.replicate N 0) = nodesGo M 1 (n1 + n2) b.1 b.2 := by
    rw [← hN, Nat.add_assoc n1 n2 1]
    rw [hN.symm, Nat.add_assoc n1 n2 1] at a1'
    exact a1'.trans ((congrArg (fun i => nodesGo M (n2 + 1) i a.1 a.2) (show 0 + n1 = n1 + 0 by omega)).trans b1')
  obtain ⟨fl3, hfl3⟩ : ∃ x, (b.1.set (n1 - 1) true).set (n1 + n2 - 1) true = x := ⟨_, rfl⟩
  obtain ⟨m3v, hm3⟩ : ∃ x, mx (mx 0 (rd b.2 ((n1 - 1 : Nat) : Int))) (rd b.2 ((n1 + n2 - 1 : Nat) : Int)) = x := ⟨_, rfl⟩
  have hkids : kidsGo b.2 (n1 + n2) b.1 [((n1 - 1 : Nat) : Int), ((n1 + n2 - 1 : Nat) : Int)] 0 = some (fl3, m3v) := by
    rw [kidsGo, if_pos ⟨by omega, by omega, r1⟩, Int.toNat_natCast, kidsGo, if_pos ⟨by omega, by omega, by rw [rdF_set _ _ _ _ (by omega), if_neg (by omega)]; exact r2⟩, Int.toNat_natCast, kidsGo, hfl3, hm3]
  have hend : nodesGo M 1 (n1 + n2) b.1 b.2 = some (fl3, b.2.set (n1 + n2) (m3v + 1)) := by
    rw [nodesGo, m3, if_pos (plain_top n1 n2)]
    show (match kidsGo b.2 (n1 + n2) b.1 [((n1 - 1 : Nat) : Int), ((n1 + n2 - 1 : Nat) : Int)] 0 with
      | none => none
      | some (fl'', m) => nodesGo M 0 (n1 + n2 + 1) fl'' (b.2.set (n1 + n2) (if (5 : Int) ≤ 5 then m + 1 else m))) = _
    rw [hkids]
    rfl
  have hall : (fl3.take (N - 1)).contains false = false := by
    refine (all_true fl3 (N - 1) (by rw [← hfl3, List.length_set, List.length_set]; omega)).2 fun k hk => ?_
    rw [← hfl3, rdF_set _ _ _ _ (by rw [List.length_set]; omega)]
    by_cases k1 : n1 + n2 - 1 = k
    · rw [if_pos k1]
    · rw [if_neg k1, rdF_set _ _ _ _ (by omega)]
      by_cases k2 : n1 - 1 = k
      · rw [if_pos k2]
      · rw [if_neg k2]
        by_cases k3 : k < n1
        · rw [b6 _ (by omega)]
          have := a4 k k3
          rw [Nat.zero_add] at this
          rw [this]
          exact t1 k (by omega)
        · have := b4 (k - n1) (by omega)
          rw [show n1 + (k - n1) = k by omega] at this
          rw [this]
          exact t2 (k - n1) (by omega)
  have hc : checkOf M = endOf N (some (fl3, b.2.set (n1 + n2) (m3v + 1))) := by
    unfold checkOf
    rw [hl, hN, if_neg (by omega), if_neg (by omega), hrun, hend]
  rw [hc]
  unfold endOf
  dsimp only
  rw [hall, if_neg (by decide)]
  split
  · exact .inl rfl
  · exact .inr rfl
/-- A place's text, further on. -/
theorem txt_sim (l M : List S39) (o n : Nat) (hn : l.length = n) (ht : Tree l) (hM : ∀ k : Nat, k < n → rd_T39 M ((o + k : Nat) : Int) = sh o (rd_T39 l (k : Int))) : ∀ (f g a : Nat), a < n → a < f → o + a < g → txt M g ((o + a : Nat) : Int) = txt l f (a : Int) := by
  intro f
  induction f with
  | zero => intro g a h0 h1 h2; omega
  | succ f ih =>
    intro g a h0 h1 h2
    obtain ⟨g, rfl⟩ : ∃ m, g = m + 1 := ⟨g - 1, by omega⟩
    obtain ⟨hp, hk⟩ := ht (a : Int) (by omega) (by omega)
    rw [txt_succ, txt_succ, hM a h0]
    have hs0 : (sh o (rd_T39 l (a : Int))).f5 = (rd_T39 l (a : Int)).f5.map fun k => k + (o : Int) := rfl
    have e : ∀ i : Nat, i < (rd_T39 l (a : Int)).f5.length → txt M g (rd (sh o (rd_T39 l (a : Int))).f5 (i : Int)) = txt l f (rd (rd_T39 l (a : Int)).f5 (i : Int)) := fun i hi => by
      obtain ⟨k0, k1⟩ := hk i hi
      rw [hs0, rd_map _ _ _ hi]
      generalize rd (rd_T39 l (a : Int)).f5 (i : Int) = b at *
      obtain ⟨b, rfl⟩ : ∃ b' : Nat, b = (b' : Int) := ⟨b.toNat, by omega⟩
      rw [show (b : Int) + (o : Int) = ((o + b : Nat) : Int) by omega]
      exact ih g b (by omega) (by omega) (by omega)
    have hl5 : (sh o (rd_T39 l (a : Int))).f5.length = (rd_T39 l (a : Int)).f5.length := by rw [hs0, List.length_map]
    have hf0 : (sh o (rd_T39 l (a : Int))).f0 = (rd_T39 l (a : Int)).f0 := rfl
    rcases plain_kind hp with k | k | k | k | k | k
    · rw [txtOf_1 _ _ k, txtOf_1 _ _ (hf0.trans k)]
    · rw [txtOf_2 _ _ k, txtOf_2 _ _ (hf0.trans k)]; rfl
    · rw [txtOf_3 _ _ k.1, txtOf_3 _ _ (hf0.trans k.1)]; rfl
    · rw [txtOf_4 _ _ k, txtOf_4 _ _ (hf0.trans k)]; rfl
    · rw [txtOf_5 _ _ k, txtOf_5 _ _ (hf0.trans k), hl5, joined_congr _ _ _ e]
    · rw [txtOf_6 _ _ k.1, txtOf_6 _ _ (hf0.trans k.1), hl5, joined_congr _ _ _ (fun i hi => by rw [e i hi])]; rfl
/-- The text of the two in one list. -/
theorem join_text (h1 : checkOf l1 = 0) (h2 : checkOf l2 = 0) : textOf (join l1 l2) = [91] ++ textOf l1 ++ [44] ++ textOf l2 ++ [93] := by
  obtain ⟨p1, _, _⟩ := check_open l1 h1
  obtain ⟨p2, _, _⟩ := check_open l2 h2
  have t1 := check_tree l1 h1
  have t2 := check_tree l2 h2
  obtain ⟨n1, hn1⟩ : ∃ n, l1.length = n := ⟨_, rfl⟩
  obtain ⟨n2, hn2⟩ : ∃ n, l2.length = n := ⟨_, rfl⟩
  have hl := join_len l1 l2
  have m1 := join_1 l1 l2
  have m2 := join_2 l1 l2
  have m3 := join_3 l1 l2
  unfold textOf
  rw [hl]
  rw [hn1] at p1 m1 m2 m3 ⊢
  rw [hn2] at p2 m2 m3 ⊢
  generalize join l1 l2 = M at *
  have e1 := txt_sim l1 M 0 n1 hn1 t1 m1 n1 (n1 + n2) (n1 - 1) (by omega) (by omega) (by omega)
  have e2 := txt_sim l2 M n1 n2 hn2 t2 m2 n2 (n1 + n2) (n2 - 1) (by omega) (by omega) (by omega)
  rw [show ((n1 + n2 + 1 : Nat) : Int) - 1 = ((n1 + n2 : Nat) : Int) by omega, txt_succ, m3, txtOf_5 _ _ rfl]
  have j2 : ∀ g : Nat → List UInt8, joined g 2 = g 0 ++ [44] ++ g 1 := fun g => by
    show ([] ++ ((if (0 : Nat) = 0 then [] else [44]) ++ g 0)) ++ ((if (1 : Nat) = 0 then [] else [44]) ++ g 1) = _
    simp
  have hk : (top n1 n2).f5 = [((n1 - 1 : Nat) : Int), ((n1 + n2 - 1 : Nat) : Int)] := rfl
  rw [hk, show ([((n1 - 1 : Nat) : Int), ((n1 + n2 - 1 : Nat) : Int)] : List Int).length = 2 from rfl, j2]
  show [91] ++ (txt M (n1 + n2) ((n1 - 1 : Nat) : Int) ++ [44] ++ txt M (n1 + n2) ((n1 + n2 - 1 : Nat) : Int)) ++ [93] = _
  rw [Nat.zero_add] at e1
  rw [e1, show n1 + n2 - 1 = n1 + (n2 - 1) by omega, e2, show (n1 : Int) - 1 = ((n1 - 1 : Nat) : Int) by omega, show (n2 : Int) - 1 = ((n2 - 1 : Nat) : Int) by omega]
  simp
end
end Go.Proofs.YtldlkoncndlbhaaDoor.Pure
