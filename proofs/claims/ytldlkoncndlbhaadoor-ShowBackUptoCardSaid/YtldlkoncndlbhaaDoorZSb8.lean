/- YtldlkoncndlbhaaDoorZSb8: texts of the seat (RefQuote, RefQuoteW, PTxx0, PTxx1, RefText, RefWrite, RefPrint, Same, Fit, NumPlain, Parse, Reader, Reader2, Reader4, Reader5), one behind the other, without what this claim's theorem does not rest on. -/
import Derived.Test.YtldlkoncndlbhaaDoorZSb7
import Derived.Lib.OthersKept
import Derived.Lib.OwnKind
import Derived.Lib.AppendStr
import Derived.Lib.BufferWrite
import Derived.Maps.AppendAt
import Derived.Test.YtldlkoncndlbhaaDoorProg
import Derived.Below
import Derived.Deep.Draws
import Derived.Deep.AppendLies
import Derived.OwnWalk
import Derived.Laws.BytesArg
import Derived.Laws.MakeOwn
import Derived.Laws.OwnMore
import Derived.Deep.OwnRows
import Derived.Tactics
import Derived.Lib.ConvBytes
import Derived.Laws.Slices
import Derived.WalkKit
import Derived.KernelRfl
import Derived.RowKit3
import Derived.Deep.LoopGhost
import Derived.Deep.QuietTactic
import Derived.BigQuiet
import Derived.WideLaws
import Derived.Deep.DeepCutAuto
import Derived.Deep.CutBlock
import Derived.Deep.RegionHeld3
import Derived.Laws.Rows
import Derived.ArgAppend
import Derived.Laws.IdiomCopy
import Derived.OrdersHeld
import Derived.Laws.BitsLemmas
import Derived.RowKit
import Derived.Lib.ItoaNum
import Derived.Lib.AtoiAll
import Derived.Lib.SpaceU
import Derived.Lib.SlicesS
import Derived.Lib.RuneBytes

set_option linter.unusedVariables false
set_option linter.unusedSimpArgs false
namespace Go.Proofs.YtldlkoncndlbhaaDoor.Rq
open Go.RowKit Go.Proofs.YtldlkoncndlbhaaDoor.Utf Go.Lib Go.Proofs.YtldlkoncndlbhaaDoorW.PrintWords Go.Proofs.YtldlkoncndlbhaaDoorW.PrintLast Go.Proofs.YtldlkoncndlbhaaDoorW.PrintMore
/-- A row of bytes of the call's own; nothing below has turned; of what stood in 'a' only rows of bytes have. -/
def Rw (w0 a : World) (v : Value) (out : List UInt8) (w : World) : Prop :=
  w.ownsRow w0.heap.size 5 1 v out.length (byteCells out) ∧ Below w0.heap.size w0 w ∧ OthersKept 5 none a w
section
variable {w0 a0 w w' : World} {v : Value} {out : List UInt8}
section
variable {ops : Array Oper} {rest : List Oper} {o : Oper} {a : Act} {Q : Exit → Act → World → Prop} {K : Act → World → Prop}
end
end
/-- The text's bytes lie there, apart from the row. -/
def Lies (s : ByteArray) (g : Nat) (v : Value) (w : World) : Prop :=
  g < w.heap.size ∧ (∀ j, j < s.size → w.cell? ⟨g, j, none⟩ = some (.int .u8 ((s.data.toList.getD j 0).toNat : Int))) ∧ v.ownBlock ≠ some g
section
variable {w0 a0 w w' : World} {v v1 : Value} {out : List UInt8} {s : ByteArray} {g : Nat}
end
end Go.Proofs.YtldlkoncndlbhaaDoor.Rq
set_option linter.unusedVariables false
set_option linter.unusedSimpArgs false
namespace Go.Proofs.YtldlkoncndlbhaaDoor.Rq
open Go.RowKit Go.Proofs.YtldlkoncndlbhaaDoor.Utf Go.Lib Go.Proofs.YtldlkoncndlbhaaDoorW.PrintWords Go.Proofs.YtldlkoncndlbhaaDoorW.PrintLast Go.Proofs.YtldlkoncndlbhaaDoorW.PrintMore
def T15 : Bool × List (List Nat × List Nat) := (true, [([], []), ([], []), ([], []), ([2], [2]), ([1, 3], [1, 3]), ([], []), ([], []), ([6], [6]), ([5, 7], [5, 7]), ([4, 8], [4, 8]), ([0, 9], [0, 9]), ([10, 10, 0, 1, 2, 3, 4, 5, 6, 7, 8, 9, 10], [0, 10])])
def B15 : List Nat := [0, 0, 0, 4, 14, 0, 0, 64, 224, 510, 1023, 2047]
def hexPiece (c : UInt8) : List UInt8 := [92, 117, 48, 48, hexOf (c.toNat / 16), hexOf (c.toNat % 16)]
def hexCells (c : UInt8) : Array Value := #[.int .u8 92, .int .u8 117, .int .u8 48, .int .u8 48, .int .u8 ((hexOf (c.toNat / 16)).toNat : Int), .int .u8 ((hexOf (c.toNat % 16)).toNat : Int)]
/-- What is so in each round. -/
def At (w0 a0 : World) (s : ByteArray) (g : Nat) (v : Value) (out : List UInt8) (w : World) : Prop := Rw w0 a0 v out w ∧ Lies s g v w
end Go.Proofs.YtldlkoncndlbhaaDoor.Rq
-- Laid by wip/mk/mk.py of this session (the kit's printer with this session's contracts for library functions).
namespace Go.Proofs.YtldlkoncndlbhaaDoor.PTx
open Go.RowKit Go.Proofs.YtldlkoncndlbhaaDoorW.PrintWords Go.Proofs.YtldlkoncndlbhaaDoorW.PrintLast Go.Proofs.YtldlkoncndlbhaaDoorW.PrintMore
attribute [local go_sem] max2_int min2_int max_two min_two max_three min_three max_four min_four   -- for this text's walks alone
set_option linter.unusedVariables false
set_option linter.unusedSimpArgs false
def errW : Option Int → Value
  | none => .nilIface
  | some c => .iface 0 (.int .i64 c)
-- the values' own types
end Go.Proofs.YtldlkoncndlbhaaDoor.PTx
-- Laid by wip/mk/mk.py of this session (the kit's printer with this session's contracts for library functions).
namespace Go.Proofs.YtldlkoncndlbhaaDoor.PTx
open Go.RowKit Go.Proofs.YtldlkoncndlbhaaDoorW.PrintWords Go.Proofs.YtldlkoncndlbhaaDoorW.PrintLast Go.Proofs.YtldlkoncndlbhaaDoorW.PrintMore
attribute [local go_sem] max2_int min2_int max_two min_two max_three min_three max_four min_four   -- for this text's walks alone
set_option linter.unusedVariables false
set_option linter.unusedSimpArgs false
/-! ### haulierref01_Text: function 42 -/
mutual
def haulierref01_Text.l0 : Nat → Int → ByteArray → Option (ByteArray)
  | 0, _, _ => none
  | k + 1, x0, x3 => (some (([(wrap64 (48 + (Int.tmod x0 10))) % 256] : List Int) : List Int)).bind fun y102 => (if (strOfNums y102).size + x3.size ≤ 9223372036854775807 then (if (wrap64 (Int.tdiv x0 10)) = 0 then (some ((strOfNums y102) ++ x3)) else (haulierref01_Text.l0 k (wrap64 (Int.tdiv x0 10)) ((strOfNums y102) ++ x3))) else (none))
def haulierref01_Text.f : Nat → Int → Option (ByteArray)
  | 0, _ => none
  | k + 1, a0 => if a0 = (-9223372036854775808) then (some (⟨#[45, 57, 50, 50, 51, 51, 55, 50, 48, 51, 54, 56, 53, 52, 55, 55, 53, 56, 48, 56]⟩ : ByteArray)) else (if a0 < 0 then ((haulierref01_Text.f k (wrap64 (-a0))).bind fun t101 => (if 1 + t101.size ≤ 9223372036854775807 then (some ((⟨#[45]⟩ : ByteArray) ++ t101)) else (none))) else (haulierref01_Text.l0 k a0 (⟨#[]⟩ : ByteArray)))
end
end Go.Proofs.YtldlkoncndlbhaaDoor.PTx
namespace Go.Proofs.YtldlkoncndlbhaaDoor.Rt
open Go.RowKit Go.Proofs.YtldlkoncndlbhaaDoor.PTx Go.Proofs.YtldlkoncndlbhaaDoorW.PrintWords Go.Proofs.YtldlkoncndlbhaaDoorW.PrintLast Go.Proofs.YtldlkoncndlbhaaDoorW.PrintMore
end Go.Proofs.YtldlkoncndlbhaaDoor.Rt
set_option linter.unusedVariables false
set_option linter.unusedSimpArgs false
namespace Go.Proofs.YtldlkoncndlbhaaDoor.Rq
open Go.RowKit Go.Proofs.YtldlkoncndlbhaaDoor.Utf Go.Proofs.YtldlkoncndlbhaaDoor.Tx Go.Proofs.YtldlkoncndlbhaaDoor.PSh Go.Lib Go.Proofs.YtldlkoncndlbhaaDoorW.PrintWords Go.Proofs.YtldlkoncndlbhaaDoorW.PrintLast Go.Proofs.YtldlkoncndlbhaaDoorW.PrintMore
section
variable {w0 a w : World} {v : Value} {out : List UInt8}
end
end Go.Proofs.YtldlkoncndlbhaaDoor.Rq
set_option linter.unusedVariables false
set_option linter.unusedSimpArgs false
namespace Go.Proofs.YtldlkoncndlbhaaDoor.Rq
open Go.RowKit Go.Proofs.YtldlkoncndlbhaaDoor.Utf Go.Proofs.YtldlkoncndlbhaaDoor.Tx Go.Proofs.YtldlkoncndlbhaaDoor.Wr Go.Proofs.YtldlkoncndlbhaaDoor.PSh Go.Lib Go.Proofs.YtldlkoncndlbhaaDoorW.PrintWords Go.Proofs.YtldlkoncndlbhaaDoorW.PrintLast Go.Proofs.YtldlkoncndlbhaaDoorW.PrintMore
end Go.Proofs.YtldlkoncndlbhaaDoor.Rq
namespace Go.Proofs.YtldlkoncndlbhaaDoor.Wr
open Go.RowKit Go.Proofs.YtldlkoncndlbhaaDoor.Utf Go.Proofs.YtldlkoncndlbhaaDoor.Tx Go.Proofs.YtldlkoncndlbhaaDoor.PSh Go.Proofs.YtldlkoncndlbhaaDoorW.PrintWords Go.Proofs.YtldlkoncndlbhaaDoorW.PrintLast Go.Proofs.YtldlkoncndlbhaaDoorW.PrintMore
set_option linter.unusedSimpArgs false
set_option linter.unusedVariables false
/-- What Print gives of a tree. -/
def given (r : Int) (l : List S39) : List UInt8 := if r = 0 then textOf l else []
set_option maxHeartbeats 4000000 in
set_option maxRecDepth 100000 in
theorem same_walk (k k2 : Nat) (l l2 : List S39) (A A2 : Option Addr) (cp cp2 : Nat) (r r2 : Int) (w : World) (hG : Aside0 (Glob w)) (hr : Kd.C k39 w A l.length l) (hc : l.length ≤ cp) (hcap : l.length ≤ 1048576)
    (hr2 : Kd.C k39 w A2 l2.length l2) (hc2 : l2.length ≤ cp2) (hcap2 : l2.length ≤ 1048576)
    (h : show_Check.f k l = some r) (hok : r = 0 → 0 < l.length ∧ Tree l ∧ Sized l ∧ (textOf l).length ≤ 140737488355328)
    (h2 : show_Check.f k2 l2 = some r2) (hok2 : r2 = 0 → 0 < l2.length ∧ Tree l2 ∧ Sized l2 ∧ (textOf l2).length ≤ 140737488355328) :
    Calls Tryd.prog 16 #[.slice A l.length cp, .slice A2 l2.length cp2] w fun e w' => e = .returned (.bool (r == 0 && r2 == 0 && (given r l == given r2 l2))) ∧ Below w.heap.size w w' := by
  have hp1 := print_walk k l A cp r w hG hr hc hcap h hok
  have e0 : (r == 0) = true ∨ (r == 0) = false := by cases (r == 0) <;> simp
  have e2 : (r2 == 0) = true ∨ (r2 == 0) = false := by cases (r2 == 0) <;> simp
  have hcmp : ∀ a b : List UInt8, ((⟨a.toArray⟩ : ByteArray).toList == (⟨b.toArray⟩ : ByteArray).toList) = (a == b) := fun a b => by
    rw [Pure.toList_data, Pure.toList_data]
  rcases e0 with e0 | e0 <;> rcases e2 with e2 | e2
  all_goals
    go_enter Tryd.func16, Tryd.ntmps16
    go_wp2_with (first
      | (go_at_call 14; refine hp1.mono ?_; rintro e w2 ⟨A', c', t, rfl, hrd, hb2, ht⟩; have hT := Aside0.mk ht; clear ht hp1)
      | (go_at_call 14; refine (print_walk k2 l2 A2 cp2 r2 w2 ⟨hG.out.below hb2⟩ (Kd.C_below hr2 hb2) hc2 hcap2 h2 hok2).mono ?_; rintro e w3 ⟨A3, c3, t3, rfl, hrd3, hb3, ht3⟩; have hT3 := Aside0.mk ht3; clear ht3; have hcv := string_of_reads (P := Tryd.prog) (src := 30) (dst := 9) (e := 5) (c := c') Tryd.underlying30 Tryd.underlying5 Tryd.underlying9 (hrd.below hb3); have hcv3 := string_of_reads (P := Tryd.prog) (src := 30) (dst := 9) (e := 5) (c := c3) Tryd.underlying30 Tryd.underlying5 Tryd.underlying9 hrd3; rw [Aw.str_nums] at hcv hcv3))
  all_goals go_ret
  all_goals
    refine ⟨?_, hb2.trans (hb3.mono hb2.size)⟩
    show Ending.returned (Value.bool _) = _
    rw [e0, e2]
    first | rfl | (rw [show given r l = t from hT.out.symm, show given r2 l2 = t3 from hT3.out.symm]; (try rw [hcmp]); simp)
end Go.Proofs.YtldlkoncndlbhaaDoor.Wr
namespace Go.Proofs.YtldlkoncndlbhaaDoor.Pure
open Go.RowKit Go.Proofs.YtldlkoncndlbhaaDoor.Utf Go.Proofs.YtldlkoncndlbhaaDoor.Pl Go.Proofs.YtldlkoncndlbhaaDoor.Tx Go.Proofs.YtldlkoncndlbhaaDoor.Wr Go.Proofs.YtldlkoncndlbhaaDoor.Rd Go.Proofs.YtldlkoncndlbhaaDoor.PSh Go.Proofs.YtldlkoncndlbhaaDoorW.PrintWords Go.Proofs.YtldlkoncndlbhaaDoorW.PrintLast Go.Proofs.YtldlkoncndlbhaaDoorW.PrintMore
set_option linter.unusedSimpArgs false
set_option linter.unusedVariables false
/-- Of a bounded cost. -/
def Small (l : List S39) : Prop := (l.map cost).sum ≤ 4194304 ∧ l.length ≤ 1048576
theorem Small.of {l : List S39} (h : (l.map cost).sum ≤ 1048576) : Small l := ⟨by omega, Nat.le_trans (len_cost l) h⟩
theorem at_mem {l : List S39} {a : Int} (h0 : 0 ≤ a) (h1 : a < l.length) : rd_T39 l a ∈ l := by
  have hl : a.toNat < l.length := by omega
  unfold rd_T39
  rw [List.getD_eq_getElem?_getD, List.getElem?_eq_getElem hl]
  exact List.getElem_mem hl
theorem Small.at_ {l : List S39} (h : Small l) {a : Int} (h0 : 0 ≤ a) (h1 : a < l.length) :
    (rd_T39 l a).f3.size ≤ 4194304 ∧ (rd_T39 l a).f4.length ≤ 4194304 ∧ (rd_T39 l a).f5.length ≤ 4194304 ∧ ∀ s ∈ (rd_T39 l a).f4, s.size ≤ 4194304 := by
  have h2 := sum_mem l _ (at_mem h0 h1)
  have h3 := h.1
  generalize rd_T39 l a = v at *
  have h4 := names_len v.f4
  have h5 : cost v = 1 + v.f3.size + (v.f4.map fun s => s.size + 1).sum + v.f5.length := rfl
  refine ⟨by omega, by omega, by omega, fun s hs => ?_⟩
  have := name_le v.f4 s hs
  omega
theorem Small.sz {l : List S39} (h : Small l) : Sz l := fun a h0 h1 => by
  obtain ⟨g3, g4, g5, gn⟩ := h.at_ h0 h1
  exact ⟨⟨fun s hs => Nat.le_trans (gn s hs) (by decide), by omega, by omega⟩, by omega⟩
theorem Small.sized {l : List S39} (h : Small l) : Sized l := fun a h0 h1 => by
  obtain ⟨g3, g4, g5, gn⟩ := h.at_ h0 h1
  refine ⟨by omega, by omega, fun i hi => ?_⟩
  have hm : rdOf ByteArray.empty (rd_T39 l a).f4 (i : Int) ∈ (rd_T39 l a).f4 := by
    unfold rdOf
    rw [Int.toNat_natCast, List.getD_eq_getElem?_getD, List.getElem?_eq_getElem hi]
    exact List.getElem_mem hi
  have := gn _ hm
  omega
theorem Small.slots {l : List S39} (h : Small l) : ∀ a : Int, 0 ≤ a → a < l.length → (rd_T39 l a).f4.length * 16 ≤ 140737488355328 ∧ (rd_T39 l a).f5.length * 8 ≤ 140737488355328 := fun a h0 h1 => by
  obtain ⟨g3, g4, g5, gn⟩ := h.at_ h0 h1
  exact ⟨by omega, by omega⟩
theorem sumN_names (ss : List ByteArray) : ∀ m, m ≤ ss.length → sumN (fun i => 6 * (rdOf ByteArray.empty ss (i : Int)).size + 3) m ≤ 6 * ((ss.take m).map fun s => s.size + 1).sum
  | 0, _ => Nat.zero_le _
  | m + 1, h => by
    have ih := sumN_names ss m (by omega)
    rw [sumN, List.take_succ_eq_append_getElem (by omega), List.map_append, List.sum_append]
    have e : rdOf ByteArray.empty ss (m : Int) = ss[m] := by
      unfold rdOf
      rw [Int.toNat_natCast, List.getD_eq_getElem?_getD, List.getElem?_eq_getElem (by omega)]
      rfl
    have e2 : (List.map (fun s : ByteArray => s.size + 1) [ss[m]]).sum = ss[m].size + 1 := by simp
    rw [e, e2]
    omega
theorem own_cost (v : S39) : ownLen v ≤ 32 * cost v := by
  have h := sumN_names v.f4 v.f4.length (Nat.le_refl _)
  rw [List.take_length] at h
  unfold ownLen cost
  omega
theorem sumN_list (l : List S39) : ∀ m, m ≤ l.length → sumN (fun j => ownLen (rd_T39 l (j : Int))) m ≤ 32 * ((l.take m).map cost).sum
  | 0, _ => Nat.zero_le _
  | m + 1, h => by
    have ih := sumN_list l m (by omega)
    rw [sumN, List.take_succ_eq_append_getElem (by omega), List.map_append, List.sum_append]
    have e : rd_T39 l (m : Int) = l[m] := by
      unfold rd_T39
      rw [Int.toNat_natCast, List.getD_eq_getElem?_getD, List.getElem?_eq_getElem (by omega)]
      rfl
    have e2 : (List.map cost [l[m]]).sum = cost l[m] := by simp
    have := own_cost l[m]
    rw [e, e2]
    omega
theorem Small.text {l : List S39} (h : Small l) (hc : checkOf l = 0) : (textOf l).length ≤ 134217728 := by
  have h1 := text_len l hc
  have h2 := sumN_list l l.length (Nat.le_refl _)
  rw [List.take_length] at h2
  have := h.1
  omega
theorem Small.ok {l : List S39} (h : Small l) (hc : checkOf l = 0) : 0 < l.length ∧ Tree l ∧ Sized l ∧ (textOf l).length ≤ 140737488355328 :=
  ⟨(check_nodes l hc).1, check_tree l hc, h.sized, Nat.le_trans (h.text hc) (by decide)⟩
/-- What both Prints leave. -/
def Printed (w : World) (l : List S39) : Ending → World → Prop := fun e w' => ∃ (A' : Option Addr) (c' : Nat) (t : List UInt8), e = .returned (.tuple #[.slice A' t.length c', .int .i64 (checkOf l)]) ∧ ReadsInt w' .u8 A' t.length (numsOf t) ∧ Below w.heap.size w w' ∧ t = given (checkOf l) l
theorem print_tells {l : List S39} {w : World} {A : Option Addr} {cp : Nat} (hG : Aside0 (Glob w)) (hr : Kd.C k39 w A l.length l) (hc : l.length ≤ cp) (hs : Small l) :
    Calls Tryd.prog 14 #[.slice A l.length cp] w (Printed w l) := by
  obtain ⟨K, hK⟩ := check_tells l hs.sz
  exact (print_walk K l A cp (checkOf l) w hG hr hc hs.2 (hK K (Nat.le_refl _)) hs.ok).mono fun e w' h => h
/-- A text as a string. -/
theorem as_string {w : World} {A : Option Addr} {c : Nat} {t : List UInt8} (hrd : ReadsInt w .u8 A t.length (numsOf t)) : (convert 30 9 (.slice A t.length c)).run Tryd.prog w = .ok (.string ⟨t.toArray⟩) w := by
  have h := string_of_reads (P := Tryd.prog) (src := 30) (dst := 9) (e := 5) (c := c) Tryd.underlying30 Tryd.underlying5 Tryd.underlying9 hrd
  exact h.trans (by rw [Aw.str_nums])
end Go.Proofs.YtldlkoncndlbhaaDoor.Pure
namespace Go.Proofs.YtldlkoncndlbhaaDoor.Np
/-- A digit. -/
def dig (c : UInt8) : Bool := decide (48 ≤ c.toNat ∧ c.toNat ≤ 57)
/-- Behind the sign. -/
def bare (l : List UInt8) : List UInt8 := if l.head? = some 45 then l.tail else l
/-- How strconv's end is told. -/
def told : Lib.NumEnd Int → Int × Int
  | .ok v => if -4611686018427387903 ≤ v ∧ v ≤ 4611686018427387903 then (v, 0) else (0, 10)
  | _ => (0, 10)
/-- An end that is no misspelling. -/
def spelt : Lib.NumEnd Int → Bool
  | .ok _ => true
  | .range => true
  | _ => false
/-- What num.Parse answers. -/
def parseG (l : List UInt8) : Int × Int :=
  if bare l = [] then (0, 11) else if (bare l).head? = some 48 ∧ l ≠ [48] then (0, 11)
  else if (bare l).all dig then told (Lib.atoiAll l) else (0, 11)
end Go.Proofs.YtldlkoncndlbhaaDoor.Np
namespace Go.Proofs.YtldlkoncndlbhaaDoor.Js
open Go.RowKit Go.Proofs.YtldlkoncndlbhaaDoor.PSh Go.Proofs.YtldlkoncndlbhaaDoor.Np Go.Lib
/-- Read, with what is left and its place; or a fault, its place and its number. -/
inductive R (α : Type) where
  | ok (l : List UInt8) (p : Nat) (v : α)
  | no (p : Nat) (e : Int)
def R.bind {α β : Type} (r : R α) (f : List UInt8 → Nat → α → R β) : R β := match r with
  | .ok l p v => f l p v
  | .no p e => .no p e
theorem R.bind_ok {α β : Type} (l : List UInt8) (p : Nat) (v : α) (f : List UInt8 → Nat → α → R β) : (R.ok l p v).bind f = f l p v := rfl
theorem R.bind_no {α β : Type} (p : Nat) (e : Int) (f : List UInt8 → Nat → α → R β) : (R.no p e : R α).bind f = .no p e := rfl
def blank (c : UInt8) : Bool := c == 32 || c == 9 || c == 10 || c == 13
/-- How many blanks stand ahead. -/
def gapLen : List UInt8 → Nat
  | [] => 0
  | c :: r => if blank c = true then gapLen r + 1 else 0
/-- The byte behind blanks; it stays. -/
def here (l : List UInt8) (p : Nat) : R UInt8 := match l.drop (gapLen l) with
  | [] => .no (p + gapLen l) 21
  | c :: r => .ok (c :: r) (p + gapLen l) c
/-- A word, letter by letter. -/
def word : List UInt8 → List UInt8 → Nat → R Unit
  | [], l, p => .ok l p ()
  | _ :: _, [], p => .no p 21
  | c :: v, x :: l, p => if x = c then word v l (p + 1) else .no p 22
def numByte (c : UInt8) : Bool := c == 45 || c == 43 || c == 46 || c == 101 || c == 69 || (decide (48 ≤ c.toNat) && decide (c.toNat ≤ 57))
def numLen : List UInt8 → Nat
  | [] => 0
  | c :: r => if numByte c = true then numLen r + 1 else 0
def number (l : List UInt8) (p : Nat) : R Int :=
  if (parseG (l.take (numLen l))).2 = 0 then .ok (l.drop (numLen l)) (p + numLen l) (parseG (l.take (numLen l))).1 else .no p 25
/-- A hexadecimal digit's number. -/
def digit (c : UInt8) : Option Nat :=
  if 48 ≤ c.toNat ∧ c.toNat ≤ 57 then some (c.toNat - 48) else if 97 ≤ c.toNat ∧ c.toNat ≤ 102 then some (c.toNat - 87) else if 65 ≤ c.toNat ∧ c.toNat ≤ 70 then some (c.toNat - 55) else none
/-- So many digits; faults are told at 'fr'. -/
def hex : Nat → List UInt8 → Nat → Nat → Nat → R Nat
  | 0, l, p, _, n => .ok l p n
  | _ + 1, [], p, _, _ => .no p 21
  | k + 1, c :: r, p, fr, n => match digit c with
    | none => .no fr 24
    | some d => hex k r (p + 1) fr (16 * n + d)
/-- What stands behind a backslash, by one letter. -/
def mark (c : UInt8) : Option Nat :=
  if c = 34 ∨ c = 92 ∨ c = 47 then some c.toNat else if c = 98 then some 8 else if c = 102 then some 12 else if c = 110 then some 10 else if c = 114 then some 13 else if c = 116 then some 9 else none
def half (l : List UInt8) (p fr : Nat) : R Nat := match l with
  | [] => .no p 21
  | [_] => .no (p + 1) 21
  | _ :: c :: r => match mark c with
    | some n => .ok r (p + 2) n
    | none => if c = 117 then hex 4 r (p + 2) fr 0 else .no fr 24
def escape (l : List UInt8) (p : Nat) : R Nat := (half l p p).bind fun l1 p1 n =>
  if 56320 ≤ n ∧ n ≤ 57343 then .no p 24
  else if n < 55296 ∨ 56319 < n then .ok l1 p1 n
  else if l1.head? = some 92 ∧ l1.tail.head? = some 117 then (half l1 p1 p).bind fun l2 p2 m => if m < 56320 ∨ 57343 < m then .no p 24 else .ok l2 p2 (65536 + (n - 55296) * 1024 + (m - 56320))
  else .no p 24
/-- A string's inner part, up to the quote behind it. -/
def textGo : Nat → List UInt8 → Nat → List UInt8 → R (List UInt8)
  | 0, _, p, _ => .no p (-1)
  | _ + 1, [], p, _ => .no p 21
  | f + 1, c :: r, p, out =>
    if c = 34 then .ok r (p + 1) out
    else if c.toNat < 32 then .no p 22
    else if c = 92 then (escape (c :: r) p).bind fun l1 p1 n => textGo f l1 p1 (out ++ encodeRune n)
    else if decodeL (c :: r) = (65533, 1) then .no p 23
    else textGo f ((c :: r).drop (decodeL (c :: r)).2) (p + (decodeL (c :: r)).2) (out ++ (c :: r).take (decodeL (c :: r)).2)
def text (l : List UInt8) (p : Nat) : R (List UInt8) := textGo (l.length + 1) l p []
/-- A value more, if there is room: the tree and the value's place. -/
def put (t : List S39) (fr : Nat) (v : S39) (l : List UInt8) (p : Nat) : R (List S39 × Int) := if 8192 ≤ t.length then .no fr 27 else .ok l p (t ++ [v], (t.length : Int))
/-- Behind a kid: is it the last one? -/
def more (fin : UInt8) (l : List UInt8) (p : Nat) : R Bool := (here l p).bind fun l1 p1 c => if c = 44 ∨ c = fin then .ok l1.tail (p1 + 1) (c == fin) else .no p1 22
def str (l : List UInt8) : ByteArray := ⟨l.toArray⟩
mutual
def value : Nat → Nat → List UInt8 → Nat → List S39 → R (List S39 × Int)
  | 0, _, _, p, _ => .no p (-1)
  | f + 1, deep, l0, p0, t => (here l0 p0).bind fun l p c =>
    if c = 110 then (word [110, 117, 108, 108] l p).bind fun l1 p1 _ => put t p ⟨1, false, 0, ⟨#[]⟩, [], []⟩ l1 p1
    else if c = 116 then (word [116, 114, 117, 101] l p).bind fun l1 p1 _ => put t p ⟨2, true, 0, ⟨#[]⟩, [], []⟩ l1 p1
    else if c = 102 then (word [102, 97, 108, 115, 101] l p).bind fun l1 p1 _ => put t p ⟨2, false, 0, ⟨#[]⟩, [], []⟩ l1 p1
    else if c = 34 then (text l.tail (p + 1)).bind fun l1 p1 s => put t p ⟨4, false, 0, str s, [], []⟩ l1 p1
    else if c = 45 ∨ (48 ≤ c.toNat ∧ c.toNat ≤ 57) then (number l p).bind fun l1 p1 n => put t p ⟨3, false, n, ⟨#[]⟩, [], []⟩ l1 p1
    else if c = 91 ∨ c = 123 then
      if 16 ≤ deep then .no p 26
      else if c = 91 then (here l.tail (p + 1)).bind fun l1 p1 c1 => if c1 = 93 then put t p ⟨5, false, 0, ⟨#[]⟩, [], []⟩ l1.tail (p1 + 1) else list f deep p [] l1 p1 t
      else (here l.tail (p + 1)).bind fun l1 p1 c1 => if c1 = 125 then put t p ⟨6, false, 0, ⟨#[]⟩, [], []⟩ l1.tail (p1 + 1) else object f deep p [] [] l1 p1 t
    else .no p 22
def list : Nat → Nat → Nat → List Int → List UInt8 → Nat → List S39 → R (List S39 × Int)
  | 0, _, _, _, _, p, _ => .no p (-1)
  | f + 1, deep, fr, kids, l, p, t => (value f (deep + 1) l p t).bind fun l1 p1 v => (more 93 l1 p1).bind fun l2 p2 done =>
    if done = true then put v.1 fr ⟨5, false, 0, ⟨#[]⟩, [], kids ++ [v.2]⟩ l2 p2 else list f deep fr (kids ++ [v.2]) l2 p2 v.1
def object : Nat → Nat → Nat → List ByteArray → List Int → List UInt8 → Nat → List S39 → R (List S39 × Int)
  | 0, _, _, _, _, _, p, _ => .no p (-1)
  | f + 1, deep, fr, names, kids, l0, p0, t => (here l0 p0).bind fun l p c =>
    if c = 34 then (text l.tail (p + 1)).bind fun l1 p1 s =>
      if containsS names (str s) = true then .no p 28
      else (here l1 p1).bind fun l2 p2 c2 =>
        if c2 = 58 then (value f (deep + 1) l2.tail (p2 + 1) t).bind fun l3 p3 v => (more 125 l3 p3).bind fun l4 p4 done =>
          if done = true then put v.1 fr ⟨6, false, 0, ⟨#[]⟩, names ++ [str s], kids ++ [v.2]⟩ l4 p4 else object f deep fr (names ++ [str s]) (kids ++ [v.2]) l4 p4 v.1
        else .no p2 22
    else .no p 22
end
/-- Of a whole text: the tree; or the place and the number of the first fault. -/
def parse (b : List UInt8) : R (List S39) :=
  if 65536 < b.length then .no 65536 20
  else (value (2 * b.length + 2) 0 b 0 []).bind fun l p v => if l.drop (gapLen l) = [] then .ok [] 0 v.1 else .no (p + gapLen l) 22
end Go.Proofs.YtldlkoncndlbhaaDoor.Js
set_option linter.unusedVariables false
set_option linter.unusedSimpArgs false
namespace Go.Proofs.YtldlkoncndlbhaaDoor.Js
open Go.RowKit Go.Lib Go.Proofs.YtldlkoncndlbhaaDoor.PSh Go.Proofs.YtldlkoncndlbhaaDoorW.PrintWords Go.Proofs.YtldlkoncndlbhaaDoorW.PrintLast Go.Proofs.YtldlkoncndlbhaaDoorW.PrintMore
/-- The reader's block: the text, the place, the tree so far. -/
def At (w0 : World) (b : Nat) (s : ByteArray) (z : Int) (tv : Value) (w : World) : Prop :=
  w0.heap.size ≤ b ∧ Below w0.heap.size w0 w ∧ w.heap[b]? = some (.cells #[.string s, .int .i64 z, tv] 65 (0, 0))
section
variable {w0 w w' : World} {b : Nat} {s : ByteArray} {z : Int} {tv : Value}
theorem At.lt (h : At w0 b s z tv w) : b < w.heap.size := blk_lt h.2.2
theorem At.c0 (h : At w0 b s z tv w) : w.cell? ⟨b, 0, none⟩ = some (.string s) := blk_cell h.2.2 0
theorem At.c1 (h : At w0 b s z tv w) : w.cell? ⟨b, 1, none⟩ = some (.int .i64 z) := blk_cell h.2.2 1
theorem At.c2 (h : At w0 b s z tv w) : w.cell? ⟨b, 2, none⟩ = some tv := blk_cell h.2.2 2
theorem At.fr (h : At w0 b s z tv w) (i : Nat) : w.frozen? ⟨b, i, none⟩ = false := blk_frozen h.2.2 i
theorem At.below (h : At w0 b s z tv w) (hb : Below w.heap.size w w') : At w0 b s z tv w' := ⟨h.1, h.2.1.trans (hb.mono h.2.1.size), blk_below h.2.2 hb⟩
theorem At.drew (h : At w0 b s z tv w) : At w0 b s z tv w.drew := h.below (below_drew (Below.refl _ _))
theorem At.drewN (h : At w0 b s z tv w) (n : Nat) : At w0 b s z tv (w.drewN n) := h.below (pw_below_drewN (Below.refl _ _) n)
theorem At.set1 (h : At w0 b s z tv w) (z' : Int) : At w0 b s z' tv (w.setCell ⟨b, 1, none⟩ (.int .i64 z')) := ⟨h.1, h.2.1.setCell (by exact h.1) _, by rw [blk_set h.2.2]; rfl⟩
theorem At.set2 (h : At w0 b s z tv w) (v : Value) : At w0 b s z v (w.setCell ⟨b, 2, none⟩ v) := ⟨h.1, h.2.1.setCell (by exact h.1) _, by rw [blk_set h.2.2]; rfl⟩
end
/-- How a fault ends a call. -/
abbrev halted (p : Int) (e : Int) : Ending := .panicked [{ v := .iface 67 (.agg #[.int .i64 p, .int .i64 e]), recovered := false }]
theorem fail_walk (p e : Int) (w : World) : Calls Tryd.prog 35 #[.int .i64 p, .int .i64 e] w fun en w' => en = halted p e ∧ w' = w := by
  go_enter Tryd.func35, Tryd.ntmps35
  go_wp2
  exact ⟨rfl, rfl, rfl⟩
theorem drop_cons (l : List UInt8) (p : Nat) (hp : p < l.length) : l.drop p = l[p] :: l.drop (p + 1) := List.drop_eq_getElem_cons hp
/-- The byte at a place, as the walk spells it. -/
theorem bt_head {s : ByteArray} {p : Nat} {c : UInt8} {r : List UInt8} (h : s.data.toList.drop p = c :: r) : p < s.size ∧ bt s (p : Int) = c.toNat ∧ s.data.toList.drop (p + 1) = r := by
  have hlt : p < s.data.toList.length := by
    rcases Nat.lt_or_ge p s.data.toList.length with h1 | h1
    · exact h1
    · rw [List.drop_of_length_le h1] at h; cases h
  rw [drop_cons _ _ hlt] at h
  injection h with h1 h2
  have hs : p < s.size := by rw [← data_length s]; exact hlt
  refine ⟨hs, ?_, h2⟩
  unfold bt
  rw [dif_pos (by simpa using hs), ← h1]
  rfl
theorem drop_end {s : ByteArray} {p : Nat} (hp : p ≤ s.size) (h : s.data.toList.drop p = []) : p = s.size := by
  have := congrArg List.length h
  rw [List.length_drop, data_length] at this
  simp at this
  omega
theorem gap_cons (c : UInt8) (r : List UInt8) : gapLen (c :: r) = if blank c = true then gapLen r + 1 else 0 := rfl
theorem gap_le : ∀ l : List UInt8, gapLen l ≤ l.length
  | [] => Nat.le_refl _
  | c :: r => by
    rw [gap_cons]
    have := gap_le r
    split
    · rw [List.length_cons]; omega
    · omega
set_option maxHeartbeats 2000000 in
set_option maxRecDepth 100000 in
theorem gap_walk (w0 w : World) (b : Nat) (s : ByteArray) (p : Nat) (tv : Value) (hA : At w0 b s (p : Int) tv w) (hp : p ≤ s.size) (hs : s.size ≤ 65536) :
    Calls Tryd.prog 34 #[.pointer (some ⟨b, 0, none⟩)] w fun e w' => e = .returned (.tuple #[]) ∧ At w0 b s ((p + gapLen (s.data.toList.drop p) : Nat) : Int) tv w' ∧ KeepBut w w' b none := by
  have hk0 := KeepBut.refl w b none
  go_enter Tryd.func34, Tryd.ntmps34
  go_wp2
  go_loopg [] (s.size - p) (fun kq wr => ∃ (q : Nat) (z : Int), Aside0 (z = q ∧ kq + q = s.size ∧ p + gapLen (s.data.toList.drop p) = q + gapLen (s.data.toList.drop q)) ∧ At w0 b s z tv wr ∧ KeepBut w wr b none)
  case atStart => exact ⟨p, (p : Int), ⟨rfl, by omega, rfl⟩, hA, hk0⟩
  case round =>
    clear hA hk0
    obtain ⟨q, z, HZ, hA, hk⟩ := hrel
    have hc0 := hA.c0
    have hc1 := hA.c1
    have hf1 := hA.fr 1
    obtain ⟨l, hl⟩ : ∃ l, s.data.toList.drop q = l := ⟨_, rfl⟩
    have p4 : (0 ≤ z) = True := eq_true (by have := HZ.out.1; omega)
    cases l with
    | nil =>
      have c2 : decide (z < (s.size : Int)) = false := decide_eq_false (by have h1 := HZ.out; have h2 := drop_end (by omega) hl; omega)
      have HL := Aside0.mk hl
      clear hl
      go_wp2
      repeat (go_quiet (fail); try go_wp2)
      go_end0
      refine ⟨rfl, ?_, keep_drewN hk _⟩
      have h1 := HZ.out
      rw [h1.2.2, HL.out, show ((q + gapLen [] : Nat) : Int) = z from by rw [h1.1]; rfl]
      exact hA.drewN _
    | cons c r =>
      obtain ⟨hlt, hbt, hr⟩ := bt_head hl
      have HR := Aside0.mk hr
      have hx := bt_at s z
      have q4 : (z < (s.size : Int)) = True := eq_true (by have := HZ.out.1; omega)
      have c2 : decide (z < (s.size : Int)) = true := decide_eq_true (by have := HZ.out.1; omega)
      have HL := Aside0.mk hl
      rw [← HZ.out.1] at hbt
      have hv0 : 0 ≤ bt s z ∧ bt s z < 256 := by have := c.toNat_lt; omega
      generalize bt s z = v at *
      have HB := Aside0.mk hbt
      clear hbt hl hr
      by_cases hbl : v = 32 ∨ v = 9 ∨ v = 10 ∨ v = 13
      · have hg : Aside0 (gapLen (c :: r) = gapLen r + 1) := ⟨by
          rw [gap_cons, if_pos]
          have h1 : c.toNat = 32 ∨ c.toNat = 9 ∨ c.toNat = 10 ∨ c.toNat = 13 := by have := HB.out; omega
          unfold blank
          simp only [Bool.or_eq_true, beq_iff_eq, ← UInt8.toNat_inj]
          rcases h1 with h1 | h1 | h1 | h1 <;> simp [h1]⟩
        have hgo : ∀ wr', At w0 b s (z + 1) tv wr' → KeepBut w wr' b none → ∃ (q : Nat) (z' : Int), Aside0 (z' = q ∧ gk - 1 + q = s.size ∧ p + gapLen (s.data.toList.drop p) = q + gapLen (s.data.toList.drop q)) ∧ At w0 b s z' tv wr' ∧ KeepBut w wr' b none := fun wr' h1 h2 =>
          ⟨q + 1, z + 1, ⟨by have := HZ.out.1; omega, by have := HZ.out; omega, by rw [HR.out, HZ.out.2.2, HL.out, hg.out]; omega⟩, h1, h2⟩
        have HGO := Aside0.mk hgo
        clear hgo
        have hz1 : 0 ≤ z := by have := HZ.out.1; omega
        have hz2 : z < 65536 := by have := HZ.out.1; omega
        rcases hbl with h | h | h | h
        · have e0 : (v == 32) = true := beq_iff_eq.2 h
          clear h
          go_wp2
          repeat (go_quiet (fail); try go_wp2)
          go_roundg (gk - 1)
          case measure => have := HZ.out; omega
          case rel => exact HGO.out _ ((hA.drewN _).set1 _) ((keep_drewN hk _).set_ _ _)
        · have e0 : (v == 32) = false := beq_eq_false_iff_ne.2 (by omega)
          have e1 : (v == 9) = true := beq_iff_eq.2 h
          clear h
          go_wp2
          repeat (go_quiet (fail); try go_wp2)
          go_roundg (gk - 1)
          case measure => have := HZ.out; omega
          case rel => exact HGO.out _ ((hA.drewN _).set1 _) ((keep_drewN hk _).set_ _ _)
        · have e0 : (v == 32) = false := beq_eq_false_iff_ne.2 (by omega)
          have e1 : (v == 9) = false := beq_eq_false_iff_ne.2 (by omega)
          have e2 : (v == 10) = true := beq_iff_eq.2 h
          clear h
          go_wp2
          repeat (go_quiet (fail); try go_wp2)
          go_roundg (gk - 1)
          case measure => have := HZ.out; omega
          case rel => exact HGO.out _ ((hA.drewN _).set1 _) ((keep_drewN hk _).set_ _ _)
        · have e0 : (v == 32) = false := beq_eq_false_iff_ne.2 (by omega)
          have e1 : (v == 9) = false := beq_eq_false_iff_ne.2 (by omega)
          have e2 : (v == 10) = false := beq_eq_false_iff_ne.2 (by omega)
          have e3 : (v == 13) = true := beq_iff_eq.2 h
          clear h
          go_wp2
          repeat (go_quiet (fail); try go_wp2)
          go_roundg (gk - 1)
          case measure => have := HZ.out; omega
          case rel => exact HGO.out _ ((hA.drewN _).set1 _) ((keep_drewN hk _).set_ _ _)
      · have hg : Aside0 (gapLen (c :: r) = 0) := ⟨by
          rw [gap_cons, if_neg]
          have h1 : ¬ (c.toNat = 32 ∨ c.toNat = 9 ∨ c.toNat = 10 ∨ c.toNat = 13) := by have := HB.out; omega
          unfold blank
          simp only [Bool.or_eq_true, beq_iff_eq, ← UInt8.toNat_inj]
          intro h2
          apply h1
          rcases h2 with ((h2 | h2) | h2) | h2 <;> simp at h2 <;> simp [h2]⟩
        have e0 : (v == 32) = false := beq_eq_false_iff_ne.2 (by omega)
        have e1 : (v == 9) = false := beq_eq_false_iff_ne.2 (by omega)
        have e2 : (v == 10) = false := beq_eq_false_iff_ne.2 (by omega)
        have e3 : (v == 13) = false := beq_eq_false_iff_ne.2 (by omega)
        clear hbl
        go_wp2
        repeat (go_quiet (fail); try go_wp2)
        go_end0
        refine ⟨rfl, ?_, keep_drewN hk _⟩
        have h1 := HZ.out
        rw [h1.2.2, HL.out, hg.out, show ((q + 0 : Nat) : Int) = z from by rw [h1.1]; rfl]
        exact hA.drewN _
end Go.Proofs.YtldlkoncndlbhaaDoor.Js
set_option linter.unusedVariables false
set_option linter.unusedSimpArgs false
namespace Go.Proofs.YtldlkoncndlbhaaDoor.Js
open Go.RowKit Go.Lib Go.Proofs.YtldlkoncndlbhaaDoor.PSh Go.Proofs.YtldlkoncndlbhaaDoorW.PrintWords Go.Proofs.YtldlkoncndlbhaaDoorW.PrintLast Go.Proofs.YtldlkoncndlbhaaDoorW.PrintMore
/-- How a call that moves the reader alone ends. -/
def Ret {α : Type} (w0 : World) (b : Nat) (s : ByteArray) (tv : Value) (w : World) (r : R α) (enc : α → Value) : Ending → World → Prop := fun e w' => match r with
  | .ok l' p' v => e = .returned (enc v) ∧ l' = s.data.toList.drop p' ∧ p' ≤ s.size ∧ At w0 b s (p' : Int) tv w' ∧ KeepBut w w' b none
  | .no pp ee => e = halted (pp : Int) ee ∧ Below w0.heap.size w0 w'
set_option maxHeartbeats 2000000 in
set_option maxRecDepth 100000 in
theorem here_walk (w0 w : World) (b : Nat) (s : ByteArray) (p : Nat) (tv : Value) (hA : At w0 b s (p : Int) tv w) (hp : p ≤ s.size) (hs : s.size ≤ 65536) :
    Calls Tryd.prog 45 #[.pointer (some ⟨b, 0, none⟩)] w (Ret w0 b s tv w (here (s.data.toList.drop p) p) (fun c => .int .u8 (c.toNat : Int))) := by
  have hgl := gap_le (s.data.toList.drop p)
  rw [List.length_drop, data_length] at hgl
  have hq0 : p + gapLen (s.data.toList.drop p) ≤ s.size := by omega
  have hgw := gap_walk w0 w b s p tv hA hp hs
  unfold here
  rw [List.drop_drop]
  generalize p + gapLen (s.data.toList.drop p) = q at *
  obtain ⟨l, hl⟩ : ∃ l, s.data.toList.drop q = l := ⟨_, rfl⟩
  rw [hl]
  obtain ⟨z, hz⟩ : ∃ z : Int, z = q := ⟨_, rfl⟩
  rw [← hz] at hgw
  cases l with
  | nil =>
    have c2 : decide ((s.size : Int) ≤ z) = true := decide_eq_true (by have h2 := drop_end (by omega) hl; omega)
    show Calls _ _ _ _ fun e w' => e = halted (q : Int) 21 ∧ Below w0.heap.size w0 w'
    rw [← hz]
    clear hl hz
    go_enter Tryd.func45, Tryd.ntmps45
    go_wp2_with (go_at_call 34; refine hgw.mono ?_; rintro e w1 ⟨rfl, hA1, hk1⟩; have hc0 := hA1.c0; have hc1 := hA1.c1)
    go_quiet (fail)
    go_wp2_with (go_at_call 35; refine (fail_walk _ _ _).mono ?_; rintro e w2 ⟨rfl, rfl⟩)
    exact ⟨rfl, rfl, (hA1.drewN _).2.1⟩
  | cons c r =>
    obtain ⟨hlt, hbt, hr⟩ := bt_head hl
    have c2 : decide ((s.size : Int) ≤ z) = false := decide_eq_false (by omega)
    have p4 : (0 ≤ z) = True := eq_true (by omega)
    have q4 : (z < (s.size : Int)) = True := eq_true (by omega)
    have hx := bt_at s z
    show Calls _ _ _ _ fun e w' => e = .returned (.int .u8 (c.toNat : Int)) ∧ c :: r = s.data.toList.drop q ∧ q ≤ s.size ∧ At w0 b s (q : Int) tv w' ∧ KeepBut w w' b none
    rw [← hz] at hbt ⊢
    have HB := Aside0.mk hbt
    have HL := Aside0.mk hl
    clear hl hz hbt hr
    go_enter Tryd.func45, Tryd.ntmps45
    go_wp2_with (go_at_call 34; refine hgw.mono ?_; rintro e w1 ⟨rfl, hA1, hk1⟩; have hc0 := hA1.c0; have hc1 := hA1.c1)
    go_quiet (fail)
    go_wp2
    go_quiet (fail)
    go_wp2
    go_ret
    exact ⟨by rw [HB.out]; rfl, HL.out.symm, hq0, (hA1.drewN _).drewN _, hk1⟩
theorem word_nil (l : List UInt8) (p : Nat) : word [] l p = .ok l p () := rfl
theorem word_end (c : UInt8) (v : List UInt8) (p : Nat) : word (c :: v) [] p = .no p 21 := rfl
theorem word_cons (c x : UInt8) (v l : List UInt8) (p : Nat) : word (c :: v) (x :: l) p = if x = c then word v l (p + 1) else .no p 22 := rfl
theorem byte_eq (a b : UInt8) : ((a.toNat : Int) == (b.toNat : Int)) = decide (a = b) := by
  rw [Bool.eq_iff_iff, beq_iff_eq, decide_eq_true_iff]
  constructor
  · intro h; exact UInt8.toNat.inj (by omega)
  · intro h; rw [h]
set_option maxHeartbeats 2000000 in
set_option maxRecDepth 100000 in
theorem word_walk (w0 w : World) (b : Nat) (s v : ByteArray) (p : Nat) (tv : Value) (hA : At w0 b s (p : Int) tv w) (hp : p ≤ s.size) (hs : s.size ≤ 65536) (hv : v.size ≤ 65536) :
    Calls Tryd.prog 46 #[.pointer (some ⟨b, 0, none⟩), .string v] w (Ret w0 b s tv w (word v.data.toList (s.data.toList.drop p) p) (fun _ => .tuple #[])) := by
  obtain ⟨res, hres⟩ : ∃ r, word v.data.toList (s.data.toList.drop p) p = r := ⟨_, rfl⟩
  rw [hres]
  have HRes := Aside0.mk hres
  clear hres
  have hk0 := KeepBut.refl w b none
  go_enter Tryd.func46, Tryd.ntmps46
  go_wp2
  go_loopw [7, 4] (fun k7 k4 wr => ∃ (k : Nat) (zk z : Int), Aside0 (zk = k ∧ z = ((p + k : Nat) : Int) ∧ k ≤ v.size ∧ p + k ≤ s.size ∧ word (v.data.toList.drop k) (s.data.toList.drop (p + k)) (p + k) = res) ∧ k7 = .int .i64 zk ∧ 0 ≤ zk ∧ zk ≤ 65536 ∧ At w0 b s z tv wr ∧ KeepBut w wr b none) (fun k7 _ _ => v.size - (RowKit.intOf k7).toNat)
  case atStart => exact ⟨0, 0, (p : Int), ⟨rfl, rfl, Nat.zero_le _, hp, HRes.out⟩, rfl, by omega, by omega, hA, hk0⟩
  case round =>
    clear hA hk0 HRes
    obtain ⟨k, zk, z, HZ, rfl, hzk0, hzk1, hA, hk⟩ := hrel
    have hc0 := hA.c0
    have hc1 := hA.c1
    have hf1 := hA.fr 1
    obtain ⟨l, hl⟩ : ∃ l, s.data.toList.drop (p + k) = l := ⟨_, rfl⟩
    obtain ⟨u, hu⟩ : ∃ u, v.data.toList.drop k = u := ⟨_, rfl⟩
    have hw := HZ.out.2.2.2.2
    rw [hl, hu] at hw
    have HW := Aside0.mk hw
    clear hw
    have p4 : (0 ≤ z) = True := eq_true (by have := HZ.out.2.1; omega)
    cases u with
    | nil =>
      have c2 : decide (zk < (v.size : Int)) = false := decide_eq_false (by have h1 := HZ.out; have h2 := drop_end (by omega) hu; omega)
      have HL := Aside0.mk hl
      clear hl hu
      go_wp2
      go_end0
      have h1 := HW.out
      rw [word_nil] at h1
      rw [← h1]
      exact ⟨rfl, HL.out.symm, HZ.out.2.2.2.1, by rw [← HZ.out.2.1]; exact hA, hk⟩
    | cons c u =>
      obtain ⟨hltv, hbtv, hu1⟩ := bt_head hu
      have c2 : decide (zk < (v.size : Int)) = true := decide_eq_true (by have h1 := HZ.out; omega)
      have p5 : (0 ≤ zk) = True := eq_true hzk0
      have q5 : (zk < (v.size : Int)) = True := of_decide_eq_true c2 |> eq_true
      cases l with
      | nil =>
        have c3 : decide ((s.size : Int) ≤ z) = true := decide_eq_true (by have h1 := HZ.out; have h2 := drop_end (by omega) hl; omega)
        clear hl hu hbtv hu1
        go_wp2
        go_quiet (fail)
        go_wp2_with (go_at_call 35; refine (fail_walk _ _ _).mono ?_; rintro e w2 ⟨rfl, rfl⟩)
        have h1 := HW.out
        rw [word_end] at h1
        rw [← h1]
        exact ⟨rfl, by rw [← HZ.out.2.1], (hA.drewN _).2.1⟩
      | cons x l =>
        obtain ⟨hlt, hbt, hl1⟩ := bt_head hl
        have c3 : decide ((s.size : Int) ≤ z) = false := decide_eq_false (by have h1 := HZ.out; omega)
        have q4 : (z < (s.size : Int)) = True := eq_true (by have h1 := HZ.out; omega)
        have hx := bt_at s z
        have hy := bt_at v zk
        rw [← HZ.out.2.1] at hbt
        rw [← HZ.out.1] at hbtv
        by_cases he : x = c
        · have e1 : (bt s z == bt v zk) = true := by rw [hbt, hbtv, byte_eq, decide_eq_true he]
          have e2 : (bt s z != bt v zk) = false := by rw [bne, e1]; rfl
          have HN := Aside0.mk (And.intro hl1 hu1)
          have HE := Aside0.mk he
          have hzk2 : zk < (v.size : Int) := by have := HZ.out.1; omega
          have hz1 : 0 ≤ z := by have := HZ.out.2.1; omega
          have hz2 : z < 65536 := by have := HZ.out.2.1; omega
          clear hl hu hbt hbtv hl1 hu1 he
          go_wp2
          go_quiet (fail)
          go_wp2
          go_quiet (fail)
          go_wp2
          go_roundw
          case rel =>
            have h1 := HW.out
            rw [word_cons, if_pos HE.out] at h1
            exact ⟨k + 1, zk + 1, z + 1, ⟨by have := HZ.out.1; omega, by have := HZ.out.2.1; omega, hltv, hlt, by rw [← Nat.add_assoc, HN.out.1, HN.out.2]; exact h1⟩, rfl, by omega, by omega, (hA.drewN _).set1 _, (keep_drewN hk _).set_ _ _⟩
          case measure => simp [RowKit.intOf]; omega
        · have e1 : (bt s z == bt v zk) = false := by rw [hbt, hbtv, byte_eq, decide_eq_false he]
          have e2 : (bt s z != bt v zk) = true := by rw [bne, e1]; rfl
          have HE := Aside0.mk he
          clear hl hu hbt hbtv hl1 hu1 he
          go_wp2
          go_quiet (fail)
          go_wp2
          go_quiet (fail)
          go_wp2_with (go_at_call 35; refine (fail_walk _ _ _).mono ?_; rintro e w2 ⟨rfl, rfl⟩)
          have h1 := HW.out
          rw [word_cons, if_neg HE.out] at h1
          rw [← h1]
          exact ⟨rfl, by rw [← HZ.out.2.1], (hA.drewN _).2.1⟩
end Go.Proofs.YtldlkoncndlbhaaDoor.Js
set_option linter.unusedVariables false
set_option linter.unusedSimpArgs false
namespace Go.Proofs.YtldlkoncndlbhaaDoor.Js
open Go.RowKit Go.Lib Go.Proofs.YtldlkoncndlbhaaDoor.PSh Go.Proofs.YtldlkoncndlbhaaDoorW.PrintWords Go.Proofs.YtldlkoncndlbhaaDoorW.PrintLast Go.Proofs.YtldlkoncndlbhaaDoorW.PrintMore
theorem or_four (x d : Int) (h0 : 0 ≤ x) (h1 : x < 65536) (h2 : 0 ≤ d) (h3 : d < 16) : Go.bits .or .i32 (x * 16) d = x * 16 + d := by
  have hk : ∀ m : Int, 0 ≤ m → m < 2 ^ 31 → IntKind.i32.wrap m = m := fun m h0 h1 => by rw [IntKind.wrap_i32]; omega
  exact bits_join .i32 31 (by decide) hk 4 (x * 16) d (by omega) (by omega) (by omega) h2 (by omega) (by omega)
theorem hex_zero (l : List UInt8) (p fr n : Nat) : hex 0 l p fr n = .ok l p n := rfl
theorem hex_end (k p fr n : Nat) : hex (k + 1) [] p fr n = .no p 21 := rfl
theorem hex_bad (k : Nat) (c : UInt8) (r : List UInt8) (p fr n : Nat) (h : digit c = none) : hex (k + 1) (c :: r) p fr n = .no fr 24 := by
  unfold hex; rw [h]
theorem hex_good (k : Nat) (c : UInt8) (r : List UInt8) (p fr n d : Nat) (h : digit c = some d) : hex (k + 1) (c :: r) p fr n = hex k r (p + 1) fr (16 * n + d) := by
  rw [show hex (k + 1) (c :: r) p fr n = (match digit c with | none => .no fr 24 | some d => hex k r (p + 1) fr (16 * n + d)) from rfl, h]
theorem pow16 (k : Nat) (h : k < 4) : 16 ^ (k + 1) ≤ 65536 := by
  match k, h with
  | 0, _ => decide
  | 1, _ => decide
  | 2, _ => decide
  | 3, _ => decide
set_option maxHeartbeats 8000000 in
set_option maxRecDepth 100000 in
theorem hex_walk (w0 w : World) (b : Nat) (s : ByteArray) (p fr : Nat) (tv : Value) (hA : At w0 b s (p : Int) tv w) (hp : p ≤ s.size) (hs : s.size ≤ 65536) :
    Calls Tryd.prog 67 #[.pointer (some ⟨b, 0, none⟩), .int .i64 (fr : Int)] w (Ret w0 b s tv w (hex 4 (s.data.toList.drop p) p fr 0) (fun n => .int .i32 (n : Int))) := by
  obtain ⟨res, hres⟩ : ∃ r, hex 4 (s.data.toList.drop p) p fr 0 = r := ⟨_, rfl⟩
  rw [hres]
  have HRes := Aside0.mk hres
  clear hres
  have hk0 := KeepBut.refl w b none
  obtain ⟨zf, hzf⟩ : ∃ z : Int, z = fr := ⟨_, rfl⟩
  rw [← hzf]
  have HF := Aside0.mk hzf
  clear hzf
  go_enter Tryd.func67, Tryd.ntmps67
  go_wp2
  go_loopw [5, 6, 7] (fun k5 _ k7 wr => ∃ (k n q : Nat) (zk zn z : Int), Aside0 (zk = k ∧ zn = n ∧ z = q ∧ k ≤ 4 ∧ q ≤ s.size ∧ n < 16 ^ k ∧ hex (4 - k) (s.data.toList.drop q) q fr n = res) ∧ k7 = .int .i64 zk ∧ k5 = .int .i32 zn ∧ 0 ≤ zk ∧ zk ≤ 4 ∧ 0 ≤ zn ∧ zn ≤ 65536 ∧ At w0 b s z tv wr ∧ KeepBut w wr b none) (fun _ _ k7 _ => 4 - (RowKit.intOf k7).toNat)
  case atStart => exact ⟨0, 0, p, 0, 0, (p : Int), ⟨rfl, rfl, rfl, by omega, hp, by decide, HRes.out⟩, rfl, rfl, by omega, by omega, by omega, by omega, hA, hk0⟩
  case round =>
    clear hA hk0 HRes
    obtain ⟨k, n, q, zk, zn, z, HZ, rfl, rfl, hzk0, hzk1, hzn0, hzn1, hA, hk⟩ := hrel
    have hc0 := hA.c0
    have hc1 := hA.c1
    have hf1 := hA.fr 1
    obtain ⟨l, hl⟩ : ∃ l, s.data.toList.drop q = l := ⟨_, rfl⟩
    have hw := HZ.out.2.2.2.2.2.2
    rw [hl] at hw
    have HW := Aside0.mk hw
    clear hw
    have p4 : (0 ≤ z) = True := eq_true (by have := HZ.out.2.2.1; omega)
    by_cases hk4 : k = 4
    · have c2 : decide (zk < 4) = false := decide_eq_false (by have h1 := HZ.out; omega)
      have HL := Aside0.mk hl
      have HK4 := Aside0.mk hk4
      clear hl hk4
      go_wp2
      go_ret
      have h1 := HW.out
      rw [HK4.out, Nat.sub_self, hex_zero] at h1
      rw [← h1]
      exact ⟨congrArg (fun x => Ending.returned (Value.int .i32 x)) HZ.out.2.1, HL.out.symm, HZ.out.2.2.2.2.1, by rw [← HZ.out.2.2.1]; exact hA, hk⟩
    · have c2 : decide (zk < 4) = true := decide_eq_true (by have h1 := HZ.out; omega)
      have hk3 : k < 4 := by have h1 := HZ.out; omega
      have hzk3 : zk < 4 := by have h1 := HZ.out; omega
      have h4k : 4 - k = (3 - k) + 1 := by omega
      have H4 := Aside0.mk h4k
      clear h4k hk4
      cases l with
      | nil =>
        have c3 : decide ((s.size : Int) ≤ z) = true := decide_eq_true (by have h1 := HZ.out; have h2 := drop_end (by omega) hl; omega)
        clear hl
        go_wp2
        go_quiet (fail)
        go_wp2_with (go_at_call 35; refine (fail_walk _ _ _).mono ?_; rintro e w2 ⟨rfl, rfl⟩)
        have h1 := HW.out
        rw [H4.out, hex_end] at h1
        rw [← h1]
        exact ⟨rfl, by rw [← HZ.out.2.2.1], (hA.drewN _).2.1⟩
      | cons c l =>
        obtain ⟨hlt, hbt, hl1⟩ := bt_head hl
        have c3 : decide ((s.size : Int) ≤ z) = false := decide_eq_false (by have h1 := HZ.out; omega)
        have q4 : (z < (s.size : Int)) = True := eq_true (by have h1 := HZ.out; omega)
        have hx := bt_at s z
        rw [← HZ.out.2.2.1] at hbt
        have hv0 : 0 ≤ bt s z ∧ bt s z < 256 := by have := c.toNat_lt; omega
        generalize bt s z = v at *
        have HB := Aside0.mk hbt
        have HN := Aside0.mk hl1
        clear hbt hl hl1
        obtain ⟨hv1, hv2⟩ := hv0
        have hz1 : 0 ≤ z := by have := HZ.out.2.2.1; omega
        have hz2 : z < 65536 := by have := HZ.out; omega
        have hpw := pow16 k hk3
        have hzn2 : zn * 16 < 65536 := by have h1 := HZ.out; rw [Nat.pow_succ] at hpw; omega
        have hcase : (48 ≤ v ∧ v ≤ 57) ∨ (97 ≤ v ∧ v ≤ 102) ∨ (65 ≤ v ∧ v ≤ 70) ∨ (v < 48) ∨ (57 < v ∧ v < 65) ∨ (70 < v ∧ v < 97) ∨ (102 < v) := by omega
        rcases hcase with h | h | h | h | h | h | h
        · have e48 : decide (48 ≤ v) = true := decide_eq_true (by omega)
          have e57 : decide (v ≤ 57) = true := decide_eq_true (by omega)
          have hd0 : 48 ≤ v := by omega
          have hd1 : v ≤ 57 := by omega
          have HD : Aside0 (digit c = some (v - 48).toNat) := ⟨by have := HB.out; unfold digit; rw [if_pos (by omega)]; congr 1; omega⟩
          clear h
          go_wp2
          go_quiet (fail)
          go_wp2
          go_quiet (fail)
          go_wp2
          go_roundw
          case rel =>
            have h1 := HW.out
            have h2 := HZ.out
            rw [H4.out, hex_good _ _ _ _ _ _ _ HD.out] at h1
            exact ⟨k + 1, 16 * n + (v - 48).toNat, q + 1, zk + 1, zn * 16 + (v - 48), z + 1, ⟨by omega, by omega, by omega, hk3, hlt, by rw [Nat.pow_succ]; omega, by rw [HN.out, show 4 - (k + 1) = 3 - k by omega]; exact h1⟩, rfl, congrArg (Value.int .i32) ((or_four zn (v - 48) hzn0 (by omega) (by omega) (by omega)).trans (by omega)), by omega, by omega, by omega, by omega, (hA.drewN _).set1 _, (keep_drewN hk _).set_ _ _⟩
          case measure => simp [RowKit.intOf]; omega
        · have e48 : decide (48 ≤ v) = true := decide_eq_true (by omega)
          have e57 : decide (v ≤ 57) = false := decide_eq_false (by omega)
          have e97 : decide (97 ≤ v) = true := decide_eq_true (by omega)
          have e102 : decide (v ≤ 102) = true := decide_eq_true (by omega)
          have hd0 : 97 ≤ v := by omega
          have hd1 : v ≤ 102 := by omega
          have HD : Aside0 (digit c = some (v - 87).toNat) := ⟨by have := HB.out; unfold digit; rw [if_neg (by omega), if_pos (by omega)]; congr 1; omega⟩
          clear h
          go_wp2
          go_quiet (fail)
          go_wp2
          go_quiet (fail)
          go_wp2
          go_roundw
          case rel =>
            have h1 := HW.out
            have h2 := HZ.out
            rw [H4.out, hex_good _ _ _ _ _ _ _ HD.out] at h1
            exact ⟨k + 1, 16 * n + (v - 87).toNat, q + 1, zk + 1, zn * 16 + (v - 87), z + 1, ⟨by omega, by omega, by omega, hk3, hlt, by rw [Nat.pow_succ]; omega, by rw [HN.out, show 4 - (k + 1) = 3 - k by omega]; exact h1⟩, rfl, congrArg (Value.int .i32) ((or_four zn (v - 97 + 10) hzn0 (by omega) (by omega) (by omega)).trans (by omega)), by omega, by omega, by omega, by omega, (hA.drewN _).set1 _, (keep_drewN hk _).set_ _ _⟩
          case measure => simp [RowKit.intOf]; omega
        · have e48 : decide (48 ≤ v) = true := decide_eq_true (by omega)
          have e57 : decide (v ≤ 57) = false := decide_eq_false (by omega)
          have e97 : decide (97 ≤ v) = false := decide_eq_false (by omega)
          have e65 : decide (65 ≤ v) = true := decide_eq_true (by omega)
          have e70 : decide (v ≤ 70) = true := decide_eq_true (by omega)
          have hd0 : 65 ≤ v := by omega
          have hd1 : v ≤ 70 := by omega
          have HD : Aside0 (digit c = some (v - 55).toNat) := ⟨by have := HB.out; unfold digit; rw [if_neg (by omega), if_neg (by omega), if_pos (by omega)]; congr 1; omega⟩
          clear h
          go_wp2
          go_quiet (fail)
          go_wp2
          go_quiet (fail)
          go_wp2
          go_roundw
          case rel =>
            have h1 := HW.out
            have h2 := HZ.out
            rw [H4.out, hex_good _ _ _ _ _ _ _ HD.out] at h1
            exact ⟨k + 1, 16 * n + (v - 55).toNat, q + 1, zk + 1, zn * 16 + (v - 55), z + 1, ⟨by omega, by omega, by omega, hk3, hlt, by rw [Nat.pow_succ]; omega, by rw [HN.out, show 4 - (k + 1) = 3 - k by omega]; exact h1⟩, rfl, congrArg (Value.int .i32) ((or_four zn (v - 65 + 10) hzn0 (by omega) (by omega) (by omega)).trans (by omega)), by omega, by omega, by omega, by omega, (hA.drewN _).set1 _, (keep_drewN hk _).set_ _ _⟩
          case measure => simp [RowKit.intOf]; omega
        · have e48 : decide (48 ≤ v) = false := decide_eq_false (by omega)
          have e97 : decide (97 ≤ v) = false := decide_eq_false (by omega)
          have e65 : decide (65 ≤ v) = false := decide_eq_false (by omega)
          have HD : Aside0 (digit c = none) := ⟨by have := HB.out; unfold digit; rw [if_neg (by omega), if_neg (by omega), if_neg (by omega)]⟩
          clear h
          go_wp2
          go_quiet (fail)
          go_wp2
          go_quiet (fail)
          go_wp2_with (go_at_call 35; refine (fail_walk _ _ _).mono ?_; rintro e w2 ⟨rfl, rfl⟩)
          have h1 := HW.out
          rw [H4.out, hex_bad _ _ _ _ _ _ HD.out] at h1
          rw [← h1]
          exact ⟨rfl, by rw [← HF.out], (hA.drewN _).2.1⟩
        · have e48 : decide (48 ≤ v) = true := decide_eq_true (by omega)
          have e57 : decide (v ≤ 57) = false := decide_eq_false (by omega)
          have e97 : decide (97 ≤ v) = false := decide_eq_false (by omega)
          have e65 : decide (65 ≤ v) = false := decide_eq_false (by omega)
          have HD : Aside0 (digit c = none) := ⟨by have := HB.out; unfold digit; rw [if_neg (by omega), if_neg (by omega), if_neg (by omega)]⟩
          clear h
          go_wp2
          go_quiet (fail)
          go_wp2
          go_quiet (fail)
          go_wp2_with (go_at_call 35; refine (fail_walk _ _ _).mono ?_; rintro e w2 ⟨rfl, rfl⟩)
          have h1 := HW.out
          rw [H4.out, hex_bad _ _ _ _ _ _ HD.out] at h1
          rw [← h1]
          exact ⟨rfl, by rw [← HF.out], (hA.drewN _).2.1⟩
        · have e48 : decide (48 ≤ v) = true := decide_eq_true (by omega)
          have e57 : decide (v ≤ 57) = false := decide_eq_false (by omega)
          have e97 : decide (97 ≤ v) = false := decide_eq_false (by omega)
          have e65 : decide (65 ≤ v) = true := decide_eq_true (by omega)
          have e70 : decide (v ≤ 70) = false := decide_eq_false (by omega)
          have HD : Aside0 (digit c = none) := ⟨by have := HB.out; unfold digit; rw [if_neg (by omega), if_neg (by omega), if_neg (by omega)]⟩
          clear h
          go_wp2
          go_quiet (fail)
          go_wp2
          go_quiet (fail)
          go_wp2_with (go_at_call 35; refine (fail_walk _ _ _).mono ?_; rintro e w2 ⟨rfl, rfl⟩)
          have h1 := HW.out
          rw [H4.out, hex_bad _ _ _ _ _ _ HD.out] at h1
          rw [← h1]
          exact ⟨rfl, by rw [← HF.out], (hA.drewN _).2.1⟩
        · have e48 : decide (48 ≤ v) = true := decide_eq_true (by omega)
          have e57 : decide (v ≤ 57) = false := decide_eq_false (by omega)
          have e97 : decide (97 ≤ v) = true := decide_eq_true (by omega)
          have e102 : decide (v ≤ 102) = false := decide_eq_false (by omega)
          have e65 : decide (65 ≤ v) = true := decide_eq_true (by omega)
          have e70 : decide (v ≤ 70) = false := decide_eq_false (by omega)
          have HD : Aside0 (digit c = none) := ⟨by have := HB.out; unfold digit; rw [if_neg (by omega), if_neg (by omega), if_neg (by omega)]⟩
          clear h
          go_wp2
          go_quiet (fail)
          go_wp2
          go_quiet (fail)
          go_wp2_with (go_at_call 35; refine (fail_walk _ _ _).mono ?_; rintro e w2 ⟨rfl, rfl⟩)
          have h1 := HW.out
          rw [H4.out, hex_bad _ _ _ _ _ _ HD.out] at h1
          rw [← h1]
          exact ⟨rfl, by rw [← HF.out], (hA.drewN _).2.1⟩
end Go.Proofs.YtldlkoncndlbhaaDoor.Js
set_option linter.unusedVariables false
set_option linter.unusedSimpArgs false
namespace Go.Proofs.YtldlkoncndlbhaaDoor.Js
open Go.RowKit Go.Lib Go.Proofs.YtldlkoncndlbhaaDoor.PSh Go.Proofs.YtldlkoncndlbhaaDoorW.PrintWords Go.Proofs.YtldlkoncndlbhaaDoorW.PrintLast Go.Proofs.YtldlkoncndlbhaaDoorW.PrintMore
theorem At.cast {w0 w : World} {b : Nat} {s : ByteArray} {z z' : Int} {tv : Value} (h : At w0 b s z tv w) (e : z = z') : At w0 b s z' tv w := e ▸ h
theorem half_two (x c : UInt8) (r : List UInt8) (p fr n : Nat) (h : mark c = some n) : half (x :: c :: r) p fr = .ok r (p + 2) n := by
  rw [show half (x :: c :: r) p fr = (match mark c with | some n => .ok r (p + 2) n | none => if c = 117 then hex 4 r (p + 2) fr 0 else .no fr 24) from rfl, h]
theorem half_none (x c : UInt8) (r : List UInt8) (p fr : Nat) (h : mark c = none) : half (x :: c :: r) p fr = if c = 117 then hex 4 r (p + 2) fr 0 else .no fr 24 := by
  rw [show half (x :: c :: r) p fr = (match mark c with | some n => .ok r (p + 2) n | none => if c = 117 then hex 4 r (p + 2) fr 0 else .no fr 24) from rfl, h]
theorem byte_is (c : UInt8) (n : Nat) (hn : n < 256) (h : c.toNat = n) : c = UInt8.ofNat n := UInt8.toNat.inj (by rw [h]; simp; omega)
set_option maxHeartbeats 16000000 in
set_option maxRecDepth 100000 in
theorem half_walk (w0 w : World) (b : Nat) (s : ByteArray) (p fr : Nat) (tv : Value) (hA : At w0 b s (p : Int) tv w) (hp : p ≤ s.size) (hs : s.size ≤ 65536) :
    Calls Tryd.prog 62 #[.pointer (some ⟨b, 0, none⟩), .int .i64 (fr : Int)] w (Ret w0 b s tv w (half (s.data.toList.drop p) p fr) (fun n => .int .i32 (n : Int))) := by
  obtain ⟨res, hres⟩ : ∃ r, half (s.data.toList.drop p) p fr = r := ⟨_, rfl⟩
  rw [hres]
  have hk := KeepBut.refl w b none
  obtain ⟨z, hz⟩ : ∃ z : Int, z = p := ⟨_, rfl⟩
  replace hA := hA.cast hz.symm
  have hc0 := hA.c0
  have hc1 := hA.c1
  have hf1 := hA.fr 1
  have hz0 : 0 ≤ z := by omega
  have hz1 : z ≤ 65536 := by omega
  have p4 : (0 ≤ z) = True := eq_true hz0
  have p5 : (0 ≤ z + 1) = True := eq_true (by omega)
  have HZ := Aside0.mk hz
  obtain ⟨l, hl⟩ : ∃ l, s.data.toList.drop p = l := ⟨_, rfl⟩
  rw [hl] at hres
  have hlen : l.length = s.size - p := by rw [← hl, List.length_drop, data_length]
  match l, hres, hl, hlen with
  | [], hres, hl, hlen =>
    have c2 : decide ((s.size : Int) ≤ z + 1) = true := decide_eq_true (by simp at hlen; omega)
    have HR := Aside0.mk (show R.no s.size 21 = res by rw [← hres]; simp at hlen; rw [show s.size = p by omega]; rfl)
    clear hl hres hlen hz
    go_enter Tryd.func62, Tryd.ntmps62
    go_wp2
    go_quiet (fail)
    go_wp2_with (go_at_call 35; refine (fail_walk _ _ _).mono ?_; rintro e w2 ⟨rfl, rfl⟩)
    rw [← HR.out]
    exact ⟨rfl, rfl, (hA.drewN _).2.1⟩
  | [x], hres, hl, hlen =>
    have c2 : decide ((s.size : Int) ≤ z + 1) = true := decide_eq_true (by simp at hlen; omega)
    have HR := Aside0.mk (show R.no s.size 21 = res by rw [← hres]; simp at hlen; rw [show s.size = p + 1 by omega]; rfl)
    clear hl hres hlen hz
    go_enter Tryd.func62, Tryd.ntmps62
    go_wp2
    go_quiet (fail)
    go_wp2_with (go_at_call 35; refine (fail_walk _ _ _).mono ?_; rintro e w2 ⟨rfl, rfl⟩)
    rw [← HR.out]
    exact ⟨rfl, rfl, (hA.drewN _).2.1⟩
  | x :: c :: r, hres, hl, hlen =>
    have hl2 : s.data.toList.drop (p + 1) = c :: r := (bt_head hl).2.2
    obtain ⟨hlt, hbt, hr⟩ := bt_head hl2
    have hzz : z + 1 = ((p + 1 : Nat) : Int) := by omega
    rw [← hzz] at hbt
    have c2 : decide ((s.size : Int) ≤ z + 1) = false := decide_eq_false (by omega)
    have q5 : (z + 1 < (s.size : Int)) = True := eq_true (by omega)
    have hx := bt_at s (z + 1)
    have hv0 : 0 ≤ bt s (z + 1) ∧ bt s (z + 1) < 256 := by have := c.toNat_lt; omega
    generalize bt s (z + 1) = v at *
    obtain ⟨hv1, hv2⟩ := hv0
    have hA2 : ∀ w', At w0 b s z tv w' → At w0 b s ((p + 2 : Nat) : Int) tv (w'.setCell ⟨b, 1, none⟩ (.int .i64 (z + 2))) := fun w' h => (h.set1 _).cast (by omega)
    have HA2 := Aside0.mk hA2
    have HB := Aside0.mk hbt
    have HR := Aside0.mk hres
    have hp2 : p + 2 ≤ s.size := by omega
    have HD := Aside0.mk (show s.data.toList.drop (p + 2) = r from hr)
    clear hl hl2 hbt hr hzz hres hlen hz hA2 hlt
    have hcase : v = 34 ∨ v = 92 ∨ v = 47 ∨ v = 98 ∨ v = 102 ∨ v = 110 ∨ v = 114 ∨ v = 116 ∨ v = 117 ∨ (v ≠ 34 ∧ v ≠ 92 ∧ v ≠ 47 ∧ v ≠ 98 ∧ v ≠ 102 ∧ v ≠ 110 ∧ v ≠ 114 ∧ v ≠ 116 ∧ v ≠ 117) := by omega
    rcases hcase with h | h | h | h | h | h | h | h | h | h
    · have e34 : (v == 34) = true := beq_iff_eq.2 h
      have HM : Aside0 (mark c = some 34) := ⟨by have h1 := byte_is c 34 (by decide) (by have := HB.out; omega); rw [h1]; rfl⟩
      have HV := Aside0.mk h
      clear h
      go_enter Tryd.func62, Tryd.ntmps62
      go_wp2
      go_quiet (fail)
      go_wp2
      go_quiet (fail)
      go_wp2
      go_ret
      rw [← HR.out, half_two _ _ _ _ _ _ HM.out]
      exact ⟨congrArg (fun t => Ending.returned (Value.int .i32 t)) HV.out, HD.out.symm, hp2, HA2.out _ (hA.drewN _), (keep_drewN hk _).set_ _ _⟩
    · have e34 : (v == 34) = false := beq_eq_false_iff_ne.2 (by omega)
      have e92 : (v == 92) = true := beq_iff_eq.2 h
      have HM : Aside0 (mark c = some 92) := ⟨by have h1 := byte_is c 92 (by decide) (by have := HB.out; omega); rw [h1]; rfl⟩
      have HV := Aside0.mk h
      clear h
      go_enter Tryd.func62, Tryd.ntmps62
      go_wp2
      go_quiet (fail)
      go_wp2
      go_quiet (fail)
      go_wp2
      go_ret
      rw [← HR.out, half_two _ _ _ _ _ _ HM.out]
      exact ⟨congrArg (fun t => Ending.returned (Value.int .i32 t)) HV.out, HD.out.symm, hp2, HA2.out _ (hA.drewN _), (keep_drewN hk _).set_ _ _⟩
    · have e34 : (v == 34) = false := beq_eq_false_iff_ne.2 (by omega)
      have e92 : (v == 92) = false := beq_eq_false_iff_ne.2 (by omega)
      have e47 : (v == 47) = true := beq_iff_eq.2 h
      have HM : Aside0 (mark c = some 47) := ⟨by have h1 := byte_is c 47 (by decide) (by have := HB.out; omega); rw [h1]; rfl⟩
      have HV := Aside0.mk h
      clear h
      go_enter Tryd.func62, Tryd.ntmps62
      go_wp2
      go_quiet (fail)
      go_wp2
      go_quiet (fail)
      go_wp2
      go_ret
      rw [← HR.out, half_two _ _ _ _ _ _ HM.out]
      exact ⟨congrArg (fun t => Ending.returned (Value.int .i32 t)) HV.out, HD.out.symm, hp2, HA2.out _ (hA.drewN _), (keep_drewN hk _).set_ _ _⟩
    · have e34 : (v == 34) = false := beq_eq_false_iff_ne.2 (by omega)
      have e92 : (v == 92) = false := beq_eq_false_iff_ne.2 (by omega)
      have e47 : (v == 47) = false := beq_eq_false_iff_ne.2 (by omega)
      have e98 : (v == 98) = true := beq_iff_eq.2 h
      have HM : Aside0 (mark c = some 8) := ⟨by have h1 := byte_is c 98 (by decide) (by have := HB.out; omega); rw [h1]; rfl⟩
      clear h
      go_enter Tryd.func62, Tryd.ntmps62
      go_wp2
      go_quiet (fail)
      go_wp2
      go_quiet (fail)
      go_wp2
      go_ret
      rw [← HR.out, half_two _ _ _ _ _ _ HM.out]
      exact ⟨rfl, HD.out.symm, hp2, HA2.out _ (hA.drewN _), (keep_drewN hk _).set_ _ _⟩
    · have e34 : (v == 34) = false := beq_eq_false_iff_ne.2 (by omega)
      have e92 : (v == 92) = false := beq_eq_false_iff_ne.2 (by omega)
      have e47 : (v == 47) = false := beq_eq_false_iff_ne.2 (by omega)
      have e98 : (v == 98) = false := beq_eq_false_iff_ne.2 (by omega)
      have e102 : (v == 102) = true := beq_iff_eq.2 h
      have HM : Aside0 (mark c = some 12) := ⟨by have h1 := byte_is c 102 (by decide) (by have := HB.out; omega); rw [h1]; rfl⟩
      clear h
      go_enter Tryd.func62, Tryd.ntmps62
      go_wp2
      go_quiet (fail)
      go_wp2
      go_quiet (fail)
      go_wp2
      go_ret
      rw [← HR.out, half_two _ _ _ _ _ _ HM.out]
      exact ⟨rfl, HD.out.symm, hp2, HA2.out _ (hA.drewN _), (keep_drewN hk _).set_ _ _⟩
    · have e34 : (v == 34) = false := beq_eq_false_iff_ne.2 (by omega)
      have e92 : (v == 92) = false := beq_eq_false_iff_ne.2 (by omega)
      have e47 : (v == 47) = false := beq_eq_false_iff_ne.2 (by omega)
      have e98 : (v == 98) = false := beq_eq_false_iff_ne.2 (by omega)
      have e102 : (v == 102) = false := beq_eq_false_iff_ne.2 (by omega)
      have e110 : (v == 110) = true := beq_iff_eq.2 h
      have HM : Aside0 (mark c = some 10) := ⟨by have h1 := byte_is c 110 (by decide) (by have := HB.out; omega); rw [h1]; rfl⟩
      clear h
      go_enter Tryd.func62, Tryd.ntmps62
      go_wp2
      go_quiet (fail)
      go_wp2
      go_quiet (fail)
      go_wp2
      go_ret
      rw [← HR.out, half_two _ _ _ _ _ _ HM.out]
      exact ⟨rfl, HD.out.symm, hp2, HA2.out _ (hA.drewN _), (keep_drewN hk _).set_ _ _⟩
    · have e34 : (v == 34) = false := beq_eq_false_iff_ne.2 (by omega)
      have e92 : (v == 92) = false := beq_eq_false_iff_ne.2 (by omega)
      have e47 : (v == 47) = false := beq_eq_false_iff_ne.2 (by omega)
      have e98 : (v == 98) = false := beq_eq_false_iff_ne.2 (by omega)
      have e102 : (v == 102) = false := beq_eq_false_iff_ne.2 (by omega)
      have e110 : (v == 110) = false := beq_eq_false_iff_ne.2 (by omega)
      have e114 : (v == 114) = true := beq_iff_eq.2 h
      have HM : Aside0 (mark c = some 13) := ⟨by have h1 := byte_is c 114 (by decide) (by have := HB.out; omega); rw [h1]; rfl⟩
      clear h
      go_enter Tryd.func62, Tryd.ntmps62
      go_wp2
      go_quiet (fail)
      go_wp2
      go_quiet (fail)
      go_wp2
      go_ret
      rw [← HR.out, half_two _ _ _ _ _ _ HM.out]
      exact ⟨rfl, HD.out.symm, hp2, HA2.out _ (hA.drewN _), (keep_drewN hk _).set_ _ _⟩
    · have e34 : (v == 34) = false := beq_eq_false_iff_ne.2 (by omega)
      have e92 : (v == 92) = false := beq_eq_false_iff_ne.2 (by omega)
      have e47 : (v == 47) = false := beq_eq_false_iff_ne.2 (by omega)
      have e98 : (v == 98) = false := beq_eq_false_iff_ne.2 (by omega)
      have e102 : (v == 102) = false := beq_eq_false_iff_ne.2 (by omega)
      have e110 : (v == 110) = false := beq_eq_false_iff_ne.2 (by omega)
      have e114 : (v == 114) = false := beq_eq_false_iff_ne.2 (by omega)
      have e116 : (v == 116) = true := beq_iff_eq.2 h
      have HM : Aside0 (mark c = some 9) := ⟨by have h1 := byte_is c 116 (by decide) (by have := HB.out; omega); rw [h1]; rfl⟩
      clear h
      go_enter Tryd.func62, Tryd.ntmps62
      go_wp2
      go_quiet (fail)
      go_wp2
      go_quiet (fail)
      go_wp2
      go_ret
      rw [← HR.out, half_two _ _ _ _ _ _ HM.out]
      exact ⟨rfl, HD.out.symm, hp2, HA2.out _ (hA.drewN _), (keep_drewN hk _).set_ _ _⟩
    · have e34 : (v == 34) = false := beq_eq_false_iff_ne.2 (by omega)
      have e92 : (v == 92) = false := beq_eq_false_iff_ne.2 (by omega)
      have e47 : (v == 47) = false := beq_eq_false_iff_ne.2 (by omega)
      have e98 : (v == 98) = false := beq_eq_false_iff_ne.2 (by omega)
      have e102 : (v == 102) = false := beq_eq_false_iff_ne.2 (by omega)
      have e110 : (v == 110) = false := beq_eq_false_iff_ne.2 (by omega)
      have e114 : (v == 114) = false := beq_eq_false_iff_ne.2 (by omega)
      have e116 : (v == 116) = false := beq_eq_false_iff_ne.2 (by omega)
      have e117 : (v == 117) = true := beq_iff_eq.2 h
      have h1 : c = 117 := byte_is c 117 (by decide) (by have := HB.out; omega)
      have HM := Aside0.mk (show hex 4 (s.data.toList.drop (p + 2)) (p + 2) fr 0 = res by rw [← HR.out, half_none _ _ _ _ _ (by rw [h1]; rfl), if_pos h1, HD.out])
      clear h h1
      have hxw := fun (w' : World) (h : At w0 b s z tv w') => hex_walk w0 (w'.setCell ⟨b, 1, none⟩ (.int .i64 (z + 2))) b s (p + 2) fr tv (HA2.out w' h) hp2 hs
      rw [HM.out] at hxw
      have HX := Aside0.mk hxw
      clear hxw
      cases res with
      | no pp ee =>
        go_enter Tryd.func62, Tryd.ntmps62
        go_wp2
        go_quiet (fail)
        go_wp2
        go_quiet (fail)
        go_wp2_with (go_at_call 67; refine (HX.out _ (hA.drewN _)).mono ?_; rintro e w2 ⟨rfl, hb2⟩)
        exact ⟨rfl, rfl, hb2⟩
      | ok l2 p2 n =>
        go_enter Tryd.func62, Tryd.ntmps62
        go_wp2
        go_quiet (fail)
        go_wp2
        go_quiet (fail)
        go_wp2_with (go_at_call 67; refine (HX.out _ (hA.drewN _)).mono ?_; rintro e w2 ⟨rfl, hl2, hp3, hA3, hk3⟩; have HL := Aside0.mk hl2; clear hl2)
        go_ret
        exact ⟨rfl, HL.out, hp3, hA3, ((keep_drewN hk _).set_ 1 _).trans hk3 (.inl rfl)⟩
    · obtain ⟨h0, h1, h2, h3, h4, h5, h6, h7, h8⟩ := h
      have e34 : (v == 34) = false := beq_eq_false_iff_ne.2 (by omega)
      have e92 : (v == 92) = false := beq_eq_false_iff_ne.2 (by omega)
      have e47 : (v == 47) = false := beq_eq_false_iff_ne.2 (by omega)
      have e98 : (v == 98) = false := beq_eq_false_iff_ne.2 (by omega)
      have e102 : (v == 102) = false := beq_eq_false_iff_ne.2 (by omega)
      have e110 : (v == 110) = false := beq_eq_false_iff_ne.2 (by omega)
      have e114 : (v == 114) = false := beq_eq_false_iff_ne.2 (by omega)
      have e116 : (v == 116) = false := beq_eq_false_iff_ne.2 (by omega)
      have e117 : (v == 117) = false := beq_eq_false_iff_ne.2 (by omega)
      have HM := Aside0.mk (show R.no fr 24 = res by rw [← HR.out, half_none _ _ _ _ _ (by unfold mark; have := HB.out; rw [if_neg, if_neg, if_neg, if_neg, if_neg, if_neg] <;> (first | (rintro (h | h | h) <;> (rw [h] at this; revert this; simp; omega)) | (intro h; rw [h] at this; revert this; simp; omega))), if_neg (fun h => by have := HB.out; rw [h] at this; revert this; simp; omega)])
      clear h0 h1 h2 h3 h4 h5 h6 h7 h8
      go_enter Tryd.func62, Tryd.ntmps62
      go_wp2
      go_quiet (fail)
      go_wp2
      go_quiet (fail)
      go_wp2_with (go_at_call 35; refine (fail_walk _ _ _).mono ?_; rintro e w2 ⟨rfl, rfl⟩)
      rw [← HM.out]
      exact ⟨rfl, rfl, ((hA.drewN _).set1 _).2.1⟩
end Go.Proofs.YtldlkoncndlbhaaDoor.Js
