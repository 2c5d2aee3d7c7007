/- YtldlkoncndlbhaaDoorZB0: this session's texts PShx0, Glob, PRax0, PRax1, Rune, UtfLib, MapBool, Plain, QuotePlain, Txt, Builder, Quote, Write, Utf, StubPlain, PShx1, one behind the other (a claim holds at most 60 files). The last of them states what is proved; its conditions stand there. -/
import Derived.Test.YtldlkoncndlbhaaDoorProg
import Derived.Below
import Derived.Deep.Draws
import Derived.Deep.AppendLies
import Derived.Maps.AppendAt
import Derived.OwnWalk
import Derived.Laws.BytesArg
import Derived.Laws.MakeOwn
import Derived.Laws.OwnMore
import Derived.Deep.OwnRows
import Derived.Tactics
import Derived.Lib.ConvBytes
import Derived.Laws.Slices
import Derived.WalkKit
import Derived.KernelRfl
import Derived.RowKit3
import Derived.Deep.LoopGhost
import Derived.Deep.QuietTactic
import Derived.BigQuiet
import Derived.WideLaws
import Derived.Deep.DeepCutAuto
import Derived.Deep.CutBlock
import Derived.Deep.RegionHeld3
import Derived.Laws.Rows
import Derived.Lib.AppendStr
import Derived.ArgAppend
import Derived.Laws.IdiomCopy
import Derived.OrdersHeld
import Derived.Laws.BitsLemmas
import Derived.RowKit
import Derived.Test.YtldlkoncndlbhaaDoorWWords
import Derived.Test.YtldlkoncndlbhaaDoorWLast
import Derived.Test.YtldlkoncndlbhaaDoorWTab
import Derived.Test.YtldlkoncndlbhaaDoorWFour
import Derived.Test.YtldlkoncndlbhaaDoorWQPut
import Derived.Test.YtldlkoncndlbhaaDoorWApart
import Derived.Test.YtldlkoncndlbhaaDoorWArr
import Derived.Test.YtldlkoncndlbhaaDoorWZeros
import Derived.Test.YtldlkoncndlbhaaDoorWFoot
import Derived.Test.YtldlkoncndlbhaaDoorWKept
import Derived.Test.YtldlkoncndlbhaaDoorWShare
import Derived.Test.YtldlkoncndlbhaaDoorWN
import Derived.Test.YtldlkoncndlbhaaDoorWFootNe
import Derived.Test.YtldlkoncndlbhaaDoorWAt
import Derived.Test.YtldlkoncndlbhaaDoorWEqStruct
import Derived.Test.YtldlkoncndlbhaaDoorWRepsOne
import Derived.Test.YtldlkoncndlbhaaDoorWInv
import Derived.Test.YtldlkoncndlbhaaDoorWInvWords
import Derived.Test.YtldlkoncndlbhaaDoorWGuard
import Derived.Test.YtldlkoncndlbhaaDoorWNEv
import Derived.Test.YtldlkoncndlbhaaDoorWMore
import Derived.WalkLawsBesides
import Derived.Lib.LaidTab
import Derived.Lib.ItoaNum
import Derived.Shelf.Unicode.DecodeSlow
import Derived.Lib.ValidU
import Derived.Lib.DecodeN
import Derived.Lib.MapLaws
import Derived.Maps.OwnOps
import Derived.Maps.OwnSet
import Derived.Maps.Views
import Derived.Maps.Keyed
import Derived.Test.YtldlkoncndlbhaaDoorShelf
import Derived.Lib.RuneBytes
import Derived.Shelf.Strings.BuilderRune
import Derived.Lib.OthersKept
import Derived.Lib.TrimUEq
import Derived.Lib.TrimU
import Derived.Lib.IndexBytes

-- Laid by wip/mk/mk.py of this session (the kit's printer with this session's contracts for library functions).
namespace Go.Proofs.YtldlkoncndlbhaaDoor.PSh
open Go.RowKit Go.Proofs.YtldlkoncndlbhaaDoorW.PrintWords Go.Proofs.YtldlkoncndlbhaaDoorW.PrintLast Go.Proofs.YtldlkoncndlbhaaDoorW.PrintMore
attribute [local go_sem] max2_int min2_int max_two min_two max_three min_three max_four min_four   -- for this text's walks alone
set_option linter.unusedVariables false
set_option linter.unusedSimpArgs false



def errW : Option Int → Value
  | none => .nilIface
  | some c => .iface 0 (.int .i64 c)
theorem errW_none : errW none = .nilIface := rfl
theorem errW_some (c : Int) : errW (some c) = .iface 0 (.int .i64 c) := rfl

theorem info3 : (Tryd.prog.info? 3).map (fun i => (i.zero, i.size, i.bytes)) = some (some (.int .i64 0), 1, 8) := by kernel_rfl
theorem info4 : (Tryd.prog.info? 4).map (fun i => (i.zero, i.size, i.bytes)) = some (some (.bool false), 1, 1) := by kernel_rfl
-- the values' own types
def rd_L3 (xs : List (List ByteArray)) (i : Int) : (List ByteArray) := xs.getD i.toNat ([] : List ByteArray)
theorem at_L3 {w : World} {A : Option Addr} {n : Nat} {xs : List (List ByteArray)} (h : Kd.C (Kd.slice 9 Kd.string) w A n xs) (i : Int) (h0 : 0 ≤ i) (h1 : i < n) : ∃ ad A0 c0, A = some ad ∧ w.cell? (ad.add i.toNat) = some (.slice A0 (rd_L3 xs i).length c0) ∧ (rd_L3 xs i).length ≤ c0 ∧ Kd.string.C w A0 (rd_L3 xs i).length (rd_L3 xs i) := by
  obtain ⟨ad, c, e, _, hK, hc0⟩ := Kd.C_get h ([] : List ByteArray) i h0 h1
  have hc : ∀ j u, c[j]? = some u → w.cell? (ad.add (i.toNat * 1 + j)) = some u := hc0
  obtain ⟨A0, c0, rfl, l0, g0⟩ := hK
  exact ⟨ad, A0, c0, e, by have hq := hc 0 _ rfl; rwa [Nat.mul_one, Nat.add_zero] at hq, l0, g0⟩

def rd_L4 (xs : List (List Int)) (i : Int) : (List Int) := xs.getD i.toNat ([] : List Int)
theorem at_L4 {w : World} {A : Option Addr} {n : Nat} {xs : List (List Int)} (h : Kd.C (Kd.slice 3 (Kd.int .i64)) w A n xs) (i : Int) (h0 : 0 ≤ i) (h1 : i < n) : ∃ ad A0 c0, A = some ad ∧ w.cell? (ad.add i.toNat) = some (.slice A0 (rd_L4 xs i).length c0) ∧ (rd_L4 xs i).length ≤ c0 ∧ (Kd.int .i64).C w A0 (rd_L4 xs i).length (rd_L4 xs i) := by
  obtain ⟨ad, c, e, _, hK, hc0⟩ := Kd.C_get h ([] : List Int) i h0 h1
  have hc : ∀ j u, c[j]? = some u → w.cell? (ad.add (i.toNat * 1 + j)) = some u := hc0
  obtain ⟨A0, c0, rfl, l0, g0⟩ := hK
  exact ⟨ad, A0, c0, e, by have hq := hc 0 _ rfl; rwa [Nat.mul_one, Nat.add_zero] at hq, l0, g0⟩

/-! #### struct type 39 -/
structure S39 where
  f0 : Int
  f1 : Bool
  f2 : Int
  f3 : ByteArray
  f4 : (List ByteArray)
  f5 : (List Int)
def z39 : S39 := ⟨(0 : Int), false, (0 : Int), (⟨#[]⟩ : ByteArray), ([] : List ByteArray), ([] : List Int)⟩
def k39 : Kd S39 := Kd.iso (Kd.pair (Kd.int .i64) (Kd.pair Kd.bool (Kd.pair (Kd.int .i64) (Kd.pair Kd.string (Kd.pair (Kd.slice 9 Kd.string) (Kd.slice 3 (Kd.int .i64))))))) (fun x : S39 => (x.f0, x.f1, x.f2, x.f3, x.f4, x.f5))
theorem k39_open {w : World} {x : S39} {cs : List Value} (h : k39.K w x cs) : ∃ A4 c4 A5 c5, cs = [.int .i64 x.f0, .bool x.f1, .int .i64 x.f2, .string x.f3, .slice A4 x.f4.length c4, .slice A5 x.f5.length c5] ∧ x.f4.length ≤ c4 ∧ Kd.string.C w A4 x.f4.length x.f4 ∧ x.f5.length ≤ c5 ∧ (Kd.int .i64).C w A5 x.f5.length x.f5 := by
  obtain ⟨_, _, rfl, rfl, ⟨_, _, rfl, rfl, ⟨_, _, rfl, rfl, ⟨_, _, rfl, rfl, ⟨_, _, rfl, ⟨A4, c4, rfl, l4, g4⟩, ⟨A5, c5, rfl, l5, g5⟩⟩⟩⟩⟩⟩ := h
  exact ⟨A4, c4, A5, c5, rfl, l4, g4, l5, g5⟩
theorem k39_openM {w : World} {base : Nat} {ok : Nat → Prop} {x : S39} {cs : List Value} (h : k39.M w base ok x cs) : ∃ v4 v5, cs = [.int .i64 x.f0, .bool x.f1, .int .i64 x.f2, .string x.f3, v4, v5] ∧ Kd.string.R 9 w base ok v4 x.f4 ∧ (Kd.int .i64).R 3 w base ok v5 x.f5 := by
  obtain ⟨_, _, rfl, rfl, ⟨_, _, rfl, rfl, ⟨_, _, rfl, rfl, ⟨_, _, rfl, rfl, ⟨_, _, rfl, ⟨v4, rfl, g4⟩, ⟨v5, rfl, g5⟩⟩⟩⟩⟩⟩ := h
  exact ⟨v4, v5, rfl, g4, g5⟩
theorem k39_mk (w : World) (x : S39) {A4 : Option Addr} {c4 : Nat} (l4 : x.f4.length ≤ c4) (g4 : Kd.string.C w A4 x.f4.length x.f4) {A5 : Option Addr} {c5 : Nat} (l5 : x.f5.length ≤ c5) (g5 : (Kd.int .i64).C w A5 x.f5.length x.f5) : k39.K w x [.int .i64 x.f0, .bool x.f1, .int .i64 x.f2, .string x.f3, .slice A4 x.f4.length c4, .slice A5 x.f5.length c5] := ⟨[.int .i64 x.f0], [.bool x.f1, .int .i64 x.f2, .string x.f3, .slice A4 x.f4.length c4, .slice A5 x.f5.length c5], rfl, rfl, ⟨[.bool x.f1], [.int .i64 x.f2, .string x.f3, .slice A4 x.f4.length c4, .slice A5 x.f5.length c5], rfl, rfl, ⟨[.int .i64 x.f2], [.string x.f3, .slice A4 x.f4.length c4, .slice A5 x.f5.length c5], rfl, rfl, ⟨[.string x.f3], [.slice A4 x.f4.length c4, .slice A5 x.f5.length c5], rfl, rfl, ⟨[.slice A4 x.f4.length c4], [.slice A5 x.f5.length c5], rfl, ⟨A4, c4, rfl, l4, g4⟩, ⟨A5, c5, rfl, l5, g5⟩⟩⟩⟩⟩⟩
theorem k39_mkM (w : World) (base : Nat) (ok : Nat → Prop) (x : S39) {v4 : Value} (g4 : Kd.string.R 9 w base ok v4 x.f4) {v5 : Value} (g5 : (Kd.int .i64).R 3 w base ok v5 x.f5) : k39.M w base ok x [.int .i64 x.f0, .bool x.f1, .int .i64 x.f2, .string x.f3, v4, v5] := ⟨[.int .i64 x.f0], [.bool x.f1, .int .i64 x.f2, .string x.f3, v4, v5], rfl, rfl, ⟨[.bool x.f1], [.int .i64 x.f2, .string x.f3, v4, v5], rfl, rfl, ⟨[.int .i64 x.f2], [.string x.f3, v4, v5], rfl, rfl, ⟨[.string x.f3], [v4, v5], rfl, rfl, ⟨[v4], [v5], rfl, ⟨v4, rfl, g4⟩, ⟨v5, rfl, g5⟩⟩⟩⟩⟩⟩
def rd_T39 (xs : List S39) (i : Int) : S39 := xs.getD i.toNat z39
theorem at_T39 {w : World} {A : Option Addr} {n : Nat} {xs : List S39} (h : Kd.C k39 w A n xs) (i : Int) (h0 : 0 ≤ i) (h1 : i < n) : ∃ ad A4 c4 A5 c5, A = some ad ∧ w.cell? (ad.add (i.toNat * 6)) = some (.int .i64 (rd_T39 xs i).f0) ∧ w.cell? ⟨(ad.add (i.toNat * 6)).block, (ad.add (i.toNat * 6)).off + 1, none⟩ = some (.bool (rd_T39 xs i).f1) ∧ w.cell? ⟨(ad.add (i.toNat * 6)).block, (ad.add (i.toNat * 6)).off + 2, none⟩ = some (.int .i64 (rd_T39 xs i).f2) ∧ w.cell? ⟨(ad.add (i.toNat * 6)).block, (ad.add (i.toNat * 6)).off + 3, none⟩ = some (.string (rd_T39 xs i).f3) ∧ w.cell? ⟨(ad.add (i.toNat * 6)).block, (ad.add (i.toNat * 6)).off + 4, none⟩ = some (.slice A4 (rd_T39 xs i).f4.length c4) ∧ w.cell? ⟨(ad.add (i.toNat * 6)).block, (ad.add (i.toNat * 6)).off + 5, none⟩ = some (.slice A5 (rd_T39 xs i).f5.length c5) ∧ (rd_T39 xs i).f4.length ≤ c4 ∧ Kd.string.C w A4 (rd_T39 xs i).f4.length (rd_T39 xs i).f4 ∧ (rd_T39 xs i).f5.length ≤ c5 ∧ (Kd.int .i64).C w A5 (rd_T39 xs i).f5.length (rd_T39 xs i).f5 := by
  obtain ⟨ad, c, e, _, hK, hc0⟩ := Kd.C_get h z39 i h0 h1
  have hc : ∀ j u, c[j]? = some u → w.cell? (ad.add (i.toNat * 6 + j)) = some u := hc0
  obtain ⟨A4, c4, A5, c5, rfl, l4, g4, l5, g5⟩ := k39_open hK
  exact ⟨ad, A4, c4, A5, c5, e, hc 0 _ rfl, by rw [← add_field _ _ 1 (by omega)]; exact hc 1 _ rfl, by rw [← add_field _ _ 2 (by omega)]; exact hc 2 _ rfl, by rw [← add_field _ _ 3 (by omega)]; exact hc 3 _ rfl, by rw [← add_field _ _ 4 (by omega)]; exact hc 4 _ rfl, by rw [← add_field _ _ 5 (by omega)]; exact hc 5 _ rfl, l4, g4, l5, g5⟩

end Go.Proofs.YtldlkoncndlbhaaDoor.PSh

/- What the package-level tables hold that the layer's functions read: the powers of ten, and unicode/utf8's two tables. -/
namespace Go.Proofs.YtldlkoncndlbhaaDoor
open Go.RowKit Go.Proofs.YtldlkoncndlbhaaDoorW.PrintWords

def Glob (w : World) : Prop := Lib.TabIs Tryd.prog w "internal/strconv.uint64pow10" .u64 Lib.pow10Tab ∧ Lib.Utf8Tabs 0 1 w
theorem g_pow : Tryd.prog.globalNamed "internal/strconv.uint64pow10" = some 2 := by kernel_rfl
theorem var_below {n : String} {g : Nat} {cs : Array Value} {w w' : World} (hb : Below w.heap.size w w') (hg : Tryd.prog.globalNamed n = some g) (hne : 0 < cs.size) (hv : w.var? Tryd.prog n = some cs) : w'.var? Tryd.prog n = some cs := by
  refine var?_below hb hg ?_ hv
  have h := World.var?_cell hg hv 0
  rw [Array.getElem?_eq_getElem hne] at h
  exact World.block_lt_of_cell? w _ h
theorem Glob.below {w w' : World} (h : Glob w) (hb : Below w.heap.size w w') : Glob w' := ⟨var_below hb g_pow (by decide +kernel) h.1, Utf8Tabs_below h.2 hb⟩
theorem Glob.drewN {w : World} (h : Glob w) (n : Nat) : Glob (w.drewN n) := h.below (pw_below_drewN (Below.refl _ _) n)
theorem Glob.drew {w : World} (h : Glob w) : Glob w.drew := h.below (below_drew (Below.refl _ _))

end Go.Proofs.YtldlkoncndlbhaaDoor

-- Laid by wip/mk/mk.py of this session (the kit's printer with this session's contracts for library functions).
namespace Go.Proofs.YtldlkoncndlbhaaDoor.PRa
open Go.RowKit Go.Proofs.YtldlkoncndlbhaaDoorW.PrintWords Go.Proofs.YtldlkoncndlbhaaDoorW.PrintLast Go.Proofs.YtldlkoncndlbhaaDoorW.PrintMore
attribute [local go_sem] max2_int min2_int max_two min_two max_three min_three max_four min_four   -- for this text's walks alone
set_option linter.unusedVariables false
set_option linter.unusedSimpArgs false



def errW : Option Int → Value
  | none => .nilIface
  | some c => .iface 0 (.int .i64 c)
theorem errW_none : errW none = .nilIface := rfl
theorem errW_some (c : Int) : errW (some c) = .iface 0 (.int .i64 c) := rfl

-- the values' own types

end Go.Proofs.YtldlkoncndlbhaaDoor.PRa

-- Laid by wip/mk/mk.py of this session (the kit's printer with this session's contracts for library functions).
namespace Go.Proofs.YtldlkoncndlbhaaDoor.PRa
open Go.RowKit Go.Proofs.YtldlkoncndlbhaaDoorW.PrintWords Go.Proofs.YtldlkoncndlbhaaDoorW.PrintLast Go.Proofs.YtldlkoncndlbhaaDoorW.PrintMore
attribute [local go_sem] max2_int min2_int max_two min_two max_three min_three max_four min_four   -- for this text's walks alone
set_option linter.unusedVariables false
set_option linter.unusedSimpArgs false

/-! ### haulierref02_Rune: function 36 -/
mutual
def haulierref02_Rune.j2 : Nat → List Int → Int → Int → Int → Option (Int)
  | 0, _, _, _, _ => none
  | k + 1, x0, x3, x4, x6 => if x3 = 0 then (haulierref02_Rune.j3 k x0 x3 x4 x6 true) else (haulierref02_Rune.j3 k x0 x3 x4 x6 (decide ((x0.length : Int) < x3)))
def haulierref02_Rune.j3 : Nat → List Int → Int → Int → Int → Bool → Option (Int)
  | 0, _, _, _, _, _ => none
  | k + 1, x0, x3, x4, x6, x49 => if x49 = true then (some 0) else (haulierref02_Rune.l0 k x0 x3 x4 x6 1)
def haulierref02_Rune.l0 : Nat → List Int → Int → Int → Int → Int → Option (Int)
  | 0, _, _, _, _, _ => none
  | k + 1, x0, x3, x4, x6, x7 => if x7 < x3 then (if 0 ≤ x7 then (if x7 < (x0.length : Int) then (if ((rd x0 x7) / 64) = 2 then (haulierref02_Rune.l0 k x0 x3 x4 (Go.bits .or .i64 (wrap64 (x6 * 64)) (wrap64 (Go.bits .and .u8 (rd x0 x7) 63))) (wrap64 (x7 + 1))) else (some 0)) else (none)) else (none)) else (if x6 < x4 then (some 0) else (if x6 > 1114111 then (some 0) else (if x6 ≥ 55296 then (if x6 < 57344 then (some 0) else (some x3)) else (some x3))))
def haulierref02_Rune.j0 : Nat → List Int → Int → Int → Int → Int → Bool → Option (Int)
  | 0, _, _, _, _, _, _ => none
  | k + 1, x0, x3, x4, x5, x6, x15 => if x15 = true then (haulierref02_Rune.j2 k x0 2 128 (Go.bits .and .i64 x5 31)) else (if x5 ≥ 224 then (haulierref02_Rune.j1 k x0 x3 x4 x5 x6 (decide (x5 < 240))) else (haulierref02_Rune.j1 k x0 x3 x4 x5 x6 false))
def haulierref02_Rune.j1 : Nat → List Int → Int → Int → Int → Int → Bool → Option (Int)
  | 0, _, _, _, _, _, _ => none
  | k + 1, x0, x3, x4, x5, x6, x24 => if x24 = true then (haulierref02_Rune.j2 k x0 3 2048 (Go.bits .and .i64 x5 15)) else (if x5 ≥ 240 then (if x5 < 245 then (haulierref02_Rune.j2 k x0 4 65536 (Go.bits .and .i64 x5 7)) else (haulierref02_Rune.j2 k x0 x3 x4 x6)) else (haulierref02_Rune.j2 k x0 x3 x4 x6))
end
def haulierref02_Rune.f (k : Nat) (l0 : List Int) : Option (Int) := if 0 < (l0.length : Int) then (if (wrap64 (rd l0 0)) < 128 then (some 1) else (if (wrap64 (rd l0 0)) ≥ 194 then (haulierref02_Rune.j0 k l0 0 0 (wrap64 (rd l0 0)) 0 (decide ((wrap64 (rd l0 0)) < 224))) else (haulierref02_Rune.j0 k l0 0 0 (wrap64 (rd l0 0)) 0 false))) else (none)
theorem haulierref02_Rune.mono_l : ∀ k, (∀ y0 y1 y2 y3, LeO (haulierref02_Rune.j2 k y0 y1 y2 y3) (haulierref02_Rune.j2 (k + 1) y0 y1 y2 y3)) ∧ (∀ y0 y1 y2 y3 y4, LeO (haulierref02_Rune.j3 k y0 y1 y2 y3 y4) (haulierref02_Rune.j3 (k + 1) y0 y1 y2 y3 y4)) ∧ (∀ y0 y1 y2 y3 y4, LeO (haulierref02_Rune.l0 k y0 y1 y2 y3 y4) (haulierref02_Rune.l0 (k + 1) y0 y1 y2 y3 y4)) ∧ (∀ y0 y1 y2 y3 y4 y5, LeO (haulierref02_Rune.j0 k y0 y1 y2 y3 y4 y5) (haulierref02_Rune.j0 (k + 1) y0 y1 y2 y3 y4 y5)) ∧ (∀ y0 y1 y2 y3 y4 y5, LeO (haulierref02_Rune.j1 k y0 y1 y2 y3 y4 y5) (haulierref02_Rune.j1 (k + 1) y0 y1 y2 y3 y4 y5))
  | 0 => ⟨fun _ _ _ _ r h => by simp [haulierref02_Rune.j2] at h, fun _ _ _ _ _ r h => by simp [haulierref02_Rune.j3] at h, fun _ _ _ _ _ r h => by simp [haulierref02_Rune.l0] at h, fun _ _ _ _ _ _ r h => by simp [haulierref02_Rune.j0] at h, fun _ _ _ _ _ _ r h => by simp [haulierref02_Rune.j1] at h⟩
  | k + 1 => by
    obtain ⟨ih0, ih1, ih2, ih3, ih4⟩ := haulierref02_Rune.mono_l k
    refine ⟨?_, ?_, ?_, ?_, ?_⟩
    · intro y0 y1 y2 y3
      unfold haulierref02_Rune.j2
      repeat' first
      | (with_reducible exact ih0 _ _ _ _)
      | (with_reducible exact ih1 _ _ _ _ _)
      | (with_reducible exact ih2 _ _ _ _ _)
      | (with_reducible exact ih3 _ _ _ _ _ _)
      | (with_reducible exact ih4 _ _ _ _ _ _)
      | (with_reducible exact LeO.refl _)
      | (with_reducible exact LeO.none _)
      | (with_reducible refine LeO.ite ?_ ?_)
      | (with_reducible refine LeO.bind ?_ (fun _ => ?_))
      | exact ih0 _ _ _ _
      | exact ih1 _ _ _ _ _
      | exact ih2 _ _ _ _ _
      | exact ih3 _ _ _ _ _ _
      | exact ih4 _ _ _ _ _ _
      | exact LeO.none _
      | refine LeO.ite ?_ ?_
      | refine LeO.bind ?_ (fun _ => ?_)
    · intro y0 y1 y2 y3 y4
      unfold haulierref02_Rune.j3
      repeat' first
      | (with_reducible exact ih0 _ _ _ _)
      | (with_reducible exact ih1 _ _ _ _ _)
      | (with_reducible exact ih2 _ _ _ _ _)
      | (with_reducible exact ih3 _ _ _ _ _ _)
      | (with_reducible exact ih4 _ _ _ _ _ _)
      | (with_reducible exact LeO.refl _)
      | (with_reducible exact LeO.none _)
      | (with_reducible refine LeO.ite ?_ ?_)
      | (with_reducible refine LeO.bind ?_ (fun _ => ?_))
      | exact ih0 _ _ _ _
      | exact ih1 _ _ _ _ _
      | exact ih2 _ _ _ _ _
      | exact ih3 _ _ _ _ _ _
      | exact ih4 _ _ _ _ _ _
      | exact LeO.none _
      | refine LeO.ite ?_ ?_
      | refine LeO.bind ?_ (fun _ => ?_)
    · intro y0 y1 y2 y3 y4
      unfold haulierref02_Rune.l0
      repeat' first
      | (with_reducible exact ih0 _ _ _ _)
      | (with_reducible exact ih1 _ _ _ _ _)
      | (with_reducible exact ih2 _ _ _ _ _)
      | (with_reducible exact ih3 _ _ _ _ _ _)
      | (with_reducible exact ih4 _ _ _ _ _ _)
      | (with_reducible exact LeO.refl _)
      | (with_reducible exact LeO.none _)
      | (with_reducible refine LeO.ite ?_ ?_)
      | (with_reducible refine LeO.bind ?_ (fun _ => ?_))
      | exact ih0 _ _ _ _
      | exact ih1 _ _ _ _ _
      | exact ih2 _ _ _ _ _
      | exact ih3 _ _ _ _ _ _
      | exact ih4 _ _ _ _ _ _
      | exact LeO.none _
      | refine LeO.ite ?_ ?_
      | refine LeO.bind ?_ (fun _ => ?_)
    · intro y0 y1 y2 y3 y4 y5
      unfold haulierref02_Rune.j0
      repeat' first
      | (with_reducible exact ih0 _ _ _ _)
      | (with_reducible exact ih1 _ _ _ _ _)
      | (with_reducible exact ih2 _ _ _ _ _)
      | (with_reducible exact ih3 _ _ _ _ _ _)
      | (with_reducible exact ih4 _ _ _ _ _ _)
      | (with_reducible exact LeO.refl _)
      | (with_reducible exact LeO.none _)
      | (with_reducible refine LeO.ite ?_ ?_)
      | (with_reducible refine LeO.bind ?_ (fun _ => ?_))
      | exact ih0 _ _ _ _
      | exact ih1 _ _ _ _ _
      | exact ih2 _ _ _ _ _
      | exact ih3 _ _ _ _ _ _
      | exact ih4 _ _ _ _ _ _
      | exact LeO.none _
      | refine LeO.ite ?_ ?_
      | refine LeO.bind ?_ (fun _ => ?_)
    · intro y0 y1 y2 y3 y4 y5
      unfold haulierref02_Rune.j1
      repeat' first
      | (with_reducible exact ih0 _ _ _ _)
      | (with_reducible exact ih1 _ _ _ _ _)
      | (with_reducible exact ih2 _ _ _ _ _)
      | (with_reducible exact ih3 _ _ _ _ _ _)
      | (with_reducible exact ih4 _ _ _ _ _ _)
      | (with_reducible exact LeO.refl _)
      | (with_reducible exact LeO.none _)
      | (with_reducible refine LeO.ite ?_ ?_)
      | (with_reducible refine LeO.bind ?_ (fun _ => ?_))
      | exact ih0 _ _ _ _
      | exact ih1 _ _ _ _ _
      | exact ih2 _ _ _ _ _
      | exact ih3 _ _ _ _ _ _
      | exact ih4 _ _ _ _ _ _
      | exact LeO.none _
      | refine LeO.ite ?_ ?_
      | refine LeO.bind ?_ (fun _ => ?_)
theorem haulierref02_Rune.mono : ∀ a0 k, LeO (haulierref02_Rune.f k a0) (haulierref02_Rune.f (k + 1) a0) := by
  intro a0 k
  obtain ⟨ih0, ih1, ih2, ih3, ih4⟩ := haulierref02_Rune.mono_l k
  unfold haulierref02_Rune.f
  repeat' first
      | (with_reducible exact ih0 _ _ _ _)
      | (with_reducible exact ih1 _ _ _ _ _)
      | (with_reducible exact ih2 _ _ _ _ _)
      | (with_reducible exact ih3 _ _ _ _ _ _)
      | (with_reducible exact ih4 _ _ _ _ _ _)
      | (with_reducible exact LeO.refl _)
      | (with_reducible exact LeO.none _)
      | (with_reducible refine LeO.ite ?_ ?_)
      | (with_reducible refine LeO.bind ?_ (fun _ => ?_))
      | exact ih0 _ _ _ _
      | exact ih1 _ _ _ _ _
      | exact ih2 _ _ _ _ _
      | exact ih3 _ _ _ _ _ _
      | exact ih4 _ _ _ _ _ _
      | exact LeO.none _
      | refine LeO.ite ?_ ?_
      | refine LeO.bind ?_ (fun _ => ?_)
set_option maxHeartbeats 8000000 in
set_option maxRecDepth 100000 in
theorem haulierref02_Rune.calls (k : Nat) (A0 : Option Addr) (c0 : Nat) (l0 : List Int) (r : Int) (w : World) (hG : Aside0 (Glob w)) (hr0 : Kd.C (Kd.int .u8) w A0 l0.length l0) (hc0 : l0.length ≤ c0) (h : haulierref02_Rune.f k l0 = some r) :
    Calls Tryd.prog 36 #[.slice A0 l0.length c0] w fun e w' => e = .returned (.int .i64 r) ∧ Drawn0 w w' := by
  have HR0 := Aside0.mk hr0
  have HC0 := Aside0.mk hc0
  clear hr0 hc0
  have H : (if 0 < (l0.length : Int) then (if (wrap64 (rd l0 0)) < 128 then (some 1) else (if (wrap64 (rd l0 0)) ≥ 194 then (haulierref02_Rune.j0 k l0 0 0 (wrap64 (rd l0 0)) 0 (decide ((wrap64 (rd l0 0)) < 224))) else (haulierref02_Rune.j0 k l0 0 0 (wrap64 (rd l0 0)) 0 false))) else (none)) = some r := h
  clear h
  by_cases c2 : 0 < (l0.length : Int)
  · rw [if_pos c2] at H
    have c2b0 : decide (0 < (l0.length : Int)) = true := decide_eq_true c2
    have c2b1 : decide (0 < l0.length) = true := decide_eq_true (by omega)
    clear c2
    have HC3 := Aside0.mk H
    clear H
    have p101 : 0 ≤ (0 : Int) := (by omega)
    have q101 : 0 < (l0.length : Int) := of_decide_eq_true (by first | (with_reducible assumption) | assumption)
    obtain ⟨ad101, e101, hx101_0⟩ := Kd.at_int HR0.out 0 p101 q101
    cases e101
    have qi101 : (0 < l0.length) = True := eq_true (by omega)
    (try rw [show ((0 : Int)).toNat = 0 from rfl] at hx101_0)
    (try rw [Addr.add_zero'] at hx101_0)
    replace p101 := eq_true p101
    replace q101 := eq_true q101
    go_enter Tryd.func36, Tryd.ntmps36
    go_upto_block 0 with (fail)
    go_cut [3, 4, 6] (fun v3 v4 v6 wc => ∃ (kq : Nat) (x3_2 : Int) (x4_2 : Int) (x6_2 : Int), v3 = .int .i64 x3_2 ∧ v4 = .int .i64 x4_2 ∧ v6 = .int .i64 x6_2 ∧ Aside0 (haulierref02_Rune.j2 kq l0 x3_2 x4_2 x6_2 = some r) ∧ Aside0 (kq ≤ k) ∧ Drawn0 w wc)
    case first =>
      have H := HC3.out
      clear HC3
      by_cases c4 : (wrap64 (rd l0 0)) < 128
      · rw [if_pos c4] at H
        have c4b0 : decide ((wrap64 (rd l0 0)) < 128) = true := decide_eq_true c4
        clear c4
        (first | rw [c4b0] | (simp only [i64_w, i32_w]; rw [c4b0]) | skip)
        obtain rfl := Option.some.inj H
        go_wp2
        go_ret
        exact ⟨by first | rfl | (simp; done) | (simp [*]; done), by repeat (first | exact Drawn0.refl _ | apply Drawn0.step)⟩
      · rw [if_neg c4] at H
        have c4b0 : decide ((wrap64 (rd l0 0)) < 128) = false := decide_eq_false c4
        clear c4
        (first | rw [c4b0] | (simp only [i64_w, i32_w]; rw [c4b0]) | skip)
        have HC5 := Aside0.mk H
        clear H
        go_upto_region 6 with (fail)
        go_cut [15] (fun v15 wc => ∃ (kq : Nat) (x15_4 : Bool), v15 = .bool x15_4 ∧ Aside0 (haulierref02_Rune.j0 kq l0 0 0 (wrap64 (rd l0 0)) 0 x15_4 = some r) ∧ Aside0 (kq ≤ k) ∧ Drawn0 w wc)
        case first =>
          have H := HC5.out
          clear HC5
          by_cases c6 : (wrap64 (rd l0 0)) ≥ 194
          · rw [if_pos c6] at H
            have c6b0 : decide (194 ≤ (wrap64 (rd l0 0))) = true := decide_eq_true c6
            clear c6
            (first | rw [c6b0] | (simp only [i64_w, i32_w]; rw [c6b0]) | skip)
            have H' := Aside0.mk H
            clear H
            go_wp2
            go_meet
            case rel => exact ⟨_, (decide ((wrap64 (rd l0 0)) < 224)), (by first | rfl | (simp; done) | (simp [*]; done)), H', ⟨by first | omega | exact Nat.le_refl _⟩, by repeat (first | exact Drawn0.refl _ | apply Drawn0.step)⟩
          · rw [if_neg c6] at H
            have c6b0 : decide (194 ≤ (wrap64 (rd l0 0))) = false := decide_eq_false c6
            clear c6
            (first | rw [c6b0] | (simp only [i64_w, i32_w]; rw [c6b0]) | skip)
            have H' := Aside0.mk H
            clear H
            go_wp2
            go_meet
            case rel => exact ⟨_, (false), (by first | rfl | (simp; done) | (simp [*]; done)), H', ⟨by first | omega | exact Nat.le_refl _⟩, by repeat (first | exact Drawn0.refl _ | apply Drawn0.step)⟩
        case rest =>
          clear HC5
          try clear p1
          try clear q1
          try clear hx1
          try clear qi1
          try clear c2
          try clear c2b0
          try clear c2b1
          try clear p2
          try clear c3
          try clear c4
          try clear c4b0
          try clear c6
          try clear c6b0
          try clear p6
          try clear hx101_0
          try clear p101
          try clear q101
          obtain ⟨kq, x15_4, rfl, HA, HJ4, ⟨mc4, rfl⟩⟩ := hcut
          cases kq with
          | zero => exact absurd HA.out (by simp [haulierref02_Rune.j0])
          | succ kj4 =>
            have H := HA.out
            clear HA
            simp only [haulierref02_Rune.j0] at H
            by_cases c7 : x15_4 = true
            · subst c7
              have H1 : (haulierref02_Rune.j2 kj4 l0 2 128 (Go.bits .and .i64 (wrap64 (rd l0 0)) 31)) = some r := by rw [if_pos rfl] at H; exact H
              clear H
              have H := H1
              clear H1
              have H' := Aside0.mk H
              clear H
              go_wp2
              go_meet
              case rel => exact ⟨_, (2), (128), (Go.bits .and .i64 (wrap64 (rd l0 0)) 31), (by first | rfl | (simp; done) | (simp [*]; done)), (by first | rfl | (simp; done) | (simp [*]; done)), (by first | rfl | (simp; done) | (simp [*]; done)), H', ⟨by have := HJ4.out; first | omega | exact Nat.le_refl _⟩, by repeat (first | exact Drawn0.refl _ | apply Drawn0.step)⟩
            · replace c7 := Bool.eq_false_iff.mpr c7
              subst c7
              have H1 : (if (wrap64 (rd l0 0)) ≥ 224 then (haulierref02_Rune.j1 kj4 l0 0 0 (wrap64 (rd l0 0)) 0 (decide ((wrap64 (rd l0 0)) < 240))) else (haulierref02_Rune.j1 kj4 l0 0 0 (wrap64 (rd l0 0)) 0 false)) = some r := by rw [if_neg (show ¬ (false = true) by decide)] at H; exact H
              clear H
              have H := H1
              clear H1
              have HC8 := Aside0.mk H
              clear H
              go_upto_region 8 with (fail)
              go_cut [24] (fun v24 wc => ∃ (kq : Nat) (x24_7 : Bool), v24 = .bool x24_7 ∧ Aside0 (haulierref02_Rune.j1 kq l0 0 0 (wrap64 (rd l0 0)) 0 x24_7 = some r) ∧ Aside0 (kq ≤ kj4) ∧ Drawn0 w wc)
              case first =>
                have H := HC8.out
                clear HC8
                by_cases c9 : (wrap64 (rd l0 0)) ≥ 224
                · rw [if_pos c9] at H
                  have c9b0 : decide (224 ≤ (wrap64 (rd l0 0))) = true := decide_eq_true c9
                  clear c9
                  (first | rw [c9b0] | (simp only [i64_w, i32_w]; rw [c9b0]) | skip)
                  have H' := Aside0.mk H
                  clear H
                  go_wp2
                  go_meet
                  case rel => exact ⟨_, (decide ((wrap64 (rd l0 0)) < 240)), (by first | rfl | (simp; done) | (simp [*]; done)), H', ⟨by have := HJ4.out; first | omega | exact Nat.le_refl _⟩, by repeat (first | exact Drawn0.refl _ | apply Drawn0.step)⟩
                · rw [if_neg c9] at H
                  have c9b0 : decide (224 ≤ (wrap64 (rd l0 0))) = false := decide_eq_false c9
                  clear c9
                  (first | rw [c9b0] | (simp only [i64_w, i32_w]; rw [c9b0]) | skip)
                  have H' := Aside0.mk H
                  clear H
                  go_wp2
                  go_meet
                  case rel => exact ⟨_, (false), (by first | rfl | (simp; done) | (simp [*]; done)), H', ⟨by have := HJ4.out; first | omega | exact Nat.le_refl _⟩, by repeat (first | exact Drawn0.refl _ | apply Drawn0.step)⟩
              case rest =>
                clear HC8
                try clear p1
                try clear q1
                try clear hx1
                try clear qi1
                try clear c2
                try clear c2b0
                try clear c2b1
                try clear p2
                try clear c3
                try clear c4
                try clear c4b0
                try clear c6
                try clear c6b0
                try clear p6
                try clear c7
                try clear c9
                try clear c9b0
                try clear hx101_0
                try clear p1
                try clear p101
                try clear p2
                try clear p6
                try clear q1
                try clear q101
                obtain ⟨kq, x24_7, rfl, HA, HJ7, ⟨mc7, rfl⟩⟩ := hcut
                cases kq with
                | zero => exact absurd HA.out (by simp [haulierref02_Rune.j1])
                | succ kj7 =>
                  have H := HA.out
                  clear HA
                  simp only [haulierref02_Rune.j1] at H
                  by_cases c10 : x24_7 = true
                  · subst c10
                    have H1 : (haulierref02_Rune.j2 kj7 l0 3 2048 (Go.bits .and .i64 (wrap64 (rd l0 0)) 15)) = some r := by rw [if_pos rfl] at H; exact H
                    clear H
                    have H := H1
                    clear H1
                    have H' := Aside0.mk H
                    clear H
                    go_wp2
                    go_meet
                    case rel => exact ⟨_, (3), (2048), (Go.bits .and .i64 (wrap64 (rd l0 0)) 15), (by first | rfl | (simp; done) | (simp [*]; done)), (by first | rfl | (simp; done) | (simp [*]; done)), (by first | rfl | (simp; done) | (simp [*]; done)), H', ⟨by have := HJ4.out; have := HJ7.out; first | omega | exact Nat.le_refl _⟩, by repeat (first | exact Drawn0.refl _ | apply Drawn0.step)⟩
                  · replace c10 := Bool.eq_false_iff.mpr c10
                    subst c10
                    have H1 : (if (wrap64 (rd l0 0)) ≥ 240 then (if (wrap64 (rd l0 0)) < 245 then (haulierref02_Rune.j2 kj7 l0 4 65536 (Go.bits .and .i64 (wrap64 (rd l0 0)) 7)) else (haulierref02_Rune.j2 kj7 l0 0 0 0)) else (haulierref02_Rune.j2 kj7 l0 0 0 0)) = some r := by rw [if_neg (show ¬ (false = true) by decide)] at H; exact H
                    clear H
                    have H := H1
                    clear H1
                    by_cases c11 : (wrap64 (rd l0 0)) ≥ 240
                    · rw [if_pos c11] at H
                      have c11b0 : decide (240 ≤ (wrap64 (rd l0 0))) = true := decide_eq_true c11
                      clear c11
                      by_cases c12 : (wrap64 (rd l0 0)) < 245
                      · rw [if_pos c12] at H
                        have c12b0 : decide ((wrap64 (rd l0 0)) < 245) = true := decide_eq_true c12
                        clear c12
                        have H' := Aside0.mk H
                        clear H
                        go_wp2
                        go_meet
                        case rel => exact ⟨_, (4), (65536), (Go.bits .and .i64 (wrap64 (rd l0 0)) 7), (by first | rfl | (simp; done) | (simp [*]; done)), (by first | rfl | (simp; done) | (simp [*]; done)), (by first | rfl | (simp; done) | (simp [*]; done)), H', ⟨by have := HJ4.out; have := HJ7.out; first | omega | exact Nat.le_refl _⟩, by repeat (first | exact Drawn0.refl _ | apply Drawn0.step)⟩
                      · rw [if_neg c12] at H
                        have c12b0 : decide ((wrap64 (rd l0 0)) < 245) = false := decide_eq_false c12
                        clear c12
                        have H' := Aside0.mk H
                        clear H
                        go_wp2
                        go_meet
                        case rel => exact ⟨_, (0), (0), (0), (by first | rfl | (simp; done) | (simp [*]; done)), (by first | rfl | (simp; done) | (simp [*]; done)), (by first | rfl | (simp; done) | (simp [*]; done)), H', ⟨by have := HJ4.out; have := HJ7.out; first | omega | exact Nat.le_refl _⟩, by repeat (first | exact Drawn0.refl _ | apply Drawn0.step)⟩
                    · rw [if_neg c11] at H
                      have c11b0 : decide (240 ≤ (wrap64 (rd l0 0))) = false := decide_eq_false c11
                      clear c11
                      have H' := Aside0.mk H
                      clear H
                      go_wp2
                      go_meet
                      case rel => exact ⟨_, (0), (0), (0), (by first | rfl | (simp; done) | (simp [*]; done)), (by first | rfl | (simp; done) | (simp [*]; done)), (by first | rfl | (simp; done) | (simp [*]; done)), H', ⟨by have := HJ4.out; have := HJ7.out; first | omega | exact Nat.le_refl _⟩, by repeat (first | exact Drawn0.refl _ | apply Drawn0.step)⟩
    case rest =>
      clear HC3
      try clear c1
      try clear p1
      try clear q1
      try clear hx1
      try clear qi1
      try clear c2
      try clear c2b0
      try clear c2b1
      try clear p2
      try clear c3
      try clear c4
      try clear c4b0
      try clear c6
      try clear c6b0
      try clear p6
      try clear c7
      try clear c9
      try clear c9b0
      try clear c10
      try clear p10
      try clear q10
      try clear hx10
      try clear qi10
      try clear c11
      try clear c11b0
      try clear c12
      try clear c12b0
      try clear hx101_0
      try clear p1
      try clear p101
      try clear p2
      try clear p6
      try clear q1
      try clear q101
      obtain ⟨kq, x3_2, x4_2, x6_2, rfl, rfl, rfl, HA, HJ2, ⟨mc2, rfl⟩⟩ := hcut
      cases kq with
      | zero => exact absurd HA.out (by simp [haulierref02_Rune.j2])
      | succ kj2 =>
        have H := HA.out
        clear HA
        simp only [haulierref02_Rune.j2] at H
        have HC13 := Aside0.mk H
        clear H
        go_upto_region 12 with (fail)
        go_cut [49] (fun v49 wc => ∃ (kq : Nat) (x49_12 : Bool), v49 = .bool x49_12 ∧ Aside0 (haulierref02_Rune.j3 kq l0 x3_2 x4_2 x6_2 x49_12 = some r) ∧ Aside0 (kq ≤ kj2) ∧ Drawn0 w wc)
        case first =>
          have H := HC13.out
          clear HC13
          by_cases c14 : x3_2 = 0
          · rw [if_pos c14] at H
            have c14b0 : (x3_2 == 0) = true := beq_iff_eq.mpr c14
            have c14b1 : (x3_2 != 0) = false := bne_eq_false_iff_eq.mpr c14
            clear c14
            (first | rw [c14b0] | (simp only [i64_w, i32_w]; rw [c14b0]) | skip)
            have H' := Aside0.mk H
            clear H
            go_wp2
            go_meet
            case rel => exact ⟨_, (true), (by first | rfl | (simp; done) | (simp [*]; done)), H', ⟨by have := HJ2.out; first | omega | exact Nat.le_refl _⟩, by repeat (first | exact Drawn0.refl _ | apply Drawn0.step)⟩
          · rw [if_neg c14] at H
            have c14b0 : (x3_2 == 0) = false := beq_eq_false_iff_ne.mpr c14
            have c14b1 : (x3_2 != 0) = true := bne_iff_ne.mpr c14
            (first | rw [c14b0] | (simp only [i64_w, i32_w]; rw [c14b0]) | skip)
            have H' := Aside0.mk H
            clear H
            go_wp2
            go_meet
            case rel => exact ⟨_, (decide ((l0.length : Int) < x3_2)), (by first | rfl | (simp; done) | (simp [*]; done)), H', ⟨by have := HJ2.out; first | omega | exact Nat.le_refl _⟩, by repeat (first | exact Drawn0.refl _ | apply Drawn0.step)⟩
        case rest =>
          clear HC13
          try clear c1
          try clear p1
          try clear q1
          try clear hx1
          try clear qi1
          try clear c2
          try clear c2b0
          try clear c2b1
          try clear p2
          try clear c3
          try clear c4
          try clear c4b0
          try clear c6
          try clear c6b0
          try clear p6
          try clear c7
          try clear c9
          try clear c9b0
          try clear c10
          try clear p10
          try clear q10
          try clear hx10
          try clear qi10
          try clear c11
          try clear c11b0
          try clear c12
          try clear c12b0
          try clear c14
          try clear c14b0
          try clear c14b1
          try clear hx101_0
          try clear p1
          try clear p10
          try clear p101
          try clear p2
          try clear p6
          try clear q1
          try clear q10
          try clear q101
          obtain ⟨kq, x49_12, rfl, HA, HJ12, ⟨mc12, rfl⟩⟩ := hcut
          cases kq with
          | zero => exact absurd HA.out (by simp [haulierref02_Rune.j3])
          | succ kj12 =>
            have H := HA.out
            clear HA
            simp only [haulierref02_Rune.j3] at H
            by_cases c15 : x49_12 = true
            · subst c15
              have H1 : (some 0) = some r := by rw [if_pos rfl] at H; exact H
              clear H
              have H := H1
              clear H1
              obtain rfl := Option.some.inj H
              go_wp2
              go_ret
              exact ⟨by first | rfl | (simp; done) | (simp [*]; done), by repeat (first | exact Drawn0.refl _ | apply Drawn0.step)⟩
            · replace c15 := Bool.eq_false_iff.mpr c15
              subst c15
              have H1 : (haulierref02_Rune.l0 kj12 l0 x3_2 x4_2 x6_2 1) = some r := by rw [if_neg (show ¬ (false = true) by decide)] at H; exact H
              clear H
              have H := H1
              clear H1
              have H' := Aside0.mk H
              clear H
              go_wp2
              go_loopg [6, 7] kj12 (fun kq v6 v7 w' => ∃ (x6_3 : Int) (x7_3 : Int), v6 = .int .i64 x6_3 ∧ v7 = .int .i64 x7_3 ∧ Aside0 (haulierref02_Rune.l0 kq l0 x3_2 x4_2 x6_3 x7_3 = some r) ∧ Aside0 (kq ≤ kj12) ∧ Drawn0 w w')
              case atStart => exact ⟨(x6_2), (1), (by first | rfl | (simp; done) | (simp [*]; done)), (by first | rfl | (simp; done) | (simp [*]; done)), H', ⟨Nat.le_refl _⟩, by repeat (first | exact Drawn0.refl _ | apply Drawn0.step)⟩
              case round =>
                clear H'
                try clear c1
                try clear p1
                try clear q1
                try clear hx1
                try clear qi1
                try clear c2
                try clear c2b0
                try clear c2b1
                try clear p2
                try clear c3
                try clear c4
                try clear c4b0
                try clear c6
                try clear c6b0
                try clear p6
                try clear c7
                try clear c9
                try clear c9b0
                try clear c10
                try clear p10
                try clear q10
                try clear hx10
                try clear qi10
                try clear c11
                try clear c11b0
                try clear c12
                try clear c12b0
                try clear c14
                try clear c14b0
                try clear c14b1
                try clear c15
                try clear hx101_0
                try clear p1
                try clear p10
                try clear p101
                try clear p2
                try clear p6
                try clear q1
                try clear q10
                try clear q101
                obtain ⟨x6_3, x7_3, rfl, rfl, HA, HK3, ⟨m3, rfl⟩⟩ := hrel
                cases gk with
                | zero => exact absurd HA.out (by simp [haulierref02_Rune.l0])
                | succ k3 =>
                  have H := HA.out
                  clear HA
                  simp only [haulierref02_Rune.l0] at H
                  by_cases c16 : x7_3 < x3_2
                  · rw [if_pos c16] at H
                    have c16b0 : decide (x7_3 < x3_2) = true := decide_eq_true c16
                    clear c16
                    by_cases c17 : 0 ≤ x7_3
                    · rw [if_pos c17] at H
                      have c17b0 : decide (0 ≤ x7_3) = true := decide_eq_true c17
                      clear c17
                      by_cases c18 : x7_3 < (l0.length : Int)
                      · rw [if_pos c18] at H
                        have c18b0 : decide (x7_3 < (l0.length : Int)) = true := decide_eq_true c18
                        clear c18
                        by_cases c19 : ((rd l0 x7_3) / 64) = 2
                        · rw [if_pos c19] at H
                          have c19b0 : (((rd l0 x7_3) / 64) == 2) = true := beq_iff_eq.mpr c19
                          have c19b1 : (((rd l0 x7_3) / 64) != 2) = false := bne_eq_false_iff_eq.mpr c19
                          clear c19
                          have H' := Aside0.mk H
                          clear H
                          have p102 : 0 ≤ (x7_3 : Int) := of_decide_eq_true (by first | (with_reducible assumption) | assumption)
                          have q102 : x7_3 < (l0.length : Int) := of_decide_eq_true (by first | (with_reducible assumption) | assumption)
                          obtain ⟨ad102, e102, hx102_0⟩ := Kd.at_int HR0.out x7_3 p102 q102
                          obtain rfl : ad101 = ad102 := (by injection e102)
                          replace p102 := eq_true p102
                          replace q102 := eq_true q102
                          have p103 : 0 ≤ (x7_3 : Int) := of_decide_eq_true (by first | (with_reducible assumption) | assumption)
                          have q103 : x7_3 < (l0.length : Int) := of_decide_eq_true (by first | (with_reducible assumption) | assumption)
                          obtain ⟨ad103, e103, hx103_0⟩ := Kd.at_int HR0.out x7_3 p103 q103
                          obtain rfl : ad101 = ad103 := (by injection e103)
                          replace p103 := eq_true p103
                          replace q103 := eq_true q103
                          go_wp2
                          go_roundg k3
                          case measure => have := HJ2.out; have := HJ12.out; have := HK3.out; omega
                          case rel => exact ⟨(Go.bits .or .i64 (wrap64 (x6_3 * 64)) (wrap64 (Go.bits .and .u8 (rd l0 x7_3) 63))), (wrap64 (x7_3 + 1)), (by first | rfl | (simp; done) | (simp [*]; done)), (by first | rfl | (simp; done) | (simp [*]; done)), H', ⟨by have := HJ2.out; have := HJ12.out; have := HK3.out; omega⟩, by repeat (first | exact Drawn0.refl _ | apply Drawn0.step)⟩
                        · rw [if_neg c19] at H
                          have c19b0 : (((rd l0 x7_3) / 64) == 2) = false := beq_eq_false_iff_ne.mpr c19
                          have c19b1 : (((rd l0 x7_3) / 64) != 2) = true := bne_iff_ne.mpr c19
                          obtain rfl := Option.some.inj H
                          have p102 : 0 ≤ (x7_3 : Int) := of_decide_eq_true (by first | (with_reducible assumption) | assumption)
                          have q102 : x7_3 < (l0.length : Int) := of_decide_eq_true (by first | (with_reducible assumption) | assumption)
                          obtain ⟨ad102, e102, hx102_0⟩ := Kd.at_int HR0.out x7_3 p102 q102
                          obtain rfl : ad101 = ad102 := (by injection e102)
                          replace p102 := eq_true p102
                          replace q102 := eq_true q102
                          go_wp2
                          go_ret
                          exact ⟨by first | rfl | (simp; done) | (simp [*]; done), by repeat (first | exact Drawn0.refl _ | apply Drawn0.step)⟩
                      · rw [if_neg c18] at H
                        exact absurd H (by simp)
                    · rw [if_neg c17] at H
                      exact absurd H (by simp)
                  · rw [if_neg c16] at H
                    have c16b0 : decide (x7_3 < x3_2) = false := decide_eq_false c16
                    clear c16
                    by_cases c20 : x6_3 < x4_2
                    · rw [if_pos c20] at H
                      have c20b0 : decide (x6_3 < x4_2) = true := decide_eq_true c20
                      clear c20
                      obtain rfl := Option.some.inj H
                      go_wp2
                      go_ret
                      exact ⟨by first | rfl | (simp; done) | (simp [*]; done), by repeat (first | exact Drawn0.refl _ | apply Drawn0.step)⟩
                    · rw [if_neg c20] at H
                      have c20b0 : decide (x6_3 < x4_2) = false := decide_eq_false c20
                      clear c20
                      by_cases c21 : x6_3 > 1114111
                      · rw [if_pos c21] at H
                        have c21b0 : decide (1114111 < x6_3) = true := decide_eq_true c21
                        clear c21
                        obtain rfl := Option.some.inj H
                        go_wp2
                        go_ret
                        exact ⟨by first | rfl | (simp; done) | (simp [*]; done), by repeat (first | exact Drawn0.refl _ | apply Drawn0.step)⟩
                      · rw [if_neg c21] at H
                        have c21b0 : decide (1114111 < x6_3) = false := decide_eq_false c21
                        clear c21
                        by_cases c22 : x6_3 ≥ 55296
                        · rw [if_pos c22] at H
                          have c22b0 : decide (55296 ≤ x6_3) = true := decide_eq_true c22
                          clear c22
                          by_cases c23 : x6_3 < 57344
                          · rw [if_pos c23] at H
                            have c23b0 : decide (x6_3 < 57344) = true := decide_eq_true c23
                            clear c23
                            obtain rfl := Option.some.inj H
                            go_wp2
                            go_ret
                            exact ⟨by first | rfl | (simp; done) | (simp [*]; done), by repeat (first | exact Drawn0.refl _ | apply Drawn0.step)⟩
                          · rw [if_neg c23] at H
                            have c23b0 : decide (x6_3 < 57344) = false := decide_eq_false c23
                            clear c23
                            obtain rfl := Option.some.inj H
                            go_wp2
                            go_ret
                            exact ⟨by first | rfl | (simp; done) | (simp [*]; done), by repeat (first | exact Drawn0.refl _ | apply Drawn0.step)⟩
                        · rw [if_neg c22] at H
                          have c22b0 : decide (55296 ≤ x6_3) = false := decide_eq_false c22
                          clear c22
                          obtain rfl := Option.some.inj H
                          go_wp2
                          go_ret
                          exact ⟨by first | rfl | (simp; done) | (simp [*]; done), by repeat (first | exact Drawn0.refl _ | apply Drawn0.step)⟩
  · rw [if_neg c2] at H
    exact absurd H (by simp)

end Go.Proofs.YtldlkoncndlbhaaDoor.PRa

/- UTF-8 in plain words: how long the encoding is that a list of bytes begins with; and the printed 'Rune' of the document's answer. -/
namespace Go.Proofs.YtldlkoncndlbhaaDoor.Utf
open Go.RowKit Go.Proofs.YtldlkoncndlbhaaDoor.PRa Go.Proofs.YtldlkoncndlbhaaDoorW.PrintWords Go.Proofs.YtldlkoncndlbhaaDoorW.PrintLast Go.Proofs.YtldlkoncndlbhaaDoorW.PrintMore

/-- A byte that goes on. -/
def cont (b : UInt8) : Bool := b.toNat / 64 == 2
def two (a b : UInt8) : Nat := (a.toNat % 32) * 64 + b.toNat % 64
def three (a b c : UInt8) : Nat := (a.toNat % 16) * 4096 + (b.toNat % 64) * 64 + c.toNat % 64
def four (a b c d : UInt8) : Nat := (a.toNat % 8) * 262144 + (b.toNat % 64) * 4096 + (c.toNat % 64) * 64 + d.toNat % 64
def w2 : List UInt8 → Nat
  | b :: _ => if cont b then 2 else 0
  | _ => 0
def w3 (a : UInt8) : List UInt8 → Nat
  | b :: c :: _ => if cont b ∧ cont c ∧ 2048 ≤ three a b c ∧ ¬ (55296 ≤ three a b c ∧ three a b c < 57344) then 3 else 0
  | _ => 0
def w4 (a : UInt8) : List UInt8 → Nat
  | b :: c :: d :: _ => if cont b ∧ cont c ∧ cont d ∧ 65536 ≤ four a b c d ∧ four a b c d ≤ 1114111 then 4 else 0
  | _ => 0
def lead (a : UInt8) (r : List UInt8) : Nat :=
  if a.toNat < 128 then 1
  else if 194 ≤ a.toNat ∧ a.toNat < 224 then w2 r
  else if 224 ≤ a.toNat ∧ a.toNat < 240 then w3 a r
  else if 240 ≤ a.toNat ∧ a.toNat < 245 then w4 a r
  else 0
/-- How many bytes the encoding of a rune has that begins here; 0: none does. -/
def wid : List UInt8 → Nat
  | [] => 0
  | a :: r => lead a r

theorem w2_le (r : List UInt8) : w2 r ≤ r.length + 1 := by
  unfold w2
  split
  · rw [List.length_cons]; split <;> omega
  · omega
theorem w3_le (a : UInt8) (r : List UInt8) : w3 a r ≤ r.length + 1 := by
  unfold w3
  split
  · rw [List.length_cons, List.length_cons]; split <;> omega
  · omega
theorem w4_le (a : UInt8) (r : List UInt8) : w4 a r ≤ r.length + 1 := by
  unfold w4
  split
  · rw [List.length_cons, List.length_cons, List.length_cons]; split <;> omega
  · omega
theorem wid_le (l : List UInt8) : wid l ≤ l.length := by
  cases l with
  | nil => exact Nat.le_refl _
  | cons a r =>
    show lead a r ≤ r.length + 1
    have h2 := w2_le r
    have h3 := w3_le a r
    have h4 := w4_le a r
    unfold lead
    repeat' split
    all_goals omega

/-- Is it UTF-8 to its end? -/
def utf (l : List UInt8) : Bool := if _h : l = [] then true else if _h2 : wid l = 0 then false else utf (l.drop (wid l))
termination_by l.length
decreasing_by
  rw [List.length_drop]
  have : 0 < l.length := List.length_pos_iff.2 _h
  omega

theorem and_low (x : Nat) (n : Nat) (hn : n ≤ 7) (h : x < 256) : Go.bits .and .i64 (x : Int) (2 ^ n - 1) = ((x % 2 ^ n : Nat) : Int) := by
  have hk : ∀ n : Int, 0 ≤ n → n < 2 ^ 63 → IntKind.i64.wrap n = n := fun n h0 h1 => by rw [IntKind.wrap_i64]; omega
  have := bits_mask .i64 63 (by decide) hk n (by omega) (x : Int) (by omega) (by omega)
  rw [this]
  simp
theorem and_u8 (x : Nat) (h : x < 256) : Go.bits .and .u8 (x : Int) 63 = ((x % 64 : Nat) : Int) := by
  rw [u8_and63 _ (by omega) (by omega)]
  omega
theorem or_six (q r : Nat) (hq : q < 4294967296) (hr : r < 64) : Go.bits .or .i64 ((q * 64 : Nat) : Int) (r : Int) = ((q * 64 + r : Nat) : Int) := by
  have hk : ∀ n : Int, 0 ≤ n → n < 2 ^ 63 → IntKind.i64.wrap n = n := fun n h0 h1 => by rw [IntKind.wrap_i64]; omega
  rw [bits_join .i64 63 (by decide) hk 6 _ _ (by omega) (by omega) (by omega) (by omega) (by omega) (by omega)]
  omega

theorem rd_at (l : List UInt8) (i : Nat) (h : i < l.length) : rd (l.map fun b => (b.toNat : Int)) (i : Int) = (l[i].toNat : Int) := by
  simp [rd, List.getElem?_eq_getElem h]

/-- One step of the loop over what goes on. -/
theorem more_step (l : List UInt8) (n least x i : Nat) (hi : i < n) (hl : i < l.length) (hx : x < 4294967296) (hn : n ≤ 4) (k : Nat) :
    haulierref02_Rune.l0 (k + 1) (l.map fun b => (b.toNat : Int)) (n : Int) (least : Int) (x : Int) (i : Int) =
      if cont l[i] then haulierref02_Rune.l0 k (l.map fun b => (b.toNat : Int)) (n : Int) (least : Int) ((x * 64 + l[i].toNat % 64 : Nat) : Int) ((i + 1 : Nat) : Int) else some 0 := by
  have hb := l[i].toNat_lt
  simp only [haulierref02_Rune.l0]
  rw [if_pos (by omega), if_pos (by omega), if_pos (by rw [List.length_map]; omega), rd_at l i hl]
  generalize hc : l[i] = c at *
  unfold cont
  by_cases h2 : c.toNat / 64 = 2
  · rw [if_pos (by omega), if_pos (by rw [h2]; rfl), and_u8 _ (by omega), show wrap64 ((x : Int) * 64) = ((x * 64 : Nat) : Int) from by unfold wrap64; omega, show wrap64 ((c.toNat % 64 : Nat) : Int) = ((c.toNat % 64 : Nat) : Int) from by unfold wrap64; omega, or_six x _ hx (by omega), show wrap64 ((i : Int) + 1) = ((i + 1 : Nat) : Int) from by unfold wrap64; omega]
  · rw [if_neg (by omega), if_neg (by rw [beq_iff_eq]; exact h2)]
theorem more_end (l : List Int) (n least x : Nat) (k : Nat) :
    haulierref02_Rune.l0 (k + 1) l (n : Int) (least : Int) (x : Int) (n : Int) = if x < least ∨ 1114111 < x ∨ (55296 ≤ x ∧ x < 57344) then some 0 else some (n : Int) := by
  simp only [haulierref02_Rune.l0]
  rw [if_neg (by omega)]
  by_cases h1 : x < least
  · rw [if_pos (by omega), if_pos (.inl h1)]
  · by_cases h2 : 1114111 < x
    · rw [if_neg (by omega), if_pos (by omega), if_pos (.inr (.inl h2))]
    · by_cases h3 : 55296 ≤ x
      · by_cases h4 : x < 57344
        · rw [if_neg (by omega), if_neg (by omega), if_pos (by omega), if_pos (by omega), if_pos (.inr (.inr ⟨h3, h4⟩))]
        · rw [if_neg (by omega), if_neg (by omega), if_pos (by omega), if_neg (by omega), if_neg (by omega)]
      · rw [if_neg (by omega), if_neg (by omega), if_neg (by omega), if_neg (by omega)]

theorem begin_ (l : List Int) (n least x : Nat) (hn : 0 < n) (k : Nat) :
    haulierref02_Rune.j2 (k + 2) l (n : Int) (least : Int) (x : Int) = if l.length < n then some 0 else haulierref02_Rune.l0 k l (n : Int) (least : Int) (x : Int) ((1 : Nat) : Int) := by
  simp only [haulierref02_Rune.j2]
  rw [if_neg (by omega)]
  simp only [haulierref02_Rune.j3]
  by_cases h : l.length < n
  · rw [if_pos (by rw [decide_eq_true_iff]; omega), if_pos h]
  · rw [if_neg (by rw [decide_eq_true_iff]; omega), if_neg h]
    rfl
theorem none_ (l : List Int) (least x : Int) (k : Nat) : haulierref02_Rune.j2 (k + 2) l 0 least x = some 0 := by
  simp only [haulierref02_Rune.j2]
  rw [if_pos trivial]
  simp only [haulierref02_Rune.j3]
  rw [if_pos trivial]

theorem j2_two (a : UInt8) (r : List UInt8) (ha : 194 ≤ a.toNat ∧ a.toNat < 224) (k : Nat) :
    haulierref02_Rune.j2 (k + 6) ((a :: r).map fun b => (b.toNat : Int)) 2 128 ((a.toNat % 32 : Nat) : Int) = some ((wid (a :: r) : Nat) : Int) := by
  have h := begin_ ((a :: r).map fun b => (b.toNat : Int)) 2 128 (a.toNat % 32) (by decide) (k + 4)
  have hw : wid (a :: r) = w2 r := by
    show lead a r = _
    unfold lead
    rw [if_neg (by omega), if_pos ha]
  refine h.trans ?_
  rw [hw]
  cases r with
  | nil => rfl
  | cons b q =>
    rw [if_neg (by simp)]
    rw [more_step (a :: b :: q) 2 128 (a.toNat % 32) 1 (by omega) (by simp) (by omega) (by omega)]
    show (if cont b then _ else _) = some ((if cont b then 2 else 0 : Nat) : Int)
    cases hc : cont b with
    | false => rfl
    | true =>
      rw [if_pos rfl, show ((1 + 1 : Nat) : Int) = ((2 : Nat) : Int) from rfl]
      show haulierref02_Rune.l0 (k + 2 + 1) _ ((2 : Nat) : Int) ((128 : Nat) : Int) _ ((2 : Nat) : Int) = _
      rw [more_end, if_neg]
      · rfl
      · show ¬ (a.toNat % 32 * 64 + b.toNat % 64 < 128 ∨ _)
        omega
theorem j2_three (a : UInt8) (r : List UInt8) (ha : 224 ≤ a.toNat ∧ a.toNat < 240) (k : Nat) :
    haulierref02_Rune.j2 (k + 6) ((a :: r).map fun b => (b.toNat : Int)) 3 2048 ((a.toNat % 16 : Nat) : Int) = some ((wid (a :: r) : Nat) : Int) := by
  have h := begin_ ((a :: r).map fun b => (b.toNat : Int)) 3 2048 (a.toNat % 16) (by decide) (k + 4)
  have hw : wid (a :: r) = w3 a r := by
    show lead a r = _
    unfold lead
    rw [if_neg (by omega), if_neg (by omega), if_pos ha]
  refine h.trans ?_
  rw [hw]
  cases r with
  | nil => rfl
  | cons b q =>
    cases q with
    | nil => rfl
    | cons c q =>
      rw [if_neg (by simp)]
      rw [more_step (a :: b :: c :: q) 3 2048 (a.toNat % 16) 1 (by omega) (by simp) (by omega) (by omega)]
      show (if cont b then _ else _) = some ((if cont b ∧ cont c ∧ _ then 3 else 0 : Nat) : Int)
      cases hb : cont b with
      | false => rw [if_neg (by decide), if_neg (fun e => by cases e.1)]; rfl
      | true =>
        rw [if_pos rfl, more_step (a :: b :: c :: q) 3 2048 _ 2 (by omega) (by simp) (by show a.toNat % 16 * 64 + b.toNat % 64 < _; omega) (by omega)]
        show (if cont c then _ else _) = _
        cases hc : cont c with
        | false => rw [if_neg (by decide), if_neg (fun e => by cases e.2.1)]; rfl
        | true =>
          rw [if_pos rfl, show ((2 + 1 : Nat) : Int) = ((3 : Nat) : Int) from rfl]
          show haulierref02_Rune.l0 (k + 1 + 1) _ ((3 : Nat) : Int) ((2048 : Nat) : Int) (((a.toNat % 16 * 64 + b.toNat % 64) * 64 + c.toNat % 64 : Nat) : Int) ((3 : Nat) : Int) = _
          rw [more_end]
          have e : (a.toNat % 16 * 64 + b.toNat % 64) * 64 + c.toNat % 64 = three a b c := by unfold three; omega
          have hlt : three a b c ≤ 1114111 := by unfold three; omega
          rw [e]
          by_cases hg : 2048 ≤ three a b c ∧ ¬ (55296 ≤ three a b c ∧ three a b c < 57344)
          · rw [if_neg (by omega), if_pos ⟨rfl, rfl, hg⟩]; first | done | rfl
          · rw [if_pos (by omega), if_neg (fun e => hg e.2.2)]; first | done | rfl
theorem j2_four (a : UInt8) (r : List UInt8) (ha : 240 ≤ a.toNat ∧ a.toNat < 245) (k : Nat) :
    haulierref02_Rune.j2 (k + 6) ((a :: r).map fun b => (b.toNat : Int)) 4 65536 ((a.toNat % 8 : Nat) : Int) = some ((wid (a :: r) : Nat) : Int) := by
  have h := begin_ ((a :: r).map fun b => (b.toNat : Int)) 4 65536 (a.toNat % 8) (by decide) (k + 4)
  have hw : wid (a :: r) = w4 a r := by
    show lead a r = _
    unfold lead
    rw [if_neg (by omega), if_neg (by omega), if_neg (by omega), if_pos ha]
  refine h.trans ?_
  rw [hw]
  cases r with
  | nil => rfl
  | cons b q =>
    cases q with
    | nil => rfl
    | cons c q =>
      cases q with
      | nil => rfl
      | cons d q =>
        rw [if_neg (by simp)]
        rw [more_step (a :: b :: c :: d :: q) 4 65536 (a.toNat % 8) 1 (by omega) (by simp) (by omega) (by omega)]
        show (if cont b then _ else _) = some ((if cont b ∧ cont c ∧ cont d ∧ _ then 4 else 0 : Nat) : Int)
        cases hb : cont b with
        | false => rw [if_neg (by decide), if_neg (fun e => by cases e.1)]; rfl
        | true =>
          rw [if_pos rfl, more_step (a :: b :: c :: d :: q) 4 65536 _ 2 (by omega) (by simp) (by show a.toNat % 8 * 64 + b.toNat % 64 < _; omega) (by omega)]
          show (if cont c then _ else _) = _
          cases hc : cont c with
          | false => rw [if_neg (by decide), if_neg (fun e => by cases e.2.1)]; rfl
          | true =>
            rw [if_pos rfl, more_step (a :: b :: c :: d :: q) 4 65536 _ 3 (by omega) (by simp) (by show (a.toNat % 8 * 64 + b.toNat % 64) * 64 + c.toNat % 64 < _; omega) (by omega)]
            show (if cont d then _ else _) = _
            cases hd : cont d with
            | false => rw [if_neg (by decide), if_neg (fun e => by cases e.2.2.1)]; rfl
            | true =>
              rw [if_pos rfl, show ((3 + 1 : Nat) : Int) = ((4 : Nat) : Int) from rfl]
              show haulierref02_Rune.l0 (k + 1) _ ((4 : Nat) : Int) ((65536 : Nat) : Int) ((((a.toNat % 8 * 64 + b.toNat % 64) * 64 + c.toNat % 64) * 64 + d.toNat % 64 : Nat) : Int) ((4 : Nat) : Int) = _
              rw [more_end]
              have e : ((a.toNat % 8 * 64 + b.toNat % 64) * 64 + c.toNat % 64) * 64 + d.toNat % 64 = four a b c d := by unfold four; omega
              rw [e]
              by_cases hg : 65536 ≤ four a b c d ∧ four a b c d ≤ 1114111
              · rw [if_neg (by omega), if_pos ⟨rfl, rfl, rfl, hg⟩]; first | done | rfl
              · rw [if_pos (by omega), if_neg (fun e => hg e.2.2.2)]; first | done | rfl

/-- The document's 'Rune' at bytes. -/
theorem rune_tells (l : List UInt8) (hne : l ≠ []) (hl : l.length ≤ 9223372036854775807) : haulierref02_Rune.f 10 (l.map fun b => (b.toNat : Int)) = some ((wid l : Nat) : Int) := by
  cases l with
  | nil => exact absurd rfl hne
  | cons a r =>
    have hb := a.toNat_lt
    have h0 : rd ((a :: r).map fun b => (b.toNat : Int)) 0 = (a.toNat : Int) := rfl
    have hw : wrap64 (a.toNat : Int) = (a.toNat : Int) := by unfold wrap64; omega
    unfold haulierref02_Rune.f
    rw [if_pos (by rw [List.length_map, List.length_cons]; omega), h0, hw]
    have e32 := and_low a.toNat 5 (by decide) (by omega)
    have e16 := and_low a.toNat 4 (by decide) (by omega)
    have e8 := and_low a.toNat 3 (by decide) (by omega)
    rw [show (2 : Int) ^ 5 - 1 = 31 from by decide] at e32
    rw [show (2 : Int) ^ 4 - 1 = 15 from by decide] at e16
    rw [show (2 : Int) ^ 3 - 1 = 7 from by decide] at e8
    have hz : ∀ k, ¬ a.toNat < 128 → ¬ (194 ≤ a.toNat ∧ a.toNat < 224) → ¬ (224 ≤ a.toNat ∧ a.toNat < 240) → ¬ (240 ≤ a.toNat ∧ a.toNat < 245) → haulierref02_Rune.j2 (k + 2) ((a :: r).map fun b => (b.toNat : Int)) 0 0 0 = some ((wid (a :: r) : Nat) : Int) := by
      intro k h1 h2 h3 h4
      rw [none_]
      show _ = some ((lead a r : Nat) : Int)
      unfold lead
      rw [if_neg h1, if_neg h2, if_neg h3, if_neg h4]
      rfl
    by_cases h1 : a.toNat < 128
    · rw [if_pos (by omega)]
      show _ = some ((lead a r : Nat) : Int)
      unfold lead
      rw [if_pos h1]
      rfl
    · rw [if_neg (by omega)]
      by_cases h2 : 194 ≤ a.toNat
      · rw [if_pos (by omega)]
        by_cases h3 : a.toNat < 224
        · rw [decide_eq_true (by omega)]
          simp only [haulierref02_Rune.j0]
          rw [if_pos trivial, e32]
          exact j2_two a r ⟨h2, h3⟩ 3
        · rw [decide_eq_false (by omega)]
          simp only [haulierref02_Rune.j0]
          rw [if_neg (by decide), if_pos (by omega)]
          by_cases h4 : a.toNat < 240
          · rw [decide_eq_true (by omega)]
            simp only [haulierref02_Rune.j1]
            rw [if_pos trivial, e16]
            exact j2_three a r ⟨by omega, h4⟩ 2
          · rw [decide_eq_false (by omega)]
            simp only [haulierref02_Rune.j1]
            rw [if_neg (by decide), if_pos (by omega)]
            by_cases h5 : a.toNat < 245
            · rw [if_pos (by omega), e8]
              exact j2_four a r ⟨by omega, h5⟩ 2
            · rw [if_neg (by omega)]
              exact hz 6 h1 (by omega) (by omega) (by omega)
      · rw [if_neg (by omega)]
        simp only [haulierref02_Rune.j0]
        rw [if_neg (by decide), if_neg (by omega)]
        simp only [haulierref02_Rune.j1]
        rw [if_neg (by decide), if_neg (by omega)]
        exact hz 6 h1 (by omega) (by omega) (by omega)

end Go.Proofs.YtldlkoncndlbhaaDoor.Utf

/- UTF-8 in plain words beside the library's decoder: where a rune begins, and whether a text is UTF-8. -/
namespace Go.Proofs.YtldlkoncndlbhaaDoor.Utf
open Go.Lib
set_option linter.unusedSimpArgs false

theorem dec_cons (a : UInt8) (r : List UInt8) : decodeL (a :: r) = decodeN (r.length + 1) a.toNat (r.getD 0 0).toNat (r.getD 1 0).toNat (r.getD 2 0).toNat := by
  rw [decodeL_N]
  rfl

theorem dec_bad (l : List UInt8) (hne : l ≠ []) (h : wid l = 0) : decodeL l = (65533, 1) := by
  cases l with
  | nil => exact absurd rfl hne
  | cons a r =>
    rw [dec_cons]
    have h : lead a r = 0 := h
    have ha := a.toNat_lt
    unfold lead at h
    unfold decodeN
    match r, h with
    | [], h =>
      simp only [w2, w3, w4, List.length_nil] at h ⊢
      split at h
      · omega
      · rename_i h1
        rw [if_neg h1, if_neg (by omega), if_neg (by omega), if_neg (by omega)]
    | [b], h =>
      simp only [w2, w3, w4, List.length_cons, List.length_nil, List.getD_cons_zero, cont, two, three, four] at h ⊢
      repeat' split at h
      all_goals (repeat' split)
      all_goals first | rfl | (exfalso; simp at * <;> omega)
    | [b, c], h =>
      simp only [w2, w3, w4, List.length_cons, List.length_nil, List.getD_cons_zero, List.getD_cons_succ, cont, two, three, four] at h ⊢
      repeat' split at h
      all_goals (repeat' split)
      all_goals first | rfl | (exfalso; simp at * <;> omega)
    | b :: c :: d :: r, h =>
      simp only [w2, w3, w4, List.length_cons, List.getD_cons_zero, List.getD_cons_succ, cont, two, three, four] at h ⊢
      repeat' split at h
      all_goals (repeat' split)
      all_goals first | rfl | (exfalso; simp at * <;> omega)

theorem dec_good (l : List UInt8) (h : wid l ≠ 0) : (decodeL l).2 = wid l ∧ ((decodeL l).1 = 65533 → wid l = 3) := by
  cases l with
  | nil => exact absurd rfl h
  | cons a r =>
    rw [dec_cons]
    have ha := a.toNat_lt
    rw [show wid (a :: r) = lead a r from rfl] at h ⊢
    unfold lead at h ⊢
    unfold decodeN
    match r, h with
    | [], h =>
      simp only [w2, w3, w4, List.length_nil] at h ⊢
      split at h
      · rename_i h1
        rw [if_pos h1, if_pos h1]
        exact ⟨rfl, fun e => by simp at e; omega⟩
      · simp at h
    | [b], h =>
      simp only [w2, w3, w4, List.length_cons, List.length_nil, List.getD_cons_zero, cont, two, three, four] at h ⊢
      repeat' split at h
      all_goals (repeat' split)
      all_goals first | exact absurd rfl h | (refine ⟨?_, ?_⟩ <;> simp at * <;> omega)
    | [b, c], h =>
      simp only [w2, w3, w4, List.length_cons, List.length_nil, List.getD_cons_zero, List.getD_cons_succ, cont, two, three, four] at h ⊢
      repeat' split at h
      all_goals (repeat' split)
      all_goals first | exact absurd rfl h | (refine ⟨?_, ?_⟩ <;> simp at * <;> omega)
    | b :: c :: d :: r, h =>
      simp only [w2, w3, w4, List.length_cons, List.getD_cons_zero, List.getD_cons_succ, cont, two, three, four] at h ⊢
      repeat' split at h
      all_goals (repeat' split)
      all_goals first | exact absurd rfl h | (refine ⟨?_, ?_⟩ <;> simp at * <;> omega)

theorem validGo_utf : ∀ (n : Nat) (l : List UInt8), l.length ≤ n → validGoD n l = utf l
  | 0, l, h => by
    obtain rfl : l = [] := List.eq_nil_of_length_eq_zero (by omega)
    unfold utf
    rfl
  | n + 1, l, h => by
    unfold validGoD utf
    by_cases hne : l = []
    · rw [if_pos hne, dif_pos hne]
    · rw [if_neg hne, dif_neg hne]
      by_cases hw : wid l = 0
      · rw [dif_pos hw, dec_bad l hne hw, if_pos ⟨rfl, rfl⟩]
      · obtain ⟨h2, h3⟩ := dec_good l hw
        have hpos : 0 < l.length := List.length_pos_iff.2 hne
        rw [dif_neg hw, if_neg (fun e => by have := h3 e.1; omega), h2]
        exact validGo_utf n _ (by rw [List.length_drop]; omega)
theorem valid_utf (l : List UInt8) : validD l = utf l := validGo_utf _ _ (Nat.le_refl _)

end Go.Proofs.YtldlkoncndlbhaaDoor.Utf

/- A look-up in a map of truths that holds what was put under so many names. -/
namespace Go.Proofs.YtldlkoncndlbhaaDoor.Mb
open Go Go.Maps

theorem plainElem_bool_inv {H : Type} {P : Program} {e : TypeId} (he : P.underlying e = some .bool) {v : Value} {z : DataW H × List MemPlace} (h : plainElem P e v = some z) : ∃ x, v = .bool x ∧ z = (.lit (.bool x), []) := by
  unfold plainElem at h
  rw [he] at h
  cases v <;> simp at h
  subst h
  exact ⟨_, rfl, rfl⟩

def litS (s : ByteArray) : Lit := .string s.data.toList
theorem litS_key (s : ByteArray) : WideAt.IsKeyLit (litS s) := by unfold litS WideAt.IsKeyLit; trivial
theorem litS_inj {s t : ByteArray} (h : litS s = litS t) : s = t := by
  unfold litS at h
  injection h with h
  exact ByteArray.ext (Array.toList_inj.1 h)
/-- What was put under these names, one by one. -/
def seenSet (l : List ByteArray) : DataW Unit := setOf (.lit (.bool true)) (l.map litS)
theorem seenSet_nil : seenSet [] = .map [] := rfl
theorem seenSet_snoc (l : List ByteArray) (x : ByteArray) : seenSet (l ++ [x]) = (seenSet l).put (litS x) (.lit (.bool true)) := by
  unfold seenSet
  rw [List.map_append]
  exact setOf_snoc _ _ _
theorem isMap_fold (u : DataW Unit) : ∀ (acc : List Lit) (m : DataW Unit), IsMap m → IsMap (acc.foldl (fun m x => m.put x u) m)
  | [], _, h => h
  | x :: acc, _, h => isMap_fold u acc _ (h.put x u)
/-- Is it among these? -/
def hasName (s : ByteArray) (l : List ByteArray) : Bool := l.any fun t => t.data.toList == s.data.toList
theorem hasName_iff (s : ByteArray) (l : List ByteArray) : hasName s l = true ↔ s ∈ l := by
  unfold hasName
  rw [List.any_eq_true]
  constructor
  · rintro ⟨t, h, e⟩
    have := ByteArray.ext (Array.toList_inj.1 (eq_of_beq e))
    exact this ▸ h
  · intro h
    exact ⟨s, h, beq_self_eq_true _⟩
theorem hasName_nil (s : ByteArray) : hasName s [] = false := rfl
theorem hasName_cons (s x : ByteArray) (l : List ByteArray) : hasName s (x :: l) = (x.data.toList == s.data.toList || hasName s l) := rfl
theorem atKey_fold (s : ByteArray) : ∀ (l : List ByteArray) (m : DataW Unit), IsMap m → (l.foldl (fun m x => m.put (litS x) (.lit (.bool true))) m).atKey (litS s) (.lit (.bool false)) = if hasName s l = true then .lit (.bool true) else m.atKey (litS s) (.lit (.bool false))
  | [], _, _ => by simp [hasName_nil]
  | x :: l, m, h => by
    rw [List.foldl_cons, atKey_fold s l _ (h.put _ _)]
    by_cases h1 : hasName s l = true
    · rw [if_pos h1, if_pos (by rw [hasName_cons, h1, Bool.or_true])]
    · rw [if_neg h1]
      by_cases h2 : s = x
      · subst h2
        rw [if_pos (by rw [hasName_cons, beq_self_eq_true, Bool.true_or]), atKey_put_same h (litS_key _)]
      · have h3 : (x.data.toList == s.data.toList) = false := by
          rw [beq_eq_false_iff_ne]
          exact fun e => h2 (ByteArray.ext (Array.toList_inj.1 e)).symm
        rw [if_neg (by rw [hasName_cons, h3, Bool.false_or]; exact h1), atKey_put_other (fun e => h2 (litS_inj e))]
theorem atKey_seen (s : ByteArray) (l : List ByteArray) : (seenSet l).atKey (litS s) (.lit (.bool false)) = .lit (.bool (hasName s l)) := by
  unfold seenSet setOf
  rw [List.foldl_map, atKey_fold s l _ isMap_empty]
  by_cases h : hasName s l = true
  · rw [if_pos h, h]
  · rw [if_neg h, Bool.eq_false_iff.2 h]
    rfl

/-- The look-up, for the walk. -/
theorem wpList_lookup_seen {P : Program} (w : World) {ops : Array Oper} {rest : List Oper} {o : Oper} {a : Act} {Q : Exit → Act → World → Prop}
    (hg : o.guard = none) (m x : Operand) (t : TypeId) (hop : o.op = Op.lookup t m x false)
    (k e : TypeId) (hk : P.underlying k = some .string) (ht : P.underlying t = some (.map k e)) (he : P.underlying e = some .bool) (hz : (zeroValue e).run P w = .ok (.bool false) w) (b n : Nat) (l : List ByteArray)
    (hm : a.eval m = .map (some b)) (hown : w.ownsMap P k (plainElem P e) b n (seenSet l)) (s : ByteArray) (hx : a.eval x = .string s) (hs : s.size ≤ maxLen)
    (hK : wpList P ops Q rest (a.put o.dst (.bool (hasName s l))) w) :
    wpList P ops Q (o :: rest) a w := by
  refine wpList_plain hg fun K' hK' => ?_
  obtain ⟨v, ps, hrun, hv⟩ := hown.lookup (string_keyed hk) ht hz (plainElem_bool he false) (WideMaps.keyOf_string_mk hk hs)
  obtain ⟨c, rfl, hc⟩ := plainElem_bool_inv he hv
  have h1 := congrArg Prod.fst hc
  have h2 : (Lit.string s.data.toList) = litS s := rfl
  rw [h2, atKey_seen] at h1
  injection h1 with h1
  injection h1 with h1
  subst h1
  unfold Oper.wp
  simp [execOp, hop, hm, hx, hrun, Result.andThen]
  exact hK' _ _ hK

end Go.Proofs.YtldlkoncndlbhaaDoor.Mb

/- The program's 'plain', walked by hand: is a value such as there may be? -/
set_option linter.unusedVariables false
set_option linter.unusedSimpArgs false
namespace Go.Proofs.YtldlkoncndlbhaaDoor.Pl
open Go.RowKit Go.Proofs.YtldlkoncndlbhaaDoor.Utf Go.Proofs.YtldlkoncndlbhaaDoor.Mb Go.Maps Go.Proofs.YtldlkoncndlbhaaDoorW.PrintWords Go.Proofs.YtldlkoncndlbhaaDoorW.PrintLast Go.Proofs.YtldlkoncndlbhaaDoorW.PrintMore

/-- Is each name UTF-8, and none there twice? -/
def namesGo : List ByteArray → List ByteArray → Bool
  | _, [] => true
  | done, n :: r => if hasName n done = true then false else if utf n.data.toList = true then namesGo (done ++ [n]) r else false
/-- What 'plain' answers. -/
def plainB (a0 : Int) (a1 : Bool) (a2 : Int) (a3 : ByteArray) (l4 : List ByteArray) (l5 : List Int) : Bool :=
  if namesGo [] l4 = true then
    if a0 = 1 then l4.length == 0 && l5.length == 0 && !a1 && a2 == 0 && a3.toList.isEmpty
    else if a0 = 2 then l4.length == 0 && l5.length == 0 && a2 == 0 && a3.toList.isEmpty
    else if a0 = 3 then l4.length == 0 && l5.length == 0 && !a1 && a3.toList.isEmpty && decide (-4611686018427387903 ≤ a2 ∧ a2 ≤ 4611686018427387903)
    else if a0 = 4 then l4.length == 0 && l5.length == 0 && !a1 && a2 == 0 && utf a3.data.toList
    else if a0 = 5 then l4.length == 0 && !a1 && a2 == 0 && a3.toList.isEmpty
    else if a0 = 6 then l4.length == l5.length && !a1 && a2 == 0 && a3.toList.isEmpty
    else false
  else false

theorem plainB_of (a0 : Int) (a1 : Bool) (a2 : Int) (a3 : ByteArray) (l4 : List ByteArray) (l5 : List Int) (h : namesGo [] l4 = true) : plainB a0 a1 a2 a3 l4 l5 =
    (if a0 = 1 then l4.length == 0 && l5.length == 0 && !a1 && a2 == 0 && a3.toList.isEmpty
    else if a0 = 2 then l4.length == 0 && l5.length == 0 && a2 == 0 && a3.toList.isEmpty
    else if a0 = 3 then l4.length == 0 && l5.length == 0 && !a1 && a3.toList.isEmpty && decide (-4611686018427387903 ≤ a2 ∧ a2 ≤ 4611686018427387903)
    else if a0 = 4 then l4.length == 0 && l5.length == 0 && !a1 && a2 == 0 && utf a3.data.toList
    else if a0 = 5 then l4.length == 0 && !a1 && a2 == 0 && a3.toList.isEmpty
    else if a0 = 6 then l4.length == l5.length && !a1 && a2 == 0 && a3.toList.isEmpty
    else false) := if_pos h

/-- num.Fits. -/
theorem fits_walk (n : Int) (w : World) : Calls Tryd.prog 38 #[.int .i64 n] w fun e w' => e = .returned (.bool (decide (-4611686018427387903 ≤ n ∧ n ≤ 4611686018427387903))) ∧ w' = w := by
  go_enter Tryd.func38, Tryd.ntmps38
  go_wp2
  all_goals go_ret
  · rename_i h
    refine ⟨?_, rfl⟩
    show Ending.returned (Value.bool _) = _
    by_cases h2 : n ≤ 4611686018427387903
    · rw [decide_eq_true h2, decide_eq_true (show -4611686018427387903 ≤ n ∧ n ≤ 4611686018427387903 from ⟨h, h2⟩)]
    · rw [decide_eq_false h2, decide_eq_false (show ¬ (-4611686018427387903 ≤ n ∧ n ≤ 4611686018427387903) from fun e => h2 e.2)]
  · rename_i h
    refine ⟨?_, rfl⟩
    show Ending.returned (Value.bool _) = _
    rw [decide_eq_false (show ¬ -4611686018427387903 ≤ n by omega)]
    rfl

theorem zero4 (w : World) : (zeroValue 4).run Tryd.prog w = .ok (.bool false) w := by kernel_rfl
theorem ownsMap_below {B : Nat} {H : Type} {P : Program} {k : TypeId} {R : Value → Option (DataW H × List MemPlace)} {b n : Nat} {D : DataW H} {w w' : World} (h : w.ownsMap P k R b n D) (hb : Below B w w') (hB : b < B) : w'.ownsMap P k R b n D := by
  obtain ⟨es, clock, hh, F, hs, hD⟩ := h
  exact ⟨es, clock, (hb.block b hB).trans hh, F, hs, hD⟩
theorem namesGo_step (l : List ByteArray) (k : Nat) (s : ByteArray) (h : l[k]? = some s) : namesGo (l.take k) (l.drop k) = if hasName s (l.take k) = true then false else if utf s.data.toList = true then namesGo (l.take (k + 1)) (l.drop (k + 1)) else false := by
  have hk : k < l.length := (List.getElem?_eq_some_iff.1 h).1
  have hs : l[k] = s := (List.getElem?_eq_some_iff.1 h).2
  rw [List.drop_eq_getElem_cons hk, hs, namesGo, List.take_succ_eq_append_getElem hk, hs]
theorem take_snoc (l : List ByteArray) (k : Nat) (s : ByteArray) (h : l[k]? = some s) : l.take (k + 1) = l.take k ++ [s] := by
  have hk : k < l.length := (List.getElem?_eq_some_iff.1 h).1
  have hs : l[k] = s := (List.getElem?_eq_some_iff.1 h).2
  rw [List.take_succ_eq_append_getElem hk, hs]
theorem string_at {w : World} {A : Option Addr} {l : List ByteArray} (h : Kd.string.C w A l.length l) (k : Nat) (hk : k < l.length) : ∃ ad s, A = some ad ∧ l[k]? = some s ∧ w.cell? (ad.add k) = some (.string s) := by
  obtain ⟨ad, e, hc⟩ := Kd.at_string h (k : Int) (by omega) (by omega)
  have hr : rdOf ByteArray.empty l (k : Int) = l[k] := by unfold rdOf; simp [List.getD, hk]
  refine ⟨ad, l[k], e, List.getElem?_eq_getElem hk, ?_⟩
  rw [← hr]
  simpa using hc

set_option maxHeartbeats 4000000 in
set_option maxRecDepth 100000 in
theorem plain_walk (a0 : Int) (a1 : Bool) (a2 : Int) (a3 : ByteArray) (A4 : Option Addr) (c4 : Nat) (l4 : List ByteArray) (A5 : Option Addr) (c5 : Nat) (l5 : List Int) (w : World)
    (hr4 : Kd.string.C w A4 l4.length l4) (hc4 : l4.length ≤ c4) (hs4 : ∀ s ∈ l4, s.size ≤ 140737488355328) (hs3 : a3.size ≤ 140737488355328) (hl4 : l4.length ≤ 140737488355328) (hT : Lib.Utf8Tabs 0 1 w) :
    Calls Tryd.prog 22 #[.agg #[.int .i64 a0, .bool a1, .int .i64 a2, .string a3, .slice A4 l4.length c4, .slice A5 l5.length c5]] w fun e w' => e = .returned (.bool (plainB a0 a1 a2 a3 l4 l5)) ∧ Below w.heap.size w w' := by
  have hmm := @run_makeMap Tryd.prog
  go_enter Tryd.func22, Tryd.ntmps22
  go_wp2
  have hbox : (w.alloc (Obj.cells #[.int .i64 a0, .bool a1, .int .i64 a2, .string a3, .slice A4 l4.length c4, .slice A5 l5.length c5] 39)).heap[w.heap.size]? = some (Obj.cells #[.int .i64 a0, .bool a1, .int .i64 a2, .string a3, .slice A4 l4.length c4, .slice A5 l5.length c5] 39) := Array.getElem?_push_size
  have hw1 := below_alloc (Below.refl w.heap.size w) (Obj.cells #[.int .i64 a0, .bool a1, .int .i64 a2, .string a3, .slice A4 l4.length c4, .slice A5 l5.length c5] 39)
  have hsz : (w.alloc (Obj.cells #[.int .i64 a0, .bool a1, .int .i64 a2, .string a3, .slice A4 l4.length c4, .slice A5 l5.length c5] 39)).heap.size = w.heap.size + 1 := Array.size_push _
  generalize hW1 : w.alloc (Obj.cells #[.int .i64 a0, .bool a1, .int .i64 a2, .string a3, .slice A4 l4.length c4, .slice A5 l5.length c5] 39) = w1 at *
  replace hr4 := Kd.C_below hr4 hw1
  replace hT := Utf8Tabs_below hT hw1
  go_loopw [11] (fun i wr => ∃ k : Nat, k ≤ l4.length ∧ i = .int .i64 k ∧ wr.ownsMap Tryd.prog 9 (plainElem Tryd.prog 4) (w.heap.size + 1) k (seenSet (l4.take k)) ∧ Below (w.heap.size + 1) w1 wr ∧ w.heap.size + 1 < wr.heap.size ∧ Aside0 (namesGo (l4.take k) (l4.drop k) = namesGo [] l4))
    (fun i _ => l4.length - (intOf i).toNat)
  case atStart => exact ⟨0, Nat.zero_le _, rfl, by rw [List.take_zero, seenSet_nil, ← hsz]; exact World.ownsMap_made _ _ _ _, by rw [← hsz]; exact below_alloc (Below.refl _ _) _, by rw [← hsz]; show _ < (w1.heap.push _).size; rw [Array.size_push]; omega, ⟨by rw [List.take_zero, List.drop_zero]⟩⟩
  case round =>
    obtain ⟨k, hk, rfl, hown, hbw, hsw, hgo⟩ := hrel
    by_cases hlt : k < l4.length
    · obtain ⟨ad, s, rfl, hs, hc⟩ := string_at hr4 k hlt
      have hcx : wr.cell? (ad.add k) = some (.string s) := (hbw.cell (by have := World.block_lt_of_cell? w1 _ hc; omega)).trans hc
      have hss : s.size ≤ 140737488355328 := hs4 s (List.mem_of_getElem? hs)
      have hgs := namesGo_step l4 k s hs
      have hlt1 : ((k : Int) < (l4.length : Int)) = True := eq_true (by omega)
      by_cases hin : hasName s (l4.take k) = true
      · rw [if_pos hin] at hgs
        go_wp2_with (first
          | (at_lookup; refine wpList_lookup_seen _ rfl _ _ 72 rfl 9 4 Tryd.underlying9 Tryd.underlying72 Tryd.underlying4 (zero4 _) (w.heap.size + 1) k _ rfl hown s rfl (by unfold maxLen; omega) ?_)
          | go_in)
        go_ret
        exact ⟨by rw [plainB, ← hgo.out, hgs]; rfl, hw1.trans (hbw.mono (by omega))⟩
      · rw [if_neg hin] at hgs
        have hin := Bool.eq_false_iff.2 hin
        have hT2 := Utf8Tabs_below hT (show Below w1.heap.size w1 wr by rw [hsz]; exact hbw)
        have hvu := valid_utf s.data.toList
        by_cases hu : utf s.data.toList = true
        · rw [if_pos hu] at hgs
          rw [hu] at hvu
          go_wp2_with (first
            | (at_lookup; refine wpList_lookup_seen _ rfl _ _ 72 rfl 9 4 Tryd.underlying9 Tryd.underlying72 Tryd.underlying4 (zero4 _) (w.heap.size + 1) k _ rfl hown s rfl (by unfold maxLen; omega) ?_)
            | (go_at_call 37; refine (Tryd.utf8_ValidString s wr (by omega) hT2).mono ?_; rintro e w2 ⟨rfl, hb2⟩)
            | (at_mapUpdate; refine wpList_mapUpdate_own _ rfl _ _ _ 72 rfl 9 4 (string_keyed Tryd.underlying9) Tryd.underlying72 (plainElem Tryd.prog 4) (w.heap.size + 1) k _ rfl (ownsMap_below hown hb2 hsw) (by unfold maxLen; omega) _ _ _ rfl rfl (WideMaps.keyOf_string_mk Tryd.underlying9 (show s.size ≤ maxLen by unfold maxLen; omega)) _ [] (plainElem_bool Tryd.underlying4 true) ?_; intro w3 hown3 hgrow3)
            | go_in)
          go_roundw
          case rel =>
            refine ⟨k + 1, by omega, by go_num, ?_, ?_, ?_, ⟨?_⟩⟩
            · rw [take_snoc l4 k s hs, seenSet_snoc]
              exact hown3
            · exact (hbw.trans (hb2.mono (by omega))).grown hgrow3 (by have := hb2.size; omega) (fun j e => by cases e; exact Nat.le_refl _)
            · have := hgrow3.size
              have := hb2.size
              omega
            · rw [← hgs]
              exact hgo.out
          case measure => simp [intOf]; omega
        · rw [if_neg hu] at hgs
          rw [Bool.eq_false_iff.2 hu] at hvu
          go_wp2_with (first
            | (at_lookup; refine wpList_lookup_seen _ rfl _ _ 72 rfl 9 4 Tryd.underlying9 Tryd.underlying72 Tryd.underlying4 (zero4 _) (w.heap.size + 1) k _ rfl hown s rfl (by unfold maxLen; omega) ?_)
            | (go_at_call 37; refine (Tryd.utf8_ValidString s wr (by omega) hT2).mono ?_; rintro e w2 ⟨rfl, hb2⟩)
            | go_in)
          go_ret
          exact ⟨by rw [plainB, ← hgo.out, hgs]; rfl, hw1.trans ((hbw.trans (hb2.mono (by omega))).mono (by omega))⟩
    · obtain rfl : k = l4.length := by omega
      have hnm : namesGo [] l4 = true := by rw [← hgo.out, List.drop_length, namesGo]
      have hcell : ∀ j v, (#[.int .i64 a0, .bool a1, .int .i64 a2, .string a3, .slice A4 l4.length c4, .slice A5 l5.length c5] : Array Value)[j]? = some v → wr.cell? ⟨w.heap.size, j, none⟩ = some v := fun j v h => (hbw.cell (Nat.lt_succ_self _)).trans (by rw [World.cell?, hbox]; exact h)
      have hc0 := hcell 0 _ rfl
      have hc1 := hcell 1 _ rfl
      have hc2 := hcell 2 _ rfl
      have hc3 := hcell 3 _ rfl
      have hc4' := hcell 4 _ rfl
      have hc5 := hcell 5 _ rfl
      have hT2 := Utf8Tabs_below hT (show Below w1.heap.size w1 wr by rw [hsz]; exact hbw)
      have hvu := valid_utf a3.data.toList
      have hpl := plainB_of a0 a1 a2 a3 l4 l5 hnm
      clear hcell hbox hown hgo
      by_cases k1 : a0 = 1
      · rw [if_pos k1] at hpl
        subst k1
        go_wp2
        all_goals go_ret
        all_goals
          refine ⟨?_, hw1.trans (by first | exact hbw.mono (by omega) | exact (hbw.trans (hb2.mono (by omega))).mono (by omega))⟩
          show Ending.returned (Value.bool _) = Ending.returned (Value.bool _)
          rw [hpl] <;> first | done | (simp; done) | (simp [*]; done) | (simp; intros; omega) | (simp_all; done) | (simp_all; intros; omega)
      by_cases k2 : a0 = 2
      · rw [if_neg k1, if_pos k2] at hpl
        subst k2
        go_wp2
        all_goals go_ret
        all_goals
          refine ⟨?_, hw1.trans (by first | exact hbw.mono (by omega) | exact (hbw.trans (hb2.mono (by omega))).mono (by omega))⟩
          show Ending.returned (Value.bool _) = Ending.returned (Value.bool _)
          rw [hpl] <;> first | done | (simp; done) | (simp [*]; done) | (simp; intros; omega) | (simp_all; done) | (simp_all; intros; omega)
      by_cases k3 : a0 = 3
      · rw [if_neg k1, if_neg k2, if_pos k3] at hpl
        subst k3
        go_wp2_with (first | (go_at_call 38; refine (fits_walk a2 wr).mono ?_; rintro e w2 ⟨rfl, rfl⟩) | go_in)
        all_goals go_ret
        all_goals
          refine ⟨?_, hw1.trans (by first | exact hbw.mono (by omega) | exact (hbw.trans (hb2.mono (by omega))).mono (by omega))⟩
          show Ending.returned (Value.bool _) = Ending.returned (Value.bool _)
          rw [hpl] <;> first | done | (simp; done) | (simp [*]; done) | (simp; intros; omega) | (simp_all; done) | (simp_all; intros; omega)
      by_cases k4 : a0 = 4
      · rw [if_neg k1, if_neg k2, if_neg k3, if_pos k4] at hpl
        subst k4
        go_wp2_with (first | (go_at_call 37; refine (Tryd.utf8_ValidString a3 wr (by omega) hT2).mono ?_; rintro e w2 ⟨rfl, hb2⟩; rw [hvu]) | go_in)
        all_goals go_ret
        all_goals
          refine ⟨?_, hw1.trans (by first | exact hbw.mono (by omega) | exact (hbw.trans (hb2.mono (by omega))).mono (by omega))⟩
          show Ending.returned (Value.bool _) = Ending.returned (Value.bool _)
          rw [hpl] <;> first | done | (simp; done) | (simp [*]; done) | (simp; intros; omega) | (simp_all; done) | (simp_all; intros; omega)
      by_cases k5 : a0 = 5
      · rw [if_neg k1, if_neg k2, if_neg k3, if_neg k4, if_pos k5] at hpl
        subst k5
        go_wp2
        all_goals go_ret
        all_goals
          refine ⟨?_, hw1.trans (by first | exact hbw.mono (by omega) | exact (hbw.trans (hb2.mono (by omega))).mono (by omega))⟩
          show Ending.returned (Value.bool _) = Ending.returned (Value.bool _)
          rw [hpl] <;> first | done | (simp; done) | (simp [*]; done) | (simp; intros; omega) | (simp_all; done) | (simp_all; intros; omega)
      by_cases k6 : a0 = 6
      · rw [if_neg k1, if_neg k2, if_neg k3, if_neg k4, if_neg k5, if_pos k6] at hpl
        subst k6
        go_wp2
        all_goals go_ret
        all_goals
          refine ⟨?_, hw1.trans (by first | exact hbw.mono (by omega) | exact (hbw.trans (hb2.mono (by omega))).mono (by omega))⟩
          show Ending.returned (Value.bool _) = Ending.returned (Value.bool _)
          rw [hpl] <;> first | done | (simp; done) | (simp [*]; done) | (simp; intros; omega) | (simp_all; done) | (simp_all; intros; omega)
      rw [if_neg k1, if_neg k2, if_neg k3, if_neg k4, if_neg k5, if_neg k6] at hpl
      have m1 : (a0 == 1) = false := beq_eq_false_iff_ne.2 k1
      have m2 : (a0 == 2) = false := beq_eq_false_iff_ne.2 k2
      have m3 : (a0 == 3) = false := beq_eq_false_iff_ne.2 k3
      have m4 : (a0 == 4) = false := beq_eq_false_iff_ne.2 k4
      have m5 : (a0 == 5) = false := beq_eq_false_iff_ne.2 k5
      have m6 : (a0 == 6) = false := beq_eq_false_iff_ne.2 k6
      clear k1 k2 k3 k4 k5 k6
      go_wp2
      all_goals go_ret
      all_goals
        refine ⟨?_, hw1.trans (by first | exact hbw.mono (by omega) | exact (hbw.trans (hb2.mono (by omega))).mono (by omega))⟩
        show Ending.returned (Value.bool _) = Ending.returned (Value.bool _)
        rw [hpl] <;> first | done | (simp; done) | (simp [*]; done) | (simp; intros; omega) | (simp_all; done) | (simp_all; intros; omega)

end Go.Proofs.YtldlkoncndlbhaaDoor.Pl

/- How a string stands between quotes, in plain words, and what the library's encoder makes of what its decoder read. -/
namespace Go.Proofs.YtldlkoncndlbhaaDoor.Utf
open Go.Lib
set_option linter.unusedSimpArgs false

/-- A hexadecimal digit. -/
def hexOf (n : Nat) : UInt8 := UInt8.ofNat (if n < 10 then 48 + n else 87 + n)
/-- What is written for the rune that begins here. -/
def piece (l : List UInt8) : List UInt8 :=
  if wid l = 0 then [239, 191, 189]
  else if l.head? = some 34 ∨ l.head? = some 92 then [92, l.headD 0]
  else if (l.headD 0).toNat < 32 then [92, 117, 48, 48, hexOf ((l.headD 0).toNat / 16), hexOf ((l.headD 0).toNat % 16)]
  else l.take (wid l)
/-- How far it goes. -/
def adv (l : List UInt8) : Nat := if wid l = 0 then 1 else wid l
theorem adv_pos (l : List UInt8) : 0 < adv l := by unfold adv; split <;> omega
def inner (l : List UInt8) : List UInt8 := if _h : l = [] then [] else piece l ++ inner (l.drop (adv l))
termination_by l.length
decreasing_by
  rw [List.length_drop]
  have : 0 < l.length := List.length_pos_iff.2 _h
  have := adv_pos l
  omega
def inQuotes (l : List UInt8) : List UInt8 := 34 :: inner l ++ [34]

theorem u8_ext {a b : UInt8} (h : a.toNat = b.toNat) : a = b := UInt8.toNat.inj h

theorem cont_iff (b : UInt8) : cont b = true ↔ b.toNat / 64 = 2 := by unfold cont; exact beq_iff_eq
theorem wid_shape (l : List UInt8) (h : wid l ≠ 0) :
    (∃ a r, l = a :: r ∧ a.toNat < 128 ∧ wid l = 1) ∨ (∃ a b r, l = a :: b :: r ∧ 194 ≤ a.toNat ∧ a.toNat < 224 ∧ b.toNat / 64 = 2 ∧ wid l = 2)
    ∨ (∃ a b c r, l = a :: b :: c :: r ∧ 224 ≤ a.toNat ∧ a.toNat < 240 ∧ b.toNat / 64 = 2 ∧ c.toNat / 64 = 2 ∧ 2048 ≤ three a b c ∧ ¬ (55296 ≤ three a b c ∧ three a b c < 57344) ∧ wid l = 3)
    ∨ (∃ a b c d r, l = a :: b :: c :: d :: r ∧ 240 ≤ a.toNat ∧ a.toNat < 245 ∧ b.toNat / 64 = 2 ∧ c.toNat / 64 = 2 ∧ d.toNat / 64 = 2 ∧ 65536 ≤ four a b c d ∧ four a b c d ≤ 1114111 ∧ wid l = 4) := by
  cases l with
  | nil => exact absurd rfl h
  | cons a r =>
    generalize hw : wid (a :: r) = n at h ⊢
    have hl : lead a r = n := hw
    unfold lead at hl
    split at hl
    · exact .inl ⟨a, r, rfl, by assumption, hl.symm⟩
    · split at hl
      · rename_i h1 h2
        match r, hl with
        | [], hl => exact absurd hl.symm h
        | b :: r, hl =>
          simp only [w2] at hl
          split at hl
          · rename_i h3
            exact .inr (.inl ⟨a, b, r, rfl, h2.1, h2.2, (cont_iff b).1 h3, hl.symm⟩)
          · exact absurd hl.symm h
      · split at hl
        · rename_i h1 h2 h3
          match r, hl with
          | [], hl => exact absurd hl.symm h
          | [b], hl => exact absurd hl.symm h
          | b :: c :: r, hl =>
            simp only [w3] at hl
            split at hl
            · rename_i h4
              exact .inr (.inr (.inl ⟨a, b, c, r, rfl, h3.1, h3.2, (cont_iff b).1 h4.1, (cont_iff c).1 h4.2.1, h4.2.2.1, h4.2.2.2, hl.symm⟩))
            · exact absurd hl.symm h
        · split at hl
          · rename_i h1 h2 h3 h5
            match r, hl with
            | [], hl => exact absurd hl.symm h
            | [b], hl => exact absurd hl.symm h
            | [b, c], hl => exact absurd hl.symm h
            | b :: c :: d :: r, hl =>
              simp only [w4] at hl
              split at hl
              · rename_i h4
                exact .inr (.inr (.inr ⟨a, b, c, d, r, rfl, h5.1, h5.2, (cont_iff b).1 h4.1, (cont_iff c).1 h4.2.1, (cont_iff d).1 h4.2.2.1, h4.2.2.2.1, h4.2.2.2.2, hl.symm⟩))
              · exact absurd hl.symm h
          · exact absurd hl.symm h

/-- What the decoder reads where a rune begins. -/
theorem dec_one (a : UInt8) (r : List UInt8) (h : a.toNat < 128) : decodeL (a :: r) = (a.toNat, 1) := by
  rw [dec_cons]
  unfold decodeN
  rw [if_pos h]
theorem dec_two (a b : UInt8) (r : List UInt8) (h0 : 194 ≤ a.toNat) (h1 : a.toNat < 224) (hb : b.toNat / 64 = 2) : decodeL (a :: b :: r) = (two a b, 2) := by
  rw [dec_cons]
  simp only [List.getD_cons_zero, List.getD_cons_succ, List.length_cons]
  unfold decodeN two
  rw [if_neg (by omega), if_pos ⟨by omega, by omega, hb⟩, if_pos (by omega)]
theorem dec_three (a b c : UInt8) (r : List UInt8) (h0 : 224 ≤ a.toNat) (h1 : a.toNat < 240) (hb : b.toNat / 64 = 2) (hc : c.toNat / 64 = 2) (h2 : 2048 ≤ three a b c) (h3 : ¬ (55296 ≤ three a b c ∧ three a b c < 57344)) : decodeL (a :: b :: c :: r) = (three a b c, 3) := by
  rw [dec_cons]
  simp only [List.getD_cons_zero, List.getD_cons_succ, List.length_cons]
  unfold three at h2 h3 ⊢
  unfold decodeN
  rw [if_neg (by omega), if_neg (by omega), if_pos ⟨by omega, ⟨by omega, hb⟩, by omega, hc⟩, if_pos ⟨by omega, by omega⟩]
theorem dec_four (a b c d : UInt8) (r : List UInt8) (h0 : 240 ≤ a.toNat) (h1 : a.toNat < 245) (hb : b.toNat / 64 = 2) (hc : c.toNat / 64 = 2) (hd : d.toNat / 64 = 2) (h2 : 65536 ≤ four a b c d) (h3 : four a b c d ≤ 1114111) : decodeL (a :: b :: c :: d :: r) = (four a b c d, 4) := by
  rw [dec_cons]
  simp only [List.getD_cons_zero, List.getD_cons_succ, List.length_cons]
  unfold four at h2 h3 ⊢
  unfold decodeN
  rw [if_neg (by omega), if_neg (by omega), if_neg (by omega), if_pos ⟨by omega, ⟨by omega, hb⟩, ⟨by omega, hc⟩, by omega, hd⟩, if_pos ⟨by omega, by omega⟩]

theorem enc_byte (n : Int) (a : UInt8) (h : n = a.toNat) : n.toNat.toUInt8 = a := by
  subst h
  exact u8_ext (by simp)
/-- What the decoder read, encoded, is what stood there. -/
theorem enc_dec (l : List UInt8) (h : wid l ≠ 0) : encodeRune ((decodeL l).1 : Int) = l.take (wid l) := by
  rcases wid_shape l h with ⟨a, r, rfl, h1, hw⟩ | ⟨a, b, r, rfl, h0, h1, hb, hw⟩ | ⟨a, b, c, r, rfl, h0, h1, hb, hc, h2, h3, hw⟩ | ⟨a, b, c, d, r, rfl, h0, h1, hb, hc, hd, h2, h3, hw⟩
  · rw [hw, dec_one a r h1, encodeRune, encodeRuneZ_one (by omega) (by dsimp only; omega)]
    simp only [List.map_cons, List.map_nil, List.take_succ_cons, List.take_zero]
    rw [enc_byte _ a rfl]
  · have ha := a.toNat_lt
    have hb' := b.toNat_lt
    rw [hw, dec_two a b r h0 h1 hb, encodeRune]
    dsimp only
    unfold two
    rw [encodeRuneZ_two (by omega) (by omega)]
    simp only [List.map_cons, List.map_nil, List.take_succ_cons, List.take_zero]
    rw [enc_byte _ a (by omega), enc_byte _ b (by omega)]
  · have ha := a.toNat_lt
    have hb' := b.toNat_lt
    have hc' := c.toNat_lt
    rw [hw, dec_three a b c r h0 h1 hb hc h2 h3, encodeRune]
    dsimp only
    unfold three at h2 h3 ⊢
    rw [encodeRuneZ_three (by omega)]
    simp only [List.map_cons, List.map_nil, List.take_succ_cons, List.take_zero]
    rw [enc_byte _ a (by omega), enc_byte _ b (by omega), enc_byte _ c (by omega)]
  · have ha := a.toNat_lt
    have hb' := b.toNat_lt
    have hc' := c.toNat_lt
    have hd' := d.toNat_lt
    rw [hw, dec_four a b c d r h0 h1 hb hc hd h2 h3, encodeRune]
    dsimp only
    unfold four at h2 h3 ⊢
    rw [encodeRuneZ_four (by omega) (by omega)]
    simp only [List.map_cons, List.map_nil, List.take_succ_cons, List.take_zero]
    rw [enc_byte _ a (by omega), enc_byte _ b (by omega), enc_byte _ c (by omega), enc_byte _ d (by omega)]


theorem dec_adv (l : List UInt8) (hne : l ≠ []) : (decodeL l).2 = adv l := by
  unfold adv
  by_cases h : wid l = 0
  · rw [if_pos h, dec_bad l hne h]
  · rw [if_neg h, (dec_good l h).1]
/-- Below 128 it is the first byte. -/
theorem dec_small (l : List UInt8) (hne : l ≠ []) (h : (decodeL l).1 < 128) : ∃ a r, l = a :: r ∧ wid l = 1 ∧ (decodeL l).1 = a.toNat := by
  by_cases hw : wid l = 0
  · rw [dec_bad l hne hw] at h
    simp at h
  · rcases wid_shape l hw with ⟨a, r, rfl, h1, hw⟩ | ⟨a, b, r, rfl, h0, h1, hb, hw⟩ | ⟨a, b, c, r, rfl, h0, h1, hb, hc, h2, h3, hw⟩ | ⟨a, b, c, d, r, rfl, h0, h1, hb, hc, hd, h2, h3, hw⟩
    · exact ⟨a, r, rfl, hw, by rw [dec_one a r h1]⟩
    · rw [dec_two a b r h0 h1 hb] at h
      unfold two at h
      dsimp only at h
      omega
    · rw [dec_three a b c r h0 h1 hb hc h2 h3] at h
      dsimp only at h
      omega
    · rw [dec_four a b c d r h0 h1 hb hc hd h2 h3] at h
      dsimp only at h
      omega
/-- A first byte below 128 is what the decoder reads. -/
theorem dec_head (a : UInt8) (r : List UInt8) (h : a.toNat < 128) : (decodeL (a :: r)).1 = a.toNat ∧ wid (a :: r) = 1 := by
  refine ⟨by rw [dec_one a r h], ?_⟩
  show lead a r = 1
  unfold lead
  rw [if_pos h]

theorem piece_mark (l : List UInt8) (hne : l ≠ []) (h : (decodeL l).1 = 34 ∨ (decodeL l).1 = 92) : piece l = [92] ++ encodeRune ((decodeL l).1 : Int) := by
  obtain ⟨a, r, rfl, hw, hc⟩ := dec_small l hne (by omega)
  rw [enc_dec _ (by omega), hw]
  unfold piece
  have ha : a = 34 ∨ a = 92 := h.elim (fun e => .inl (u8_ext (by rw [← hc, e]; rfl))) (fun e => .inr (u8_ext (by rw [← hc, e]; rfl)))
  rw [if_neg (by omega), if_pos (ha.elim (fun e => .inl (by rw [e]; rfl)) (fun e => .inr (by rw [e]; rfl)))]
  rfl
theorem piece_low (l : List UInt8) (hne : l ≠ []) (h0 : ¬ ((decodeL l).1 = 34 ∨ (decodeL l).1 = 92)) (h : (decodeL l).1 < 32) : piece l = [92, 117, 48, 48] ++ [hexOf ((decodeL l).1 / 16)] ++ [hexOf ((decodeL l).1 % 16)] := by
  obtain ⟨a, r, rfl, hw, hc⟩ := dec_small l hne (by omega)
  unfold piece
  rw [hc] at h0 h ⊢
  rw [if_neg (by omega), if_neg (fun e => h0 (e.elim (fun e => .inl (by rw [Option.some.inj e]; rfl)) (fun e => .inr (by rw [Option.some.inj e]; rfl))))]
  exact if_pos h
theorem piece_plain (l : List UInt8) (hne : l ≠ []) (h0 : ¬ ((decodeL l).1 = 34 ∨ (decodeL l).1 = 92)) (h : ¬ (decodeL l).1 < 32) : piece l = encodeRune ((decodeL l).1 : Int) := by
  unfold piece
  by_cases hw : wid l = 0
  · rw [if_pos hw, dec_bad l hne hw]
    decide
  · rw [if_neg hw, enc_dec l hw]
    cases l with
    | nil => exact absurd rfl hne
    | cons a r =>
      by_cases ha : a.toNat < 128
      · obtain ⟨hd, _⟩ := dec_head a r ha
        rw [hd] at h0 h
        rw [if_neg (fun e => h0 (e.elim (fun e => .inl (by rw [Option.some.inj e]; rfl)) (fun e => .inr (by rw [Option.some.inj e]; rfl))))]
        exact if_neg h
      · rw [if_neg (fun e => ha (e.elim (fun e => by rw [Option.some.inj e]; decide) (fun e => by rw [Option.some.inj e]; decide))), if_neg (fun e => ha (by rw [List.headD_cons] at e; omega))]

end Go.Proofs.YtldlkoncndlbhaaDoor.Utf

/- A tree's text, in plain words. -/
namespace Go.Proofs.YtldlkoncndlbhaaDoor.Tx
open Go.RowKit Go.Proofs.YtldlkoncndlbhaaDoor.Utf Go.Proofs.YtldlkoncndlbhaaDoor.Pl Go.Proofs.YtldlkoncndlbhaaDoor.PSh Go.Proofs.YtldlkoncndlbhaaDoorW.PrintWords Go.Proofs.YtldlkoncndlbhaaDoorW.PrintLast Go.Proofs.YtldlkoncndlbhaaDoorW.PrintMore

/-- So many texts, a comma between. -/
def joined (g : Nat → List UInt8) : Nat → List UInt8
  | 0 => []
  | i + 1 => joined g i ++ ((if i = 0 then [] else [44]) ++ g i)
/-- A value's text, of its kids' texts. -/
def txtOf (g : Int → List UInt8) (x : S39) : List UInt8 :=
  if x.f0 = 1 then [110, 117, 108, 108]
  else if x.f0 = 2 then (if x.f1 = true then [116, 114, 117, 101] else [102, 97, 108, 115, 101])
  else if x.f0 = 3 then Lib.itoa x.f2
  else if x.f0 = 4 then inQuotes x.f3.data.toList
  else if x.f0 = 5 then [91] ++ joined (fun i => g (rd x.f5 (i : Int))) x.f5.length ++ [93]
  else [123] ++ joined (fun i => inQuotes (rdOf ByteArray.empty x.f4 (i : Int)).data.toList ++ [58] ++ g (rd x.f5 (i : Int))) x.f5.length ++ [125]
/-- The text of the value at a place. -/
def txt (l : List S39) : Nat → Int → List UInt8
  | 0, _ => []
  | f + 1, a => txtOf (txt l f) (rd_T39 l a)
theorem txt_succ (l : List S39) (f : Nat) (a : Int) : txt l (f + 1) a = txtOf (txt l f) (rd_T39 l a) := rfl
theorem txtOf_1 (g : Int → List UInt8) (x : S39) (h : x.f0 = 1) : txtOf g x = [110, 117, 108, 108] := by unfold txtOf; rw [if_pos h]
theorem txtOf_2 (g : Int → List UInt8) (x : S39) (h : x.f0 = 2) : txtOf g x = if x.f1 = true then [116, 114, 117, 101] else [102, 97, 108, 115, 101] := by unfold txtOf; rw [if_neg (by omega), if_pos h]
theorem txtOf_3 (g : Int → List UInt8) (x : S39) (h : x.f0 = 3) : txtOf g x = Lib.itoa x.f2 := by unfold txtOf; rw [if_neg (by omega), if_neg (by omega), if_pos h]
theorem txtOf_4 (g : Int → List UInt8) (x : S39) (h : x.f0 = 4) : txtOf g x = inQuotes x.f3.data.toList := by unfold txtOf; rw [if_neg (by omega), if_neg (by omega), if_neg (by omega), if_pos h]
theorem txtOf_5 (g : Int → List UInt8) (x : S39) (h : x.f0 = 5) : txtOf g x = [91] ++ joined (fun i => g (rd x.f5 (i : Int))) x.f5.length ++ [93] := by unfold txtOf; rw [if_neg (by omega), if_neg (by omega), if_neg (by omega), if_neg (by omega), if_pos h]
theorem txtOf_6 (g : Int → List UInt8) (x : S39) (h : x.f0 = 6) : txtOf g x = [123] ++ joined (fun i => inQuotes (rdOf ByteArray.empty x.f4 (i : Int)).data.toList ++ [58] ++ g (rd x.f5 (i : Int))) x.f5.length ++ [125] := by unfold txtOf; rw [if_neg (by omega), if_neg (by omega), if_neg (by omega), if_neg (by omega), if_neg (by omega)]
def plainOf (x : S39) : Bool := plainB x.f0 x.f1 x.f2 x.f3 x.f4 x.f5
/-- A tree: each value such as there may be, each kid ahead of it. -/
def Tree (l : List S39) : Prop := ∀ a : Int, 0 ≤ a → a < l.length → plainOf (rd_T39 l a) = true ∧ ∀ i : Nat, i < (rd_T39 l a).f5.length → 0 ≤ rd (rd_T39 l a).f5 (i : Int) ∧ rd (rd_T39 l a).f5 (i : Int) < a
/-- Of a size that can be written. -/
def Sized (l : List S39) : Prop := ∀ a : Int, 0 ≤ a → a < l.length → (rd_T39 l a).f3.size ≤ 17592186044416 ∧ (rd_T39 l a).f5.length ≤ 140737488355328 ∧ ∀ i : Nat, i < (rd_T39 l a).f4.length → (rdOf ByteArray.empty (rd_T39 l a).f4 (i : Int)).size ≤ 17592186044416

theorem joined_le (g : Nat → List UInt8) : ∀ n i, i ≤ n → (joined g i).length ≤ (joined g n).length
  | 0, i, h => by obtain rfl : i = 0 := by omega
                  exact Nat.le_refl _
  | n + 1, i, h => by
    by_cases e : i = n + 1
    · subst e; exact Nat.le_refl _
    · have := joined_le g n i (by omega)
      rw [joined, List.length_append]
      omega
theorem joined_succ (g : Nat → List UInt8) (i : Nat) : joined g (i + 1) = joined g i ++ ((if i = 0 then [] else [44]) ++ g i) := rfl

/-- What 'plain' says of the kinds. -/
theorem plain_kind {x : S39} (h : plainOf x = true) : x.f0 = 1 ∨ x.f0 = 2 ∨ (x.f0 = 3 ∧ -4611686018427387903 ≤ x.f2 ∧ x.f2 ≤ 4611686018427387903) ∨ x.f0 = 4 ∨ x.f0 = 5 ∨ (x.f0 = 6 ∧ x.f4.length = x.f5.length) := by
  unfold plainOf plainB at h
  split at h
  · by_cases k1 : x.f0 = 1
    · exact .inl k1
    rw [if_neg k1] at h
    by_cases k2 : x.f0 = 2
    · exact .inr (.inl k2)
    rw [if_neg k2] at h
    by_cases k3 : x.f0 = 3
    · rw [if_pos k3] at h
      simp only [Bool.and_eq_true, decide_eq_true_eq] at h
      exact .inr (.inr (.inl ⟨k3, h.2⟩))
    rw [if_neg k3] at h
    by_cases k4 : x.f0 = 4
    · exact .inr (.inr (.inr (.inl k4)))
    rw [if_neg k4] at h
    by_cases k5 : x.f0 = 5
    · exact .inr (.inr (.inr (.inr (.inl k5))))
    rw [if_neg k5] at h
    by_cases k6 : x.f0 = 6
    · rw [if_pos k6] at h
      simp only [Bool.and_eq_true, beq_iff_eq] at h
      exact .inr (.inr (.inr (.inr (.inr ⟨k6, h.1.1.1⟩))))
    · rw [if_neg k6] at h
      cases h
  · cases h

end Go.Proofs.YtldlkoncndlbhaaDoor.Tx

/- strings.Builder's writing methods at this translation (its copy check ends without an answer where the model leaves it open), by the kit's laws for a builder that the call made. -/
set_option linter.unusedVariables false
namespace Go.Proofs.YtldlkoncndlbhaaDoor.Bu
open Go.RowKit

theorem sizeBuilder : (Tryd.prog.info? 51).map (fun i => i.size) = some 2 := by kernel_rfl
theorem infoByte : (Tryd.prog.info? 5).map (fun i => (i.zero, i.size, i.bytes)) = some (some (.int .u8 0), 1, 1) := by kernel_rfl
theorem lies : liesAt Tryd.prog Tryd.prog.depth 51 (2 / Tryd.prog.cellsOf 51) 0 51 1 = true := by kernel_rfl

set_option maxRecDepth 100000 in
theorem check_used (b : Nat) (w : World) (h0 : w.cell? ⟨b, 0, none⟩ = some (.pointer (some ⟨b, 0, none⟩))) :
    Calls Tryd.prog 43 #[.pointer (some ⟨b, 0, none⟩)] w fun e w' => e = .returned (.tuple #[]) ∧ w' = w := by
  obtain ⟨j, hj, _⟩ := Option.map_eq_some_iff.1 sizeBuilder
  go_enter Tryd.func43, Tryd.ntmps43
  go_wp2
  rw [Lib.run_neq_ptr_same w _ Tryd.underlying49 hj]
  go_wp2
  go_end0
  exact ⟨rfl, rfl⟩

set_option maxRecDepth 100000 in
theorem check_fresh (b : Nat) (w : World) (h0 : w.cell? ⟨b, 0, none⟩ = some (.pointer none)) (hsh : w.shape? b = some (51, 2)) (hfz : w.frozen? ⟨b, 0, none⟩ = false) :
    Calls Tryd.prog 43 #[.pointer (some ⟨b, 0, none⟩)] w fun e w' => e = .returned (.tuple #[]) ∧ w' = w.setCell ⟨b, 0, none⟩ (.pointer (some ⟨b, 0, none⟩)) := by
  obtain ⟨j, hj, hjs⟩ := Option.map_eq_some_iff.1 sizeBuilder
  go_enter Tryd.func43, Tryd.ntmps43
  go_wp2
  rw [Lib.run_to_unsafe w ⟨b, 0, none⟩ Tryd.underlying49 Tryd.underlying88 hj (by rw [hjs]; decide) hsh (Nat.zero_lt_succ 1)]
  simp only [Result.andThen]
  rw [Oper.upon_value]
  go_wp2
  rw [run_callFunc_extern Tryd.func54 (by kernel_rfl) (by kernel_rfl) (by kernel_rfl) (e := Extern.AbiNoEscape.same) (by kernel_rfl)]
  rw [Lib.run_noEscape]
  simp only [Result.andThen]
  rw [Oper.upon_value]
  go_wp2
  rw [Lib.run_from_unsafe w ⟨b, 0, none⟩ Tryd.underlying88 Tryd.underlying49 hj hsh lies]
  simp only [Result.andThen]
  rw [Oper.upon_value]
  go_wp2
  go_end0
  exact ⟨rfl, rfl⟩

theorem check (B b : Nat) (bs : List Value) (w : World) (h : Lib.IsBuilder 51 5 B b bs w) :
    Calls Tryd.prog 43 #[.pointer (some ⟨b, 0, none⟩)] w fun e w' => e = .returned (.tuple #[]) ∧ (Lib.BuilderAt 51 5 B b (.pointer (some ⟨b, 0, none⟩)) bs w' ∧ Below B w w' ∧ Lib.OthersKept 5 (some b) w w') := by
  rcases h with h | h
  · refine (check_fresh b w h.cell0 h.shape h.frozen0).mono ?_
    rintro e w' ⟨rfl, rfl⟩
    exact ⟨rfl, h.used _, (Below.refl B w).setCell (p := ⟨b, 0, none⟩) h.1 _, (Lib.OthersKept.refl _ _ w).setCell ⟨b, 0, none⟩ rfl _⟩
  · refine (check_used b w h.cell0).mono ?_
    rintro e w' ⟨rfl, rfl⟩
    exact ⟨rfl, h, Below.refl B _, Lib.OthersKept.refl _ _ _⟩

set_option maxHeartbeats 2000000 in
set_option maxRecDepth 100000 in
theorem writeByte (B b : Nat) (bs : List Value) (c : Int) (w : World) (h : Lib.IsBuilder 51 5 B b bs w) (hlen : bs.length + 1 ≤ 140737488355328) (hBw : B ≤ w.heap.size) :
    Calls Tryd.prog 28 #[.pointer (some ⟨b, 0, none⟩), .int .u8 c] w fun e w' => e = .returned .nilIface ∧ (Lib.BuilderAt 51 5 B b (.pointer (some ⟨b, 0, none⟩)) (bs ++ [.int .u8 c]) w' ∧ Below B w w' ∧ Lib.OthersKept 5 (some b) w w') := by
  obtain ⟨i0, hi, hz0, hz1, hz2⟩ := info_parts infoByte
  go_enter Tryd.func28, Tryd.ntmps28
  go_wp2_with (go_at_call 43; refine (check B b bs _ h).mono ?_)
  rintro e w1 ⟨rfl, h1, hb1, hk1⟩
  obtain ⟨hB, v, hbk, hown, hne⟩ := h1
  have c0 : w1.cell? ⟨b, 0, none⟩ = some (.pointer (some ⟨b, 0, none⟩)) := by rw [Lib.cell_of_heap hbk]; rfl
  have c1 : w1.cell? ⟨b, 1, none⟩ = some v := by rw [Lib.cell_of_heap hbk]; rfl
  go_wp2_with (at_builtin; refine wpList_append_own _ rfl _ _ 30 rfl B 5 i0 (.int .u8 0) 1 1 Tryd.underlying30 hi hz0 hz1 hz2 rfl (by decide) _ _ _ rfl (hown.alloc _) ⟨w1.heap.size, 0, none⟩ 1 1 [.int .u8 c] rfl rfl ?c1 ?c2 ?c3 ?c4 ?c5 ?_)
  case c1 =>
    intro j u hj
    match j, hj with
    | 0, hj => simp at hj; subst hj; simp [Addr.add]
  case c2 => intro u hu; simp at hu; subst hu; rfl
  case c3 => unfold maxLen; omega
  case c4 => omega
  case c5 => have := hb1.size; simp; omega
  intro v' w2 hown' hgrow _
  have hlt : b < w1.heap.size := by
    rcases Nat.lt_or_ge b w1.heap.size with h' | h'
    · exact h'
    · simp [Array.getElem?_eq_none h'] at hbk
  have hb2 : w2.heap[b]? = some (.cells #[.pointer (some ⟨b, 0, none⟩), v] 51 (0, 0)) := by
    rw [hgrow.block b (by simp; omega) (fun e => hne e.symm), Lib.alloc_old w1 _ b hlt]
    exact hbk
  have d0 : w2.cell? ⟨b, 0, none⟩ = some (.pointer (some ⟨b, 0, none⟩)) := by rw [Lib.cell_of_heap hb2]; rfl
  have d1 : w2.cell? ⟨b, 1, none⟩ = some v := by rw [Lib.cell_of_heap hb2]; rfl
  have f1 : w2.frozen? ⟨b, 1, none⟩ = false := Lib.frozen_of_heap hb2 1
  obtain ⟨g, cap, rfl⟩ : ∃ g cap, v' = .slice (some ⟨g, 0, none⟩) (bs.length + 1) cap := by
    rcases hown'.2 with ⟨_, h0⟩ | ⟨g, cap, cur, hv, _⟩
    · omega
    · exact ⟨g, cap, hv⟩
  go_wp2
  go_ret
  refine ⟨rfl, ?_, ?_, ((hk1.alloc _).grown hgrow (Lib.ownsRowF_kind (World.ownsRowF_of (hown.alloc _)))).setCell ⟨b, 1, none⟩ rfl _⟩
  · exact Lib.BuilderAt.put hB hb2 (bs' := bs ++ [.int .u8 c]) (by simpa using hown') (by decide)
  · exact ((hb1.alloc (by have := hb1.size; omega) _).grown hgrow (by have := hb1.size; simp; omega) (fun k hk => (hown.lt k hk).1)).setCell (p := ⟨b, 1, none⟩) hB _

set_option maxHeartbeats 2000000 in
set_option maxRecDepth 100000 in
theorem writeString (B b : Nat) (bs : List Value) (s : ByteArray) (w : World) (h : Lib.IsBuilder 51 5 B b bs w) (hlen : bs.length + s.size ≤ 140737488355328) (hBw : B ≤ w.heap.size) :
    Calls Tryd.prog 30 #[.pointer (some ⟨b, 0, none⟩), .string s] w fun e w' => e = .returned (.tuple #[.int .i64 s.size, .nilIface]) ∧ (Lib.BuilderAt 51 5 B b (.pointer (some ⟨b, 0, none⟩)) (bs ++ Lib.strCells s) w' ∧ Below B w w' ∧ Lib.OthersKept 5 (some b) w w') := by
  obtain ⟨i0, hi, hz0, hz1, hz2⟩ := info_parts infoByte
  go_enter Tryd.func30, Tryd.ntmps30
  go_wp2_with (go_at_call 43; refine (check B b bs _ h).mono ?_)
  rintro e w1 ⟨rfl, h1, hb1, hk1⟩
  obtain ⟨hB, v, hbk, hown, hne⟩ := h1
  have c0 : w1.cell? ⟨b, 0, none⟩ = some (.pointer (some ⟨b, 0, none⟩)) := by rw [Lib.cell_of_heap hbk]; rfl
  have c1 : w1.cell? ⟨b, 1, none⟩ = some v := by rw [Lib.cell_of_heap hbk]; rfl
  go_wp2_with (at_builtin; refine Lib.wpList_append_own_string _ rfl _ _ 30 9 rfl B 5 i0 Tryd.underlying30 Tryd.underlying9 hi hz0 hz1 hz2 _ _ _ rfl hown s rfl ?c3 ?c4 ?c5 ?_)
  case c3 => unfold maxLen; omega
  case c4 => omega
  case c5 => have := hb1.size; omega
  intro v' w2 hown' hgrow _
  have hlt : b < w1.heap.size := by
    rcases Nat.lt_or_ge b w1.heap.size with h' | h'
    · exact h'
    · simp [Array.getElem?_eq_none h'] at hbk
  have hb2 : w2.heap[b]? = some (.cells #[.pointer (some ⟨b, 0, none⟩), v] 51 (0, 0)) := by
    rw [hgrow.block b hlt (fun e => hne e.symm)]
    exact hbk
  have d0 : w2.cell? ⟨b, 0, none⟩ = some (.pointer (some ⟨b, 0, none⟩)) := by rw [Lib.cell_of_heap hb2]; rfl
  have d1 : w2.cell? ⟨b, 1, none⟩ = some v := by rw [Lib.cell_of_heap hb2]; rfl
  have f1 : w2.frozen? ⟨b, 1, none⟩ = false := Lib.frozen_of_heap hb2 1
  obtain ⟨ao, n', cap, rfl⟩ : ∃ ao n' cap, v' = .slice ao n' cap := by
    rcases hown'.2 with ⟨hv, _⟩ | ⟨g, cap, cur, hv, _⟩
    · exact ⟨_, _, _, hv⟩
    · exact ⟨_, _, _, hv⟩
  go_wp2
  go_ret2
  refine ⟨rfl, ?_, ?_, (hk1.grown hgrow (Lib.ownsRowF_kind (World.ownsRowF_of hown))).setCell ⟨b, 1, none⟩ rfl _⟩
  · exact Lib.BuilderAt.put hB hb2 (bs' := bs ++ Lib.strCells s) (by simpa [Lib.strCells_length] using hown') (by decide)
  · exact (hb1.grown hgrow (by have := hb1.size; omega) (fun k hk => (hown.lt k hk).1)).setCell (p := ⟨b, 1, none⟩) hB _

set_option maxHeartbeats 4000000 in
set_option maxRecDepth 100000 in
theorem writeRune (B b : Nat) (bs : List Value) (r : Int) (hr0 : -2147483648 ≤ r) (hr1 : r ≤ 2147483647) (w : World) (h : Lib.IsBuilder 51 5 B b bs w) (hlen : bs.length + 4 ≤ 140737488355328) (hBw : B ≤ w.heap.size) :
    Calls Tryd.prog 29 #[.pointer (some ⟨b, 0, none⟩), .int .i32 r] w fun e w' => e = .returned (.tuple #[.int .i64 (Lib.runeCells r).length, .nilIface]) ∧ (Lib.BuilderAt 51 5 B b (.pointer (some ⟨b, 0, none⟩)) (bs ++ Lib.runeCells r) w' ∧ Below B w w' ∧ Lib.OthersKept 5 (some b) w w') := by
  have hk4 := Lib.runeCells_le r
  go_enter Tryd.func29, Tryd.ntmps29
  go_wp2_with (go_at_call 43; refine (check B b bs _ h).mono ?_)
  rintro e w1 ⟨rfl, h1, hb1, hk1⟩
  obtain ⟨hB, v, hbk, hown, hne⟩ := h1
  obtain ⟨ao, cap, rfl⟩ : ∃ ao cap, v = .slice ao bs.length cap := by
    rcases hown.2 with ⟨hv, h0⟩ | ⟨g, cap, cur, hv, _⟩
    · exact ⟨none, 0, by rw [hv, h0]⟩
    · exact ⟨_, _, hv⟩
  have c0 : w1.cell? ⟨b, 0, none⟩ = some (.pointer (some ⟨b, 0, none⟩)) := by rw [Lib.cell_of_heap hbk]; rfl
  have c1 : w1.cell? ⟨b, 1, none⟩ = some (.slice ao bs.length cap) := by rw [Lib.cell_of_heap hbk]; rfl
  go_wp2_with (go_at_call 44; refine (Tryd.utf8_AppendRune_plain B _ bs.length bs r hr0 hr1 _ hown hlen (by have := hb1.size; omega)).mono ?_)
  rintro e w2 ⟨v', rfl, hown', o, hgrow⟩
  have hlt : b < w1.heap.size := by
    rcases Nat.lt_or_ge b w1.heap.size with h' | h'
    · exact h'
    · simp [Array.getElem?_eq_none h'] at hbk
  have hb2 : w2.heap[b]? = some (.cells #[.pointer (some ⟨b, 0, none⟩), .slice ao bs.length cap] 51 (0, 0)) := by
    rw [hgrow.block b (by simp; omega) (fun e => hne e.symm), Lib.alloc_old w1 _ b hlt]
    exact hbk
  have d0 : w2.cell? ⟨b, 0, none⟩ = some (.pointer (some ⟨b, 0, none⟩)) := by rw [Lib.cell_of_heap hb2]; rfl
  have d1 : w2.cell? ⟨b, 1, none⟩ = some (.slice ao bs.length cap) := by rw [Lib.cell_of_heap hb2]; rfl
  have f1 : w2.frozen? ⟨b, 1, none⟩ = false := Lib.frozen_of_heap hb2 1
  obtain ⟨g, cap', rfl⟩ : ∃ g cap', v' = .slice (some ⟨g, 0, none⟩) (bs.length + (Lib.runeCells r).length) cap' := by
    rcases hown'.2 with ⟨_, h0⟩ | ⟨g, cap', cur, hv, _⟩
    · omega
    · exact ⟨g, cap', hv⟩
  go_wp2
  go_ret2
  refine ⟨?_, ?_, ?_, ((hk1.alloc _).grown hgrow (Lib.ownsRowF_kind (World.ownsRowF_of (hown.alloc _)))).setCell ⟨b, 1, none⟩ rfl _⟩
  · have e : ((bs.length : Int) + ((Lib.runeCells r).length : Int) - (bs.length : Int)) = ((Lib.runeCells r).length : Int) := by omega
    simp [e]
  · exact Lib.BuilderAt.put hB hb2 (bs' := bs ++ Lib.runeCells r) (by simpa using hown') (by decide)
  · exact ((hb1.alloc (by have := hb1.size; omega) _).grown hgrow (by have := hb1.size; simp; omega) (fun k hk => (hown.lt k hk).1)).setCell (p := ⟨b, 1, none⟩) hB _

end Go.Proofs.YtldlkoncndlbhaaDoor.Bu

/- The program's 'Quote', walked by hand: a string between quotes. -/
set_option linter.unusedVariables false
set_option linter.unusedSimpArgs false
namespace Go.Proofs.YtldlkoncndlbhaaDoor.Qu
open Go.RowKit Go.Proofs.YtldlkoncndlbhaaDoor.Utf Go.Proofs.YtldlkoncndlbhaaDoor.Bu Go.Lib Go.Proofs.YtldlkoncndlbhaaDoorW.PrintWords Go.Proofs.YtldlkoncndlbhaaDoorW.PrintLast Go.Proofs.YtldlkoncndlbhaaDoorW.PrintMore

theorem iterPos_of {w : World} {b : Nat} {s : ByteArray} {pos : Nat} (h : w.heap[b]? = some (.stringIter s pos)) : w.iterPos b = pos := by
  simp [World.iterPos, h]
theorem byteCells_append (a b : List UInt8) : byteCells (a ++ b) = byteCells a ++ byteCells b := List.map_append
theorem below_drewN {B : Nat} {a w : World} (h : Below B a w) (n : Nat) : Below B a (w.drewN n) := h.trans ⟨rfl, rfl, rfl, Nat.le_refl _, fun _ _ => rfl⟩
/-- What the loop keeps: the builder holds 'out', the iterator stands at 'pos'. -/
def At (w : World) (k : Nat) (wr : World) (s : ByteArray) (out : List UInt8) (pos : Nat) : Prop :=
  Lib.IsBuilder 51 5 w.heap.size w.heap.size (byteCells out) wr ∧ wr.heap[k]? = some (.stringIter s pos) ∧ Below w.heap.size w wr ∧ w.heap.size < k
theorem At.drewN {w wr : World} {k : Nat} {s : ByteArray} {out : List UInt8} {pos : Nat} (h : At w k wr s out pos) (n : Nat) : At w k (wr.drewN n) s out pos := ⟨h.1, h.2.1, below_drewN h.2.2.1 n, h.2.2.2⟩
theorem piece_le (l : List UInt8) : (piece l).length ≤ 6 * adv l := by
  have h1 := wid_le l
  unfold piece adv
  split
  · simp
  · split
    · simp; omega
    · split
      · simp; omega
      · rw [List.length_take]; omega


theorem At.byte {w wr : World} {k : Nat} {s : ByteArray} {out : List UInt8} {pos : Nat} (h : At w k wr s out pos) (hl : out.length + 1 ≤ 140737488355328) (c : UInt8) (ci : Int) (hc : ci = c.toNat) :
    Calls Tryd.prog 28 #[.pointer (some ⟨w.heap.size, 0, none⟩), .int .u8 ci] wr fun e w' => e = .returned .nilIface ∧ At w k w' s (out ++ [c]) pos := by
  subst hc
  refine (writeByte w.heap.size w.heap.size (byteCells out) c.toNat wr h.1 (by rw [byteCells, List.length_map]; exact hl) h.2.2.1.size).mono ?_
  rintro e w1 ⟨rfl, h1, hb1, hk1⟩
  exact ⟨rfl, .inr (by rw [byteCells_append]; exact h1), hk1.iter h.2.1 (by have := h.2.2.2; omega), h.2.2.1.trans hb1, h.2.2.2⟩
theorem At.string {w wr : World} {k : Nat} {s : ByteArray} {out : List UInt8} {pos : Nat} (h : At w k wr s out pos) (t : ByteArray) (hl : out.length + t.size ≤ 140737488355328) :
    Calls Tryd.prog 30 #[.pointer (some ⟨w.heap.size, 0, none⟩), .string t] wr fun e w' => e = .returned (.tuple #[.int .i64 t.size, .nilIface]) ∧ At w k w' s (out ++ t.data.toList) pos := by
  refine (writeString w.heap.size w.heap.size (byteCells out) t wr h.1 (by rw [byteCells, List.length_map]; exact hl) h.2.2.1.size).mono ?_
  rintro e w1 ⟨rfl, h1, hb1, hk1⟩
  exact ⟨rfl, .inr (by rw [byteCells_append]; exact h1), hk1.iter h.2.1 (by have := h.2.2.2; omega), h.2.2.1.trans hb1, h.2.2.2⟩
theorem At.rune {w wr : World} {k : Nat} {s : ByteArray} {out : List UInt8} {pos : Nat} (h : At w k wr s out pos) (r : Nat) (hr : r ≤ 2147483647) (hl : out.length + 4 ≤ 140737488355328) :
    Calls Tryd.prog 29 #[.pointer (some ⟨w.heap.size, 0, none⟩), .int .i32 (r : Int)] wr fun e w' => (∃ n : Int, e = .returned (.tuple #[.int .i64 n, .nilIface])) ∧ At w k w' s (out ++ encodeRune r) pos := by
  refine (writeRune w.heap.size w.heap.size (byteCells out) r (by omega) (by omega) wr h.1 (by rw [byteCells, List.length_map]; exact hl) h.2.2.1.size).mono ?_
  rintro e w1 ⟨rfl, h1, hb1, hk1⟩
  exact ⟨⟨_, rfl⟩, .inr (by rw [byteCells_append, byteCells_encodeRune]; exact h1), hk1.iter h.2.1 (by have := h.2.2.2; omega), h.2.2.1.trans hb1, h.2.2.2⟩

theorem runeBytes (s : ByteArray) (pos : Nat) (hp : pos < s.size) : ∃ l : List UInt8, s.data.toList.drop pos = l ∧ l ≠ [] ∧ Utf8.decode s pos = decodeL l ∧ l.length = s.size - pos := by
  have hl : (s.data.toList.drop pos).length = s.size - pos := by rw [List.length_drop, Array.length_toList]; rfl
  exact ⟨_, rfl, fun e => by rw [e] at hl; simp at hl; omega, (decodeL_drop s pos).symm, hl⟩

theorem BuilderAt_iter {T e : TypeId} {B b : Nat} {p : Value} {bs : List Value} {w : World} (h : BuilderAt T e B b p bs w) {k : Nat} {s : ByteArray} {pos : Nat} (hk : w.heap[k]? = some (.stringIter s pos)) (pos' : Nat) :
    BuilderAt T e B b p bs (w.iterAt k s pos') := by
  obtain ⟨hB, v, hb, hown, hne⟩ := h
  have hkb : b ≠ k := by
    intro e1
    rw [e1, hk] at hb
    cases hb
  refine ⟨hB, v, (iterAt_other w k b s pos' hkb).trans hb, ⟨hown.1, ?_⟩, hne⟩
  rcases hown.2 with hn | ⟨g, cap, cur, hv, hbg, hg, rest⟩
  · exact .inl hn
  · have hkg : g ≠ k := by
      intro e1
      rw [e1, hk] at hg
      cases hg
    exact .inr ⟨g, cap, cur, hv, hbg, (iterAt_other w k g s pos' hkg).trans hg, rest⟩
theorem At.next {w wr : World} {k : Nat} {s : ByteArray} {out : List UInt8} {pos : Nat} (h : At w k wr s out pos) (n : Nat) : At w k (wr.iterAt k s (pos + n)) s out (pos + n) :=
  ⟨h.1.elim (fun x => .inl (BuilderAt_iter x h.2.1 _)) (fun x => .inr (BuilderAt_iter x h.2.1 _)), iterAt_heap _ _ _ _ _ h.2.1, below_iterAt h.2.2.1 (Nat.le_of_lt h.2.2.2) _ _, h.2.2.2⟩
theorem IsBuilder_alloc {T e : TypeId} {B b : Nat} {p : Value} {bs : List Value} {w : World} (h : BuilderAt T e B b p bs w) (o : Obj) : BuilderAt T e B b p bs (w.alloc o) := by
  have hlt := h.lt
  obtain ⟨hB, v, hb, hown, hne⟩ := h
  exact ⟨hB, v, (alloc_old w o b hlt).trans hb, hown.kept (World.grownBy_alloc w o none) (by cases hv : v.ownBlock <;> simp), hne⟩
theorem inner_step (l : List UInt8) (hne : l ≠ []) : inner l = piece l ++ inner (l.drop (adv l)) := by
  conv => lhs; unfold inner
  rw [dif_neg hne]
theorem and15 (c : Nat) (h : c < 2147483648) : bits BinOp.and IntKind.i32 (c : Int) 15 = ((c % 16 : Nat) : Int) := by
  have := bits_mask .i32 31 (by decide) wraps_i32 4 (by omega) (c : Int) (by omega) (by omega)
  simpa using this
theorem hexAt : ∀ (n : Nat) (h : n < (⟨#[48, 49, 50, 51, 52, 53, 54, 55, 56, 57, 97, 98, 99, 100, 101, 102]⟩ : ByteArray).size), (⟨#[48, 49, 50, 51, 52, 53, 54, 55, 56, 57, 97, 98, 99, 100, 101, 102]⟩ : ByteArray)[n] = hexOf n := by
  intro n h
  have h16 : n < 16 := h
  match n, h16, h with
  | 0, _, _ => rfl
  | 1, _, _ => rfl
  | 2, _, _ => rfl
  | 3, _, _ => rfl
  | 4, _, _ => rfl
  | 5, _, _ => rfl
  | 6, _, _ => rfl
  | 7, _, _ => rfl
  | 8, _, _ => rfl
  | 9, _, _ => rfl
  | 10, _, _ => rfl
  | 11, _, _ => rfl
  | 12, _, _ => rfl
  | 13, _, _ => rfl
  | 14, _, _ => rfl
  | 15, _, _ => rfl
  | n + 16, h, _ => omega
theorem inner_nil : inner [] = [] := by unfold inner; rw [dif_pos rfl]

/-- The round's end. -/
theorem rel_step {w wr : World} {k : Nat} {s : ByteArray} {out l : List UInt8} {pos : Nat} (hl : s.data.toList.drop pos = l) (hne : l ≠ []) (hlen : l.length = s.size - pos) (hol : out.length ≤ 1 + 6 * pos)
    (hin : Aside0 (out ++ inner l = 34 :: inner s.data.toList)) (h : At w k wr s (out ++ piece l) (pos + adv l)) :
    ∃ (pos : Nat) (out : List UInt8), At w k wr s out pos ∧ pos ≤ s.size ∧ out.length ≤ 1 + 6 * pos ∧ Aside0 (out ++ inner (s.data.toList.drop pos) = 34 :: inner s.data.toList) := by
  have h1 := piece_le l
  have h2 := wid_le l
  have h3 : 0 < l.length := List.length_pos_iff.2 hne
  refine ⟨pos + adv l, out ++ piece l, h, ?_, by rw [List.length_append]; omega, ⟨?_⟩⟩
  · unfold adv
    split <;> omega
  · rw [List.append_assoc, ← List.drop_drop, hl, ← inner_step l hne]
    exact hin.out

set_option maxHeartbeats 4000000 in
set_option maxRecDepth 100000 in
theorem quote_walk (s : ByteArray) (w : World) (hm : s.size ≤ 17592186044416) :
    Calls Tryd.prog 17 #[.string s] w fun e w' => e = .returned (.string ⟨(inQuotes s.data.toList).toArray⟩) ∧ Below w.heap.size w w' := by
  go_enter Tryd.func17, Tryd.ntmps17
  go_wp2_with (go_at_call 28; refine (writeByte w.heap.size w.heap.size [] 34 _ (fresh_isBuilder 51 5 w) (by simp) (by simp)).mono ?_)
  rintro e w1 ⟨rfl, h1, hb1, hk1⟩
  have hlt := h1.lt
  have hA : At w w1.heap.size (w1.alloc (.stringIter s 0)) s [34] 0 := ⟨.inr (IsBuilder_alloc h1 _), World.iter_heap w1 s 0, ((Below.refl _ _).alloc (Nat.le_refl _) _).trans (hb1.alloc (by have := hb1.size; simp at this; omega) _), hlt⟩
  generalize hk : w1.heap.size = k at hA
  go_wp2
  go_loopw [5] (fun _ wr => ∃ (pos : Nat) (out : List UInt8), At w k wr s out pos ∧ pos ≤ s.size ∧ out.length ≤ 1 + 6 * pos ∧ Aside0 (out ++ inner (s.data.toList.drop pos) = 34 :: inner s.data.toList)) (fun _ wr => s.size - wr.iterPos k)
  case atStart => exact ⟨0, [34], hA, Nat.zero_le _, by simp, ⟨by rw [List.drop_zero]; rfl⟩⟩
  case round =>
    obtain ⟨pos, out, hat, hps, hol, hin⟩ := hrel
    have hpos0 := iterPos_of hat.2.1
    by_cases hp : pos < s.size
    · obtain ⟨l, hl, hne, hd, hlen⟩ := runeBytes s pos hp
      have hnx : ∀ ty, (Instr.next (.pointer (some ⟨k, 0, none⟩)) true ty).run Tryd.prog wr = _ := fun ty => Lib.run_next_any_at wr k s pos ty hat.2.1 hp
      rw [hd] at hnx
      have hadv := dec_adv l hne
      have hN := hat.next (decodeL l).2
      have hstep := inner_step l hne
      rw [hl] at hin
      have hc31 : (decodeL l).1 ≤ 2147483647 := Nat.le_trans (decodeL_rune l) (by decide)
      have hm1 := piece_mark l hne
      have hm2 := piece_low l hne
      have hm3 := piece_plain l hne
      have hpl := piece_le l
      generalize hW1 : wr.iterAt k s (pos + (decodeL l).2) = W1 at *
      generalize (decodeL l).1 = c at *
      generalize (decodeL l).2 = n at *
      subst hadv
      clear hd hat
      by_cases hmark : c = 34 ∨ c = 92
      · by_cases h34 : c = 34
        · have e1 : ((c : Int) == 34) = true := by rw [h34]; rfl
          have hpm := hm1 hmark
          clear h34 hmark hm1 hm2 hm3
          go_wp2_with (first
            | (go_at_call 28; refine (At.byte hN ?hl 92 _ (by rfl)).mono ?_; (case hl => omega); rintro e w3 ⟨rfl, hA2⟩; clear hN; have hN := hA2; clear hA2)
            | (go_at_call 29; refine (At.rune hN c hc31 ?hl).mono ?_; (case hl => rw [List.length_append]; simp; omega); rintro e w4 ⟨⟨_, rfl⟩, hA2⟩; clear hN; have hN := hA2; clear hA2))
          go_roundw
          case rel =>
            refine rel_step hl hne hlen hol hin ?_
            rw [hpm, ← List.append_assoc]
            exact hN
          case measure => rw [iterPos_of hN.2.1, hpos0]; have := adv_pos l; omega
        · have e1 : ((c : Int) == 34) = false := by rw [beq_eq_false_iff_ne]; omega
          have e2 : ((c : Int) == 92) = true := by rw [beq_iff_eq]; omega
          have hpm := hm1 hmark
          clear h34 hmark hm1 hm2 hm3
          go_wp2_with (first
            | (go_at_call 28; refine (At.byte hN ?hl 92 _ (by rfl)).mono ?_; (case hl => omega); rintro e w3 ⟨rfl, hA2⟩; clear hN; have hN := hA2; clear hA2)
            | (go_at_call 29; refine (At.rune hN c hc31 ?hl).mono ?_; (case hl => rw [List.length_append]; simp; omega); rintro e w4 ⟨⟨_, rfl⟩, hA2⟩; clear hN; have hN := hA2; clear hA2))
          go_roundw
          case rel =>
            refine rel_step hl hne hlen hol hin ?_
            rw [hpm, ← List.append_assoc]
            exact hN
          case measure => rw [iterPos_of hN.2.1, hpos0]; have := adv_pos l; omega
      · by_cases hlow : c < 32
        · have e1 : ((c : Int) == 34) = false := by rw [beq_eq_false_iff_ne]; omega
          have e2 : ((c : Int) == 92) = false := by rw [beq_eq_false_iff_ne]; omega
          have e3 : decide ((c : Int) < 32) = true := by rw [decide_eq_true_iff]; omega
          have hand := and15 c (by omega)
          have hmod : c % 16 < 16 := Nat.mod_lt _ (by omega)
          have hs4 : (⟨#[92, 117, 48, 48]⟩ : ByteArray).size = 4 := rfl
          have hs5 : (⟨#[92, 117, 48, 48]⟩ : ByteArray).data.toList.length = 4 := rfl
          go_wp2_with (first
            | (go_at_call 30; refine (At.string hN _ ?hl).mono ?_; (case hl => rw [hs4]; omega); rintro e w2 ⟨rfl, hA2⟩; clear hN; have hN := hA2; clear hA2)
            | (go_at_call 28; first
                | (refine (At.byte hN ?hl (hexOf (c / 16)) _ (by rw [hexAt])).mono ?_; (case hl => rw [List.length_append, hs5]; omega); rintro e w3 ⟨rfl, hA2⟩; clear hN; have hN := hA2; clear hA2)
                | (refine (At.byte hN ?hl (hexOf (c % 16)) _ (by rw [hexAt])).mono ?_; (case hl => rw [List.length_append, List.length_append, hs5]; simp; omega); rintro e w4 ⟨rfl, hA2⟩; clear hN; have hN := hA2; clear hA2)))
          go_roundw
          case rel =>
            refine rel_step hl hne hlen hol hin ?_
            rw [hm2 hmark hlow, ← List.append_assoc, ← List.append_assoc]
            exact hN
          case measure => rw [iterPos_of hN.2.1, hpos0]; have := adv_pos l; omega
        · have e1 : ((c : Int) == 34) = false := by rw [beq_eq_false_iff_ne]; omega
          have e2 : ((c : Int) == 92) = false := by rw [beq_eq_false_iff_ne]; omega
          have e3 : decide ((c : Int) < 32) = false := by rw [decide_eq_false_iff_not]; omega
          go_wp2_with (go_at_call 29; refine (At.rune hN c hc31 ?hl).mono ?_; (case hl => omega); rintro e w4 ⟨⟨_, rfl⟩, hA2⟩; clear hN; have hN := hA2; clear hA2)
          go_roundw
          case rel =>
            refine rel_step hl hne hlen hol hin ?_
            rw [hm3 hmark hlow]
            exact hN
          case measure => rw [iterPos_of hN.2.1, hpos0]; have := adv_pos l; omega
    · obtain rfl : pos = s.size := by omega
      have hnx : ∀ ty, (Instr.next (.pointer (some ⟨k, 0, none⟩)) true ty).run Tryd.prog wr = _ := fun ty => Lib.run_next_end_at wr k s s.size ty hat.2.1 hp
      have hdrop : s.data.toList.drop s.size = [] := List.drop_eq_nil_of_le (Nat.le_refl _)
      rw [hdrop, inner_nil, List.append_nil] at hin
      have hN := hat
      clear hat
      go_wp2_with (first
        | (go_at_call 28; refine (At.byte hN ?hl 34 _ (by rfl)).mono ?_; (case hl => omega); rintro e w3 ⟨rfl, hA2⟩; clear hN; have hN := hA2; clear hA2)
        | (go_at_call 26; refine (Tryd.Builder_String_any w.heap.size w.heap.size _ _ hN.1 hN.2.2.1.size).mono ?_; rintro e w5 ⟨rfl, hb5⟩))
      go_ret
      exact ⟨by rw [hin.out]; rfl, hN.2.2.1.trans hb5⟩

end Go.Proofs.YtldlkoncndlbhaaDoor.Qu

/- The program's 'write', walked by hand: a value's text into a builder. -/
set_option linter.unusedVariables false
set_option linter.unusedSimpArgs false
namespace Go.Proofs.YtldlkoncndlbhaaDoor.Wr
open Go.RowKit Go.Proofs.YtldlkoncndlbhaaDoor.Utf Go.Proofs.YtldlkoncndlbhaaDoor.Bu Go.Proofs.YtldlkoncndlbhaaDoor.Tx Go.Proofs.YtldlkoncndlbhaaDoor.PSh Go.Lib Go.Proofs.YtldlkoncndlbhaaDoorW.PrintWords Go.Proofs.YtldlkoncndlbhaaDoorW.PrintLast Go.Proofs.YtldlkoncndlbhaaDoorW.PrintMore

theorem below_grow (w : World) (os : Array Obj) : Below w.heap.size w (Sort.grow w os) :=
  ⟨rfl, rfl, rfl, by simp [Sort.grow], fun i hi => by simp [Sort.grow, Array.getElem?_append_left hi]⟩
/-- num.Text. -/
theorem text_walk (a : Int) (h0 : -9223372036854775808 ≤ a) (h1 : a ≤ 9223372036854775807) (w : World) (hG : Glob w) :
    Calls Tryd.prog 41 #[.int .i64 a] w fun e w' => e = .returned (.string ⟨(Lib.itoa a).toArray⟩) ∧ Below w.heap.size w w' := by
  have hi : Calls Tryd.prog 53 #[.int .i64 a] w fun e w' => e = .returned (.string ⟨(Lib.itoa a).toArray⟩) ∧ Below w.heap.size w w' := by
    refine (Tryd.strconv_Itoa a h0 h1 w hG.1).mono ?_
    rintro e w' ⟨rfl, k, os, rfl⟩
    exact ⟨rfl, (pw_below_drewN (Below.refl _ _) k).trans (below_grow (w.drewN k) os)⟩
  go_enter Tryd.func41, Tryd.ntmps41
  go_wp2_with (go_at_call 53; refine hi.mono ?_; rintro e w1 ⟨rfl, hb⟩)
  go_ret
  exact ⟨rfl, hb⟩

theorem kept_below {e : TypeId} {bo : Option Nat} {a w w' : World} (h : OthersKept e bo a w) (hb : Below w.heap.size w w') : OthersKept e bo a w' := fun k x hk h1 h2 => by
  have hw := h k x hk h1 h2
  exact (hb.block k (Array.getElem?_eq_some_iff.1 hw).1).trans hw
theorem BuilderAt_below {T e : TypeId} {B b : Nat} {p : Value} {bs : List Value} {w w' : World} (h : BuilderAt T e B b p bs w) (hb : Below w.heap.size w w') : BuilderAt T e B b p bs w' := by
  have hlt := h.lt
  obtain ⟨hB, v, hh, hown, hne⟩ := h
  exact ⟨hB, v, (hb.block b hlt).trans hh, own_move hown (fun k hk => hb.block k (own_lt hown k hk)), hne⟩
/-- What goes on being so: the builder holds 'out'; nothing below has turned; of what stood in 'a' only the builder and rows of bytes have. -/
def St (w0 a : World) (b : Nat) (out : List UInt8) (wr : World) : Prop :=
  Lib.IsBuilder 51 5 w0.heap.size b (byteCells out) wr ∧ Below w0.heap.size w0 wr ∧ OthersKept 5 (some b) a wr
theorem St.below {w0 a : World} {b : Nat} {out : List UInt8} {wr w' : World} (h : St w0 a b out wr) (hb : Below wr.heap.size wr w') : St w0 a b out w' :=
  ⟨h.1.elim (fun x => .inl (BuilderAt_below x hb)) (fun x => .inr (BuilderAt_below x hb)), h.2.1.trans (hb.mono h.2.1.size), kept_below h.2.2 hb⟩
theorem St.byte {w0 a : World} {b : Nat} {out : List UInt8} {wr : World} (h : St w0 a b out wr) (hl : out.length + 1 ≤ 140737488355328) (c : UInt8) (ci : Int) (hc : ci = c.toNat) :
    Calls Tryd.prog 28 #[.pointer (some ⟨b, 0, none⟩), .int .u8 ci] wr fun e w' => e = .returned .nilIface ∧ St w0 a b (out ++ [c]) w' := by
  subst hc
  refine (writeByte w0.heap.size b (byteCells out) c.toNat wr h.1 (by rw [byteCells, List.length_map]; exact hl) h.2.1.size).mono ?_
  rintro e w1 ⟨rfl, h1, hb1, hk1⟩
  exact ⟨rfl, .inr (by rw [Qu.byteCells_append]; exact h1), h.2.1.trans hb1, h.2.2.trans hk1⟩
theorem St.string {w0 a : World} {b : Nat} {out : List UInt8} {wr : World} (h : St w0 a b out wr) (t : ByteArray) (hl : out.length + t.size ≤ 140737488355328) :
    Calls Tryd.prog 30 #[.pointer (some ⟨b, 0, none⟩), .string t] wr fun e w' => (∃ n : Int, e = .returned (.tuple #[.int .i64 n, .nilIface])) ∧ St w0 a b (out ++ t.data.toList) w' := by
  refine (writeString w0.heap.size b (byteCells out) t wr h.1 (by rw [byteCells, List.length_map]; exact hl) h.2.1.size).mono ?_
  rintro e w1 ⟨rfl, h1, hb1, hk1⟩
  exact ⟨⟨_, rfl⟩, .inr (by rw [Qu.byteCells_append]; exact h1), h.2.1.trans hb1, h.2.2.trans hk1⟩
theorem St.box {w0 a : World} {b : Nat} {out : List UInt8} {wr : World} (h : St w0 a b out wr) {k : Nat} {cs : Array Value} {fz : Nat × Nat} (hk : a.heap[k]? = some (.cells cs 39 fz)) (hne : k ≠ b) : wr.heap[k]? = some (.cells cs 39 fz) :=
  h.2.2 k _ hk (fun e => hne (Option.some.inj e)) (fun _ _ e => by cases e)

theorem St.list {w0 a : World} {b : Nat} {out : List UInt8} {wr : World} (h : St w0 a b out wr) (t : List UInt8) (hl : out.length + t.length ≤ 140737488355328) :
    Calls Tryd.prog 30 #[.pointer (some ⟨b, 0, none⟩), .string ⟨t.toArray⟩] wr fun e w' => (∃ n : Int, e = .returned (.tuple #[.int .i64 n, .nilIface])) ∧ St w0 a b (out ++ t) w' :=
  St.string h ⟨t.toArray⟩ (by show out.length + t.toArray.size ≤ _; rw [List.size_toArray]; exact hl)
/-- Seen from before the box was made. -/
theorem St.lift {w0 a w1 : World} {b : Nat} {out : List UInt8} {wr : World} (h : St w0 w1 b out wr) (hk : OthersKept 5 (some b) a w1) : St w0 a b out wr := ⟨h.1, h.2.1, hk.trans h.2.2⟩
theorem St.cell {w0 a : World} {b : Nat} {out : List UInt8} {wr : World} (h : St w0 a b out wr) {k : Nat} {cs : Array Value} {fz : Nat × Nat} (hk : a.heap[k]? = some (.cells cs 39 fz)) (hne : k ≠ b) (j : Nat) (v : Value) (hv : cs[j]? = some v) : wr.cell? ⟨k, j, none⟩ = some v := by
  rw [World.cell?, h.box hk hne]
  exact hv

set_option maxHeartbeats 4000000 in
set_option maxRecDepth 100000 in
theorem write_walk (l : List S39) (A : Option Addr) (cp : Nat) (w0 : World) (b : Nat) (hr : Kd.C k39 w0 A l.length l) (hG : Glob w0) (ht : Tree l) (hs : Sized l) :
    ∀ (f : Nat) (a : Int), 0 ≤ a → a < l.length → a.toNat < f → ∀ (out : List UInt8) (wa w : World), St w0 wa b out w → out.length + (txt l f a).length ≤ 140737488355328 →
    Calls Tryd.prog 25 #[.pointer (some ⟨b, 0, none⟩), .slice A l.length cp, .int .i64 a] w fun e w' => e = .returned (.tuple #[]) ∧ St w0 wa b (out ++ txt l f a) w' := by
  intro f
  induction f with
  | zero => intro a h0 h1 h2; omega
  | succ f ih =>
    intro a h0 h1 h2 out wa w hst hlen
    obtain ⟨hp, hkids⟩ := ht a h0 h1
    obtain ⟨hs3, hs5, hs4⟩ := hs a h0 h1
    obtain ⟨ad, A4, c4, A5, c5, rfl, hx0, hx1, hx2, hx3, hx4, hx5, hl4, hC4, hl5, hC5⟩ := at_T39 hr a h0 h1
    have hlow : ∀ p v, w0.cell? p = some v → w.cell? p = some v := fun p v h => (hst.2.1.cell (World.block_lt_of_cell? w0 _ h)).trans h
    replace hx0 := hlow _ _ hx0
    replace hx1 := hlow _ _ hx1
    replace hx2 := hlow _ _ hx2
    replace hx3 := hlow _ _ hx3
    replace hx4 := hlow _ _ hx4
    replace hx5 := hlow _ _ hx5
    clear hlow
    have hk := plain_kind hp
    rw [txt_succ] at hlen ⊢
    generalize rd_T39 l a = v at *
    obtain ⟨f0, f1, f2, f3, f4, f5⟩ := v
    dsimp only at *
    have p1 := eq_true h0
    have p2 := eq_true h1
    have hbl : b < w.heap.size := hst.1.elim (fun x => x.lt) (fun x => x.lt)
    have hne : w.heap.size ≠ b := by omega
    have hS := hst.below (below_alloc (Below.refl w.heap.size w) (Obj.cells #[.int .i64 f0, .bool f1, .int .i64 f2, .string f3, .slice A4 f4.length c4, .slice A5 f5.length c5] 39))
    have hbox : (w.alloc (Obj.cells #[.int .i64 f0, .bool f1, .int .i64 f2, .string f3, .slice A4 f4.length c4, .slice A5 f5.length c5] 39)).heap[w.heap.size]? = some (Obj.cells #[.int .i64 f0, .bool f1, .int .i64 f2, .string f3, .slice A4 f4.length c4, .slice A5 f5.length c5] 39 (0, 0)) := Array.getElem?_push_size
    obtain ⟨w1, hw1⟩ : ∃ w1, w1 = w.alloc (Obj.cells #[.int .i64 f0, .bool f1, .int .i64 f2, .string f3, .slice A4 f4.length c4, .slice A5 f5.length c5] 39) := ⟨_, rfl⟩
    rw [← hw1] at hbox
    have hkp : OthersKept 5 (some b) wa w1 := by rw [hw1]; exact hS.2.2
    have hS1 : St w0 w1 b out w1 := ⟨by rw [hw1]; exact hS.1, by rw [hw1]; exact hS.2.1, OthersKept.refl _ _ _⟩
    have hGw : Glob w1 := hG.below hS1.2.1
    rw [hw1] at hS1 hGw
    replace hS1 : St w0 w1 b out (w.alloc (Obj.cells #[.int .i64 f0, .bool f1, .int .i64 f2, .string f3, .slice A4 f4.length c4, .slice A5 f5.length c5] 39)) := by rw [hw1]; exact hS1
    clear hS
    have hS := hS1
    clear hS1 hst hw1
    rcases hk with rfl | rfl | ⟨rfl, hn0, hn1⟩ | rfl | rfl | ⟨rfl, hnn⟩
    · rw [txtOf_1 _ _ rfl] at hlen ⊢
      go_enter Tryd.func25, Tryd.ntmps25
      go_wp2_with (go_at_call 30; refine (St.string hS _ (by exact hlen)).mono ?_; rintro e w2 ⟨⟨_, rfl⟩, hA2⟩; clear hS; have hS := hA2; clear hA2)
      go_end0
      exact ⟨rfl, hS.lift hkp⟩
    · rw [txtOf_2 _ _ rfl] at hlen ⊢
      dsimp only at hlen ⊢
      cases f1
      · rw [if_neg (by decide)] at hlen ⊢
        go_enter Tryd.func25, Tryd.ntmps25
        go_wp2_with (go_at_call 30; refine (St.string hS _ (by exact hlen)).mono ?_; rintro e w2 ⟨⟨_, rfl⟩, hA2⟩; clear hS; have hS := hA2; clear hA2)
        go_end0
        exact ⟨rfl, hS.lift hkp⟩
      · rw [if_pos rfl] at hlen ⊢
        go_enter Tryd.func25, Tryd.ntmps25
        go_wp2_with (go_at_call 30; refine (St.string hS _ (by exact hlen)).mono ?_; rintro e w2 ⟨⟨_, rfl⟩, hA2⟩; clear hS; have hS := hA2; clear hA2)
        go_end0
        exact ⟨rfl, hS.lift hkp⟩
    · rw [txtOf_3 _ _ rfl] at hlen ⊢
      go_enter Tryd.func25, Tryd.ntmps25
      go_wp2_with (first
        | (go_at_call 41; refine (text_walk f2 (by omega) (by omega) _ hGw).mono ?_; rintro e w2 ⟨rfl, hb2⟩; have hA2 := hS.below hb2; clear hS hb2; have hS := hA2; clear hA2)
        | (go_at_call 30; refine (St.list hS _ (by exact hlen)).mono ?_; rintro e w2 ⟨⟨_, rfl⟩, hA2⟩; clear hS; have hS := hA2; clear hA2))
      go_end0
      exact ⟨rfl, hS.lift hkp⟩
    · rw [txtOf_4 _ _ rfl] at hlen ⊢
      go_enter Tryd.func25, Tryd.ntmps25
      go_wp2_with (first
        | (go_at_call 17; refine (Qu.quote_walk f3 _ hs3).mono ?_; rintro e w2 ⟨rfl, hb2⟩; have hA2 := hS.below hb2; clear hS hb2; have hS := hA2; clear hA2)
        | (go_at_call 30; refine (St.list hS _ (by exact hlen)).mono ?_; rintro e w2 ⟨⟨_, rfl⟩, hA2⟩; clear hS; have hS := hA2; clear hA2))
      go_end0
      exact ⟨rfl, hS.lift hkp⟩
    · rw [txtOf_5 _ _ rfl] at hlen ⊢
      dsimp only at hlen ⊢
      obtain ⟨g, hg⟩ : ∃ g : Nat → List UInt8, g = fun (i : Nat) => txt l f (rd f5 (i : Int)) := ⟨_, rfl⟩
      rw [show joined (fun (i : Nat) => txt l f (rd f5 (i : Int))) f5.length = joined g f5.length by rw [hg]] at hlen ⊢
      have hlen2 : out.length + ((joined g f5.length).length + 2) ≤ 140737488355328 := by simp only [List.length_append, List.length_cons, List.length_nil] at hlen; omega
      clear hlen
      have hx5 := St.cell hS hbox hne 5 _ rfl
      have hx4 := St.cell hS hbox hne 4 _ rfl
      go_enter Tryd.func25, Tryd.ntmps25
      go_wp2_with (go_at_call 28; refine (St.byte hS ?hl 91 _ (by rfl)).mono ?_; (case hl => (try simp only [List.length_append, List.length_cons, List.length_nil]); omega); rintro e w3 ⟨rfl, hA2⟩; clear hS; have hS := hA2; clear hA2; (try have hx4 := St.cell hS hbox hne 4 _ rfl); (try have hx5 := St.cell hS hbox hne 5 _ rfl))
      go_loopw [50] (fun i wr => ∃ j : Nat, j ≤ f5.length ∧ i = .int .i64 j ∧ St w0 w1 b (out ++ [91] ++ joined g j) wr) (fun i _ => f5.length - (RowKit.intOf i).toNat)
      case atStart => exact ⟨0, Nat.zero_le _, rfl, by rw [joined, List.append_nil]; exact hS⟩
      case round =>
        clear hS
        obtain ⟨j, hj, rfl, hS⟩ := hrel
        by_cases hlt : j < f5.length
        · obtain ⟨ad5, rfl, hkc⟩ := Kd.at_int hC5 (j : Int) (by omega) (by omega)
          have hkc2 : wr.cell? (ad5.add j) = some (.int .i64 (rd f5 (j : Int))) := by
            have := (hS.2.1.cell (World.block_lt_of_cell? w0 _ hkc)).trans hkc
            simpa using this
          clear hkc
          obtain ⟨hk0, hk1⟩ := hkids j hlt
          have hjl := joined_le g f5.length (j + 1) hlt
          have hjs := joined_succ g j
          have hgj : g j = txt l f (rd f5 (j : Int)) := by rw [hg]
          generalize rd f5 (j : Int) = kd at *
          have hll : ((j : Int) < (f5.length : Int)) = True := eq_true (by omega)
          rw [hgj] at hjs
          by_cases hj0 : j = 0
          · rw [if_pos hj0] at hjs
            have hj1 : decide (0 < j) = false := decide_eq_false (by omega)
            have hj3 : (0 < j) = False := eq_false (by omega)
            clear hj0
            have hjm := congrArg List.length hjs
            simp only [List.length_append, List.length_cons, List.length_nil] at hjm
            rw [hjm] at hjl
            go_wp2_with (first
              | (go_at_call 25; refine (ih kd hk0 (by omega) (by omega) _ w1 _ hS (by (try simp only [List.length_append, List.length_cons, List.length_nil]); omega)).mono ?_; rintro e w4 ⟨rfl, hA2⟩; clear hS; have hS := hA2; clear hA2))
            go_roundw
            case rel => exact ⟨j + 1, hlt, by go_num, by rw [hjs]; simpa [List.append_assoc] using hS⟩
            case measure => simp [RowKit.intOf]; omega
          · have hj1 : decide (0 < j) = true := decide_eq_true (by omega)
            have hj3 : (0 < j) = True := eq_true (by omega)
            rw [if_neg hj0] at hjs
            clear hj0
            have hjm := congrArg List.length hjs
            simp only [List.length_append, List.length_cons, List.length_nil] at hjm
            rw [hjm] at hjl
            go_wp2_with (first
              | (go_at_call 28; refine (St.byte hS ?hl 44 _ (by rfl)).mono ?_; (case hl => (try simp only [List.length_append, List.length_cons, List.length_nil]); omega); rintro e w3 ⟨rfl, hA2⟩; clear hS; have hS := hA2; clear hA2; (try have hx4 := St.cell hS hbox hne 4 _ rfl); (try have hx5 := St.cell hS hbox hne 5 _ rfl))
              | (go_at_call 25; refine (ih kd hk0 (by omega) (by omega) _ w1 _ hS (by (try simp only [List.length_append, List.length_cons, List.length_nil]); omega)).mono ?_; rintro e w4 ⟨rfl, hA2⟩; clear hS; have hS := hA2; clear hA2))
            go_roundw
            case rel => exact ⟨j + 1, hlt, by go_num, by rw [hjs]; simpa [List.append_assoc] using hS⟩
            case measure => simp [RowKit.intOf]; omega
        · obtain rfl : j = f5.length := by omega
          go_wp2_with (go_at_call 28; refine (St.byte hS ?hl 93 _ (by rfl)).mono ?_; (case hl => (try simp only [List.length_append, List.length_cons, List.length_nil]); omega); rintro e w3 ⟨rfl, hA2⟩; clear hS; have hS := hA2; clear hA2; (try have hx4 := St.cell hS hbox hne 4 _ rfl); (try have hx5 := St.cell hS hbox hne 5 _ rfl))
          go_end0
          exact ⟨rfl, (show St w0 w1 b (out ++ ([91] ++ joined g f5.length ++ [93])) _ by simpa [List.append_assoc] using hS).lift hkp⟩
    · have hnn0 := Aside0.mk hnn
      clear hnn
      have hnn := hnn0
      clear hnn0
      rw [txtOf_6 _ _ rfl] at hlen ⊢
      dsimp only at hlen ⊢
      obtain ⟨g, hg⟩ : ∃ g : Nat → List UInt8, g = fun (i : Nat) => inQuotes (rdOf ByteArray.empty f4 (i : Int)).data.toList ++ [58] ++ txt l f (rd f5 (i : Int)) := ⟨_, rfl⟩
      rw [show joined (fun (i : Nat) => inQuotes (rdOf ByteArray.empty f4 (i : Int)).data.toList ++ [58] ++ txt l f (rd f5 (i : Int))) f5.length = joined g f5.length by rw [hg]] at hlen ⊢
      have hlen2 : out.length + ((joined g f5.length).length + 2) ≤ 140737488355328 := by simp only [List.length_append, List.length_cons, List.length_nil] at hlen; omega
      clear hlen
      have hx5 := St.cell hS hbox hne 5 _ rfl
      have hx4 := St.cell hS hbox hne 4 _ rfl
      go_enter Tryd.func25, Tryd.ntmps25
      go_wp2_with (go_at_call 28; refine (St.byte hS ?hl 123 _ (by rfl)).mono ?_; (case hl => (try simp only [List.length_append, List.length_cons, List.length_nil]); omega); rintro e w3 ⟨rfl, hA2⟩; clear hS; have hS := hA2; clear hA2; (try have hx4 := St.cell hS hbox hne 4 _ rfl); (try have hnc2 := hlow _ hS.2.1); (try have hx5 := St.cell hS hbox hne 5 _ rfl))
      go_loopw [73] (fun i wr => ∃ j : Nat, j ≤ f5.length ∧ i = .int .i64 j ∧ St w0 w1 b (out ++ [123] ++ joined g j) wr) (fun i _ => f5.length - (RowKit.intOf i).toNat)
      case atStart => exact ⟨0, Nat.zero_le _, rfl, by rw [joined, List.append_nil]; exact hS⟩
      case round =>
        clear hS
        obtain ⟨j, hj, rfl, hS⟩ := hrel
        by_cases hlt : j < f5.length
        · obtain ⟨ad5, rfl, hkc⟩ := Kd.at_int hC5 (j : Int) (by omega) (by omega)
          have hkc2 : wr.cell? (ad5.add j) = some (.int .i64 (rd f5 (j : Int))) := by
            have := (hS.2.1.cell (World.block_lt_of_cell? w0 _ hkc)).trans hkc
            simpa using this
          clear hkc
          obtain ⟨hk0, hk1⟩ := hkids j hlt
          have hjl := joined_le g f5.length (j + 1) hlt
          have hjs := joined_succ g j
          have hgj : g j = inQuotes (rdOf ByteArray.empty f4 (j : Int)).data.toList ++ [58] ++ txt l f (rd f5 (j : Int)) := by rw [hg]
          obtain ⟨ad4, rfl, hnc⟩ := Kd.at_string hC4 (j : Int) (by omega) (by have := hnn.out; omega)
          have hlow : ∀ wq, Below w0.heap.size w0 wq → wq.cell? (ad4.add j) = some (.string (rdOf ByteArray.empty f4 (j : Int))) := fun wq hq => by
            have := (hq.cell (World.block_lt_of_cell? w0 _ hnc)).trans hnc
            simpa using this
          have hns := hs4 j (by have := hnn.out; omega)
          generalize rdOf ByteArray.empty f4 (j : Int) = nm at *
          have hjn : ((j : Int) < (f4.length : Int)) = True := eq_true (by have := hnn.out; omega)
          generalize rd f5 (j : Int) = kd at *
          have hll : ((j : Int) < (f5.length : Int)) = True := eq_true (by omega)
          rw [hgj] at hjs
          have hx4 := St.cell hS hbox hne 4 _ rfl
          have hnc2 := hlow _ hS.2.1
          by_cases hj0 : j = 0
          · rw [if_pos hj0] at hjs
            have hj1 : decide (0 < j) = false := decide_eq_false (by omega)
            have hj3 : (0 < j) = False := eq_false (by omega)
            clear hj0
            have hjm := congrArg List.length hjs
            simp only [List.length_append, List.length_cons, List.length_nil] at hjm
            rw [hjm] at hjl
            go_wp2_with (first
              | (go_at_call 17; refine (Qu.quote_walk nm _ hns).mono ?_; rintro e w2 ⟨rfl, hb2⟩; have hA2 := hS.below hb2; clear hS hb2; have hS := hA2; clear hA2)
              | (go_at_call 30; refine (St.list hS _ (by (try simp only [List.length_append, List.length_cons, List.length_nil]); omega)).mono ?_; rintro e w2 ⟨⟨_, rfl⟩, hA2⟩; clear hS; have hS := hA2; clear hA2)
              | (go_at_call 28; refine (St.byte hS ?hl 58 _ (by rfl)).mono ?_; (case hl => (try simp only [List.length_append, List.length_cons, List.length_nil]); omega); rintro e w3 ⟨rfl, hA2⟩; clear hS; have hS := hA2; clear hA2; (try have hx4 := St.cell hS hbox hne 4 _ rfl); (try have hnc2 := hlow _ hS.2.1); (try have hx5 := St.cell hS hbox hne 5 _ rfl))
              | (go_at_call 25; refine (ih kd hk0 (by omega) (by omega) _ w1 _ hS (by (try simp only [List.length_append, List.length_cons, List.length_nil]); omega)).mono ?_; rintro e w4 ⟨rfl, hA2⟩; clear hS; have hS := hA2; clear hA2))
            go_roundw
            case rel => exact ⟨j + 1, hlt, by go_num, by rw [hjs]; simpa [List.append_assoc] using hS⟩
            case measure => simp [RowKit.intOf]; omega
          · have hj1 : decide (0 < j) = true := decide_eq_true (by omega)
            have hj3 : (0 < j) = True := eq_true (by omega)
            rw [if_neg hj0] at hjs
            clear hj0
            have hjm := congrArg List.length hjs
            simp only [List.length_append, List.length_cons, List.length_nil] at hjm
            rw [hjm] at hjl
            go_wp2_with (first
              | (go_at_call 28; refine (St.byte hS ?hl 44 _ (by rfl)).mono ?_; (case hl => (try simp only [List.length_append, List.length_cons, List.length_nil]); omega); rintro e w3 ⟨rfl, hA2⟩; clear hS; have hS := hA2; clear hA2; (try have hx4 := St.cell hS hbox hne 4 _ rfl); (try have hnc2 := hlow _ hS.2.1); (try have hx5 := St.cell hS hbox hne 5 _ rfl))
              | (go_at_call 17; refine (Qu.quote_walk nm _ hns).mono ?_; rintro e w2 ⟨rfl, hb2⟩; have hA2 := hS.below hb2; clear hS hb2; have hS := hA2; clear hA2)
              | (go_at_call 30; refine (St.list hS _ (by (try simp only [List.length_append, List.length_cons, List.length_nil]); omega)).mono ?_; rintro e w2 ⟨⟨_, rfl⟩, hA2⟩; clear hS; have hS := hA2; clear hA2)
              | (go_at_call 28; refine (St.byte hS ?hl 58 _ (by rfl)).mono ?_; (case hl => (try simp only [List.length_append, List.length_cons, List.length_nil]); omega); rintro e w3 ⟨rfl, hA2⟩; clear hS; have hS := hA2; clear hA2; (try have hx4 := St.cell hS hbox hne 4 _ rfl); (try have hnc2 := hlow _ hS.2.1); (try have hx5 := St.cell hS hbox hne 5 _ rfl))
              | (go_at_call 25; refine (ih kd hk0 (by omega) (by omega) _ w1 _ hS (by (try simp only [List.length_append, List.length_cons, List.length_nil]); omega)).mono ?_; rintro e w4 ⟨rfl, hA2⟩; clear hS; have hS := hA2; clear hA2))
            go_roundw
            case rel => exact ⟨j + 1, hlt, by go_num, by rw [hjs]; simpa [List.append_assoc] using hS⟩
            case measure => simp [RowKit.intOf]; omega
        · obtain rfl : j = f5.length := by omega
          go_wp2_with (go_at_call 28; refine (St.byte hS ?hl 125 _ (by rfl)).mono ?_; (case hl => (try simp only [List.length_append, List.length_cons, List.length_nil]); omega); rintro e w3 ⟨rfl, hA2⟩; clear hS; have hS := hA2; clear hA2; (try have hx4 := St.cell hS hbox hne 4 _ rfl); (try have hnc2 := hlow _ hS.2.1); (try have hx5 := St.cell hS hbox hne 5 _ rfl))
          go_end0
          exact ⟨rfl, (show St w0 w1 b (out ++ ([123] ++ joined g f5.length ++ [125])) _ by simpa [List.append_assoc] using hS).lift hkp⟩

end Go.Proofs.YtldlkoncndlbhaaDoor.Wr

/- The document's 'UTF', walked by hand: whether a text is UTF-8. -/
namespace Go.Proofs.YtldlkoncndlbhaaDoor.PRa
open Go.RowKit Go.Proofs.YtldlkoncndlbhaaDoorW.PrintWords Go.Proofs.YtldlkoncndlbhaaDoorW.PrintLast Go.Proofs.YtldlkoncndlbhaaDoorW.PrintMore Go.Proofs.YtldlkoncndlbhaaDoor.Utf

theorem bytes_map (s : ByteArray) : bytesOf s = s.data.toList.map fun b => (b.toNat : Int) := rfl
/-- A tail of the bytes that '[]byte(s)' made, as a slice that is read. -/
theorem tail_reads (W : World) (s : ByteArray) (i : Nat) (hi : i ≤ s.size) (hs : s.size ≤ 140737488351232) (e : TypeId) :
    Kd.C (Kd.int .u8) (Lib.bytesWorld W e s) (some ⟨W.heap.size, i, none⟩) (s.data.toList.drop i).length ((s.data.toList.drop i).map fun b => (b.toNat : Int)) := by
  refine Kd.C_of_reads (d := (0 : Int)) (h1 := fun _ => rfl) ?_
  refine ⟨by rw [List.length_map], by rw [List.length_drop, data_length]; omega, fun _ => ⟨_, rfl, fun j hj => ?_⟩⟩
  rw [List.length_drop, data_length] at hj
  have ha : (⟨W.heap.size, i, none⟩ : Addr).add j = ⟨W.heap.size, i + j, none⟩ := by unfold Addr.add; split <;> simp_all
  rw [ha, Lib.bytesWorld_cell W e s (i + j) (by omega)]
  congr 2
  have hij : i + j < s.data.toList.length := by rw [data_length]; omega
  rw [List.getD_eq_getElem?_getD, List.getD_eq_getElem?_getD, List.getElem?_map, List.getElem?_drop, List.getElem?_eq_getElem hij]
  rfl

theorem tail_drewN (W : World) (s : ByteArray) (i : Nat) (hi : i ≤ s.size) (hs : s.size ≤ 140737488351232) (e : TypeId) (n : Nat) :
    Kd.C (Kd.int .u8) ((Lib.bytesWorld W e s).drewN n) (some ⟨W.heap.size, i, none⟩) (s.data.toList.drop i).length ((s.data.toList.drop i).map fun b => (b.toNat : Int)) := by
  exact Kd.C_below (tail_reads W s i hi hs e) (pw_below_drewN (Below.refl _ _) n)
/-- The document's 'Rune' at a tail of a text's bytes. -/
theorem rune_call (w : World) (hG : Aside0 (Glob w)) (s : ByteArray) (k cp nd r : Nat) (hk : k < s.size) (hs : s.size ≤ 140737488351232) (hc : s.size ≤ cp) (hr : wid (s.data.toList.drop k) = r) :
    Calls Tryd.prog 36 #[.slice (some ⟨w.heap.size, k, none⟩) (s.size - k) (cp - k)] ((Lib.bytesWorld w 5 s).drewN nd) fun e w' => e = .returned (.int .i64 r) ∧ Drawn0 ((Lib.bytesWorld w 5 s).drewN nd) w' := by
  have hlen : (s.data.toList.drop k).length = s.size - k := by rw [List.length_drop, data_length]
  have hne : s.data.toList.drop k ≠ [] := fun e => by
    have := congrArg List.length e
    rw [hlen] at this
    simp at this
    omega
  have hf := rune_tells (s.data.toList.drop k) hne (by omega)
  rw [hr] at hf
  have hGB : Glob (Lib.bytesWorld w 5 s) := hG.out.below (bytes_below (Below.refl _ _) (Nat.le_refl _) _ _)
  have hT := tail_drewN w s k (by omega) hs 5 nd
  have hl2 : ((s.data.toList.drop k).map fun b => (b.toNat : Int)).length = s.size - k := by rw [List.length_map, hlen]
  have h := haulierref02_Rune.calls 10 (some ⟨w.heap.size, k, none⟩) (cp - k) ((s.data.toList.drop k).map fun b => (b.toNat : Int)) (r : Int) ((Lib.bytesWorld w 5 s).drewN nd) ⟨hGB.drewN nd⟩ (by rw [List.length_map]; exact hT) (by rw [hl2]; omega) hf
  rw [hl2] at h
  exact h

set_option maxHeartbeats 2000000 in
set_option maxRecDepth 100000 in
theorem utf_walk (s : ByteArray) (w : World) (hG : Aside0 (Glob w)) (hm : s.size ≤ 140737488351232) :
    Calls Tryd.prog 20 #[.string s] w fun e w' => e = .returned (.bool (utf s.data.toList)) ∧ Below w.heap.size w w' := by
  have kb := fun W => print_bytes (P := Tryd.prog) 9 30 5 Tryd.underlying9 Tryd.underlying30 Tryd.underlying5 s W
  have hGB : Aside0 (Glob (Lib.bytesWorld w 5 s)) := ⟨hG.out.below (bytes_below (Below.refl _ _) (Nat.le_refl _) _ _)⟩
  have hBB : Aside0 (Below w.heap.size w (Lib.bytesWorld w 5 s)) := ⟨bytes_below (Below.refl _ _) (Nat.le_refl _) _ _⟩
  go_enter Tryd.func20, Tryd.ntmps20
  go_wp2_with fail
  clear kb
  have hcap := grownCap_ge w s.size 0 5
  generalize grownCap w s.size 0 5 = cp at *
  go_loopw [4] (fun i wr => ∃ k : Nat, k ≤ s.size ∧ i = .int .i64 k ∧ Aside0 (utf s.data.toList = utf (s.data.toList.drop k)) ∧ Drawn0 (Lib.bytesWorld w 5 s) wr) (fun i _ => s.size - (intOf i).toNat)
  case atStart => exact ⟨0, Nat.zero_le _, rfl, ⟨by rw [List.drop_zero]⟩, Drawn0.refl _⟩
  case round =>
    obtain ⟨k, hk, rfl, hu, hd⟩ := hrel
    obtain ⟨nd, rfl⟩ := hd.out
    clear hd
    by_cases hlt : k < s.size
    · have hne : s.data.toList.drop k ≠ [] := fun e => by
        have := congrArg List.length e
        rw [List.length_drop, data_length] at this
        simp at this
        omega
      have hwl := wid_le (s.data.toList.drop k)
      rw [List.length_drop, data_length] at hwl
      have HN := Aside0.mk hne
      clear hne
      generalize hwd : wid (s.data.toList.drop k) = n at *
      have HC := Aside0.mk (rune_call w hG s k cp nd n hlt hm hcap hwd)
      have HW := Aside0.mk hwd
      clear hwd
      have hlt2 : k < cp := by omega
      by_cases hn0 : n = 0
      · subst hn0
        have hfin := Aside0.mk (show utf s.data.toList = false from by rw [hu.out]; unfold utf; rw [dif_neg HN.out, dif_pos HW.out])
        go_wp2_with (go_at_call 36; refine HC.out.mono ?_; rintro e w1 ⟨rfl, hd⟩; obtain ⟨nd2, rfl⟩ := hd.out; clear hd)
        go_ret
        exact ⟨by rw [hfin.out]; first | done | rfl, pw_below_drewN hBB.out _⟩
      · have hfin := Aside0.mk (show utf s.data.toList = utf (s.data.toList.drop (k + n)) from by rw [hu.out]; conv => lhs; unfold utf; rw [dif_neg HN.out, dif_neg (by rw [HW.out]; exact hn0), HW.out, List.drop_drop])
        have hn1 : 0 < n := by omega
        have hb0 : ((n : Int) == 0) = false := by rw [beq_eq_false_iff_ne]; omega
        clear hn0
        go_wp2_with (go_at_call 36; refine HC.out.mono ?_; rintro e w1 ⟨rfl, hd⟩; obtain ⟨nd2, rfl⟩ := hd.out; clear hd)
        go_roundw
        case rel => exact ⟨k + n, by omega, by go_num, hfin, Drawn0.step (Drawn0.refl _) _⟩
        case measure => simp [intOf]; omega
    · obtain rfl : k = s.size := by omega
      have hfin := Aside0.mk (show utf s.data.toList = true from by rw [hu.out, List.drop_of_length_le (by rw [data_length]; omega)]; unfold utf; rw [dif_pos rfl])
      go_wp2
      go_ret
      exact ⟨by rw [hfin.out]; first | done | rfl, pw_below_drewN hBB.out _⟩

end Go.Proofs.YtldlkoncndlbhaaDoor.PRa

/- The contracts of show.plain and of the document's UTF, walked by hand, in the printed texts' form. -/
set_option linter.unusedVariables false
namespace Go.Proofs.YtldlkoncndlbhaaDoor.PSh
open Go.RowKit Go.Proofs.YtldlkoncndlbhaaDoor.Utf Go.Proofs.YtldlkoncndlbhaaDoor.Pl Go.Proofs.YtldlkoncndlbhaaDoorW.PrintWords

def haulierref03_UTF.f (a0 : ByteArray) : Option Bool := if a0.size ≤ 140737488351232 then some (utf a0.data.toList) else none
theorem haulierref03_UTF.calls (a0 : ByteArray) (r : Bool) (w : World) (hG : Aside0 (Glob w)) (h : haulierref03_UTF.f a0 = some r) :
    Calls Tryd.prog 20 #[.string a0] w fun e w' => e = .returned (.bool r) ∧ Below w.heap.size w w' := by
  unfold haulierref03_UTF.f at h
  split at h
  · rename_i hs
    obtain rfl := Option.some.inj h
    exact PRa.utf_walk a0 w hG hs
  · cases h

/-- The sizes at which 'plain' is walked. -/
def plainOk (a3 : ByteArray) (l4 : List ByteArray) : Prop := (∀ s ∈ l4, s.size ≤ 140737488355328) ∧ a3.size ≤ 140737488355328 ∧ l4.length ≤ 140737488355328
instance (a3 : ByteArray) (l4 : List ByteArray) : Decidable (plainOk a3 l4) := by unfold plainOk; infer_instance
def show_plain.f (a0_0 : Int) (a0_1 : Bool) (a0_2 : Int) (a0_3 : ByteArray) (l0_4 : List ByteArray) (l0_5 : List Int) : Option Bool := if plainOk a0_3 l0_4 then some (plainB a0_0 a0_1 a0_2 a0_3 l0_4 l0_5) else none
theorem show_plain.calls (a0_0 : Int) (a0_1 : Bool) (a0_2 : Int) (a0_3 : ByteArray) (A0_4 : Option Addr) (c0_4 : Nat) (l0_4 : List ByteArray) (A0_5 : Option Addr) (c0_5 : Nat) (l0_5 : List Int) (r : Bool) (w : World) (hG : Aside0 (Glob w))
    (hr0_4 : Kd.string.C w A0_4 l0_4.length l0_4) (hc0_4 : l0_4.length ≤ c0_4) (hr0_5 : (Kd.int .i64).C w A0_5 l0_5.length l0_5) (hc0_5 : l0_5.length ≤ c0_5) (h : show_plain.f a0_0 a0_1 a0_2 a0_3 l0_4 l0_5 = some r) :
    Calls Tryd.prog 22 #[.agg #[.int .i64 a0_0, .bool a0_1, .int .i64 a0_2, .string a0_3, .slice A0_4 l0_4.length c0_4, .slice A0_5 l0_5.length c0_5]] w fun e w' => e = .returned (.bool r) ∧ Below w.heap.size w w' := by
  unfold show_plain.f at h
  split at h
  · rename_i hs
    obtain rfl := Option.some.inj h
    exact plain_walk _ _ _ _ _ _ _ _ _ _ w hr0_4 hc0_4 hs.1 hs.2.1 hs.2.2 hG.out.2
  · cases h

end Go.Proofs.YtldlkoncndlbhaaDoor.PSh

-- Laid by wip/mk/mk.py of this session (the kit's printer with this session's contracts for library functions).
namespace Go.Proofs.YtldlkoncndlbhaaDoor.PSh
open Go.RowKit Go.Proofs.YtldlkoncndlbhaaDoorW.PrintWords Go.Proofs.YtldlkoncndlbhaaDoorW.PrintLast Go.Proofs.YtldlkoncndlbhaaDoorW.PrintMore
attribute [local go_sem] max2_int min2_int max_two min_two max_three min_three max_four min_four   -- for this text's walks alone
set_option linter.unusedVariables false
set_option linter.unusedSimpArgs false

/-! ### slices_Index_bool_bool: function 39 -/
def slices_Index_bool_bool.l0 : Nat → List Bool → Bool → Int → Int → Option (Int)
  | 0, _, _, _, _ => none
  | k + 1, x0, x1, x7, x8 => if x8 < x7 then (if 0 ≤ x8 then (if x8 < (x0.length : Int) then (if (x1 == (rdOf false x0 x8)) = true then (some x8) else (slices_Index_bool_bool.l0 k x0 x1 x7 (wrap64 (x8 + 1)))) else (none)) else (none)) else (some (-1))
def slices_Index_bool_bool.f (k : Nat) (l0 : List Bool) (a1 : Bool) : Option (Int) := slices_Index_bool_bool.l0 k l0 a1 (l0.length : Int) 0
theorem slices_Index_bool_bool.mono_l : ∀ k, (∀ y0 y1 y2 y3, LeO (slices_Index_bool_bool.l0 k y0 y1 y2 y3) (slices_Index_bool_bool.l0 (k + 1) y0 y1 y2 y3))
  | 0 => fun _ _ _ _ r h => by simp [slices_Index_bool_bool.l0] at h
  | k + 1 => by
    have ih0 := slices_Index_bool_bool.mono_l k
    · intro y0 y1 y2 y3
      unfold slices_Index_bool_bool.l0
      repeat' first
      | (with_reducible exact ih0 _ _ _ _)
      | (with_reducible exact LeO.refl _)
      | (with_reducible exact LeO.none _)
      | (with_reducible refine LeO.ite ?_ ?_)
      | (with_reducible refine LeO.bind ?_ (fun _ => ?_))
      | exact ih0 _ _ _ _
      | exact LeO.none _
      | refine LeO.ite ?_ ?_
      | refine LeO.bind ?_ (fun _ => ?_)
theorem slices_Index_bool_bool.mono : ∀ a0 a1 k, LeO (slices_Index_bool_bool.f k a0 a1) (slices_Index_bool_bool.f (k + 1) a0 a1) := by
  intro a0 a1 k
  have ih0 := slices_Index_bool_bool.mono_l k
  unfold slices_Index_bool_bool.f
  repeat' first
      | (with_reducible exact ih0 _ _ _ _)
      | (with_reducible exact LeO.refl _)
      | (with_reducible exact LeO.none _)
      | (with_reducible refine LeO.ite ?_ ?_)
      | (with_reducible refine LeO.bind ?_ (fun _ => ?_))
      | exact ih0 _ _ _ _
      | exact LeO.none _
      | refine LeO.ite ?_ ?_
      | refine LeO.bind ?_ (fun _ => ?_)
set_option maxHeartbeats 8000000 in
set_option maxRecDepth 100000 in
theorem slices_Index_bool_bool.calls (k : Nat) (A0 : Option Addr) (c0 : Nat) (l0 : List Bool) (a1 : Bool) (r : Int) (w : World) (hG : Aside0 (Glob w)) (hr0 : Kd.C Kd.bool w A0 l0.length l0) (hc0 : l0.length ≤ c0) (h : slices_Index_bool_bool.f k l0 a1 = some r) :
    Calls Tryd.prog 39 #[.slice A0 l0.length c0, .bool a1] w fun e w' => e = .returned (.int .i64 r) ∧ Drawn0 w w' := by
  have HR0 := Aside0.mk hr0
  have HC0 := Aside0.mk hc0
  clear hr0 hc0
  have H : (slices_Index_bool_bool.l0 k l0 a1 (l0.length : Int) 0) = some r := h
  clear h
  have H' := Aside0.mk H
  clear H
  go_enter Tryd.func39, Tryd.ntmps39
  go_wp2
  go_loopg [8] k (fun kq v8 w' => ∃ (x8_1 : Int), v8 = .int .i64 x8_1 ∧ Aside0 (slices_Index_bool_bool.l0 kq l0 a1 (l0.length : Int) x8_1 = some r) ∧ Aside0 (kq ≤ k) ∧ Drawn0 w w')
  case atStart => exact ⟨(0), (by first | rfl | (simp; done) | (simp [*]; done)), H', ⟨Nat.le_refl _⟩, by repeat (first | exact Drawn0.refl _ | apply Drawn0.step)⟩
  case round =>
    clear H'
    try clear p2
    obtain ⟨x8_1, rfl, HA, HK1, ⟨m1, rfl⟩⟩ := hrel
    cases gk with
    | zero => exact absurd HA.out (by simp [slices_Index_bool_bool.l0])
    | succ k1 =>
      have H := HA.out
      clear HA
      simp only [slices_Index_bool_bool.l0] at H
      by_cases c3 : x8_1 < (l0.length : Int)
      · rw [if_pos c3] at H
        have c3b0 : decide (x8_1 < (l0.length : Int)) = true := decide_eq_true c3
        clear c3
        by_cases c4 : 0 ≤ x8_1
        · rw [if_pos c4] at H
          have c4b0 : decide (0 ≤ x8_1) = true := decide_eq_true c4
          clear c4
          by_cases c5 : x8_1 < (l0.length : Int)
          · rw [if_pos c5] at H
            have c5b0 : decide (x8_1 < (l0.length : Int)) = true := decide_eq_true c5
            clear c5
            by_cases c6 : (a1 == (rdOf false l0 x8_1)) = true
            · rw [if_pos c6] at H
              have c6b0 : (a1 == (rdOf false l0 x8_1)) = true := c6
              (try (have c6b1 : decide (a1 = (rdOf false l0 x8_1)) = true := by simpa using c6))
              (try (have c6b2 : (a1 == (rdOf false l0 x8_1)) = true := by simpa using c6))
              clear c6
              obtain rfl := Option.some.inj H
              have p101 : 0 ≤ (x8_1 : Int) := of_decide_eq_true (by first | (with_reducible assumption) | assumption)
              have q101 : x8_1 < (l0.length : Int) := of_decide_eq_true (by first | (with_reducible assumption) | assumption)
              obtain ⟨ad101, e101, hx101_0⟩ := Kd.at_bool HR0.out x8_1 p101 q101
              cases e101
              replace p101 := eq_true p101
              replace q101 := eq_true q101
              go_wp2
              go_ret
              exact ⟨by first | rfl | (simp; done) | (simp [*]; done), by repeat (first | exact Drawn0.refl _ | apply Drawn0.step)⟩
            · rw [if_neg c6] at H
              have c6b0 : (a1 == (rdOf false l0 x8_1)) = false := by simpa using c6
              (try (have c6b1 : decide (a1 = (rdOf false l0 x8_1)) = false := by simpa using c6))
              (try (have c6b2 : (a1 == (rdOf false l0 x8_1)) = false := by simpa using c6))
              (try (have c6b3 : ¬ (a1 = (rdOf false l0 x8_1)) := by simpa using c6))
              clear c6
              have H' := Aside0.mk H
              clear H
              have p101 : 0 ≤ (x8_1 : Int) := of_decide_eq_true (by first | (with_reducible assumption) | assumption)
              have q101 : x8_1 < (l0.length : Int) := of_decide_eq_true (by first | (with_reducible assumption) | assumption)
              obtain ⟨ad101, e101, hx101_0⟩ := Kd.at_bool HR0.out x8_1 p101 q101
              cases e101
              replace p101 := eq_true p101
              replace q101 := eq_true q101
              go_wp2
              go_roundg k1
              case measure => have := HK1.out; omega
              case rel => exact ⟨(wrap64 (x8_1 + 1)), (by first | rfl | (simp; done) | (simp [*]; done)), H', ⟨by have := HK1.out; omega⟩, by repeat (first | exact Drawn0.refl _ | apply Drawn0.step)⟩
          · rw [if_neg c5] at H
            exact absurd H (by simp)
        · rw [if_neg c4] at H
          exact absurd H (by simp)
      · rw [if_neg c3] at H
        have c3b0 : decide (x8_1 < (l0.length : Int)) = false := decide_eq_false c3
        clear c3
        obtain rfl := Option.some.inj H
        go_wp2
        go_ret
        exact ⟨by first | rfl | (simp; done) | (simp [*]; done), by repeat (first | exact Drawn0.refl _ | apply Drawn0.step)⟩

/-! ### slices_Contains_bool_bool: function 23 -/
def slices_Contains_bool_bool.f (k : Nat) (l0 : List Bool) (a1 : Bool) : Option (Bool) := (slices_Index_bool_bool.f k l0 a1).bind fun t102 => (some (decide (t102 ≥ 0)))
theorem slices_Contains_bool_bool.mono : ∀ a0 a1 k, LeO (slices_Contains_bool_bool.f k a0 a1) (slices_Contains_bool_bool.f (k + 1) a0 a1) := by
  intro a0 a1 k
  unfold slices_Contains_bool_bool.f
  repeat' first
      | (with_reducible exact slices_Index_bool_bool.mono _ _ _)
      | (with_reducible exact LeO.refl _)
      | (with_reducible exact LeO.none _)
      | (with_reducible refine LeO.ite ?_ ?_)
      | (with_reducible refine LeO.bind ?_ (fun _ => ?_))
      | exact slices_Index_bool_bool.mono _ _ _
      | exact LeO.none _
      | refine LeO.ite ?_ ?_
      | refine LeO.bind ?_ (fun _ => ?_)
set_option maxHeartbeats 8000000 in
set_option maxRecDepth 100000 in
theorem slices_Contains_bool_bool.calls (k : Nat) (A0 : Option Addr) (c0 : Nat) (l0 : List Bool) (a1 : Bool) (r : Bool) (w : World) (hG : Aside0 (Glob w)) (hr0 : Kd.C Kd.bool w A0 l0.length l0) (hc0 : l0.length ≤ c0) (h : slices_Contains_bool_bool.f k l0 a1 = some r) :
    Calls Tryd.prog 23 #[.slice A0 l0.length c0, .bool a1] w fun e w' => e = .returned (.bool r) ∧ Drawn0 w w' := by
  have HR0 := Aside0.mk hr0
  have HC0 := Aside0.mk hc0
  clear hr0 hc0
  have H : ((slices_Index_bool_bool.f k l0 a1).bind fun t102 => (some (decide (t102 ≥ 0)))) = some r := h
  clear h
  replace H := Option.bind_eq_some_iff.mp H
  obtain ⟨t102, A30, H⟩ := H
  replace H : (some (decide (t102 ≥ 0))) = some r := H
  have A3 := Aside0.mk A30
  clear A30
  obtain rfl := Option.some.inj H
  go_enter Tryd.func23, Tryd.ntmps23
  go_wp2_with (first | ((with_reducible refine gate_callee (f := 39) rfl ?_); refine goesL_ (some 7) rfl rfl Tryd.func39 (by kernel_rfl) rfl #[.slice A0 l0.length c0, .bool a1] rfl (by (try simp only [List.map_toArray, List.map_cons, List.map_nil]); first | done | rfl | (simp only [List.length_drop, List.length_take]; rfl)) ?_; (with_reducible refine (slices_Index_bool_bool.calls k _ _ l0 a1 t102 _ ⟨by repeat (first | exact hG.out | exact hG.out.below (by repeat (first | (with_reducible first | exact HB.out | apply below_alloc | apply pw_below_drewN | apply below_drew1) | exact HB.out | exact Below.refl _ _)) | apply Glob.drewN | apply Glob.drew)⟩ ?side1 ?side2 A3.out).mono ?_); (case side1 => repeat (first | exact HR0.out | (with_reducible refine Kd.C_alloc ?_ _) | (with_reducible refine Kd.C_drewN ?_ _) | (with_reducible refine Kd.C_drew ?_))); (case side2 => exact HC0.out); rintro e w' ⟨rfl, ⟨nd, rfl⟩⟩; refine ⟨_, rfl, ?_⟩))
  go_ret
  exact ⟨by first | rfl | (simp; done) | (simp [*]; done), by repeat (first | exact Drawn0.refl _ | apply Drawn0.step)⟩

end Go.Proofs.YtldlkoncndlbhaaDoor.PSh
