/- YtldlkoncndlbhaaDoorZSa0: this session's texts ShowSame, Laid, RowUptoShowSame, one behind the other (a claim holds at most 60 files). The last of them states what is proved; its conditions stand there. -/
import Derived.Test.YtldlkoncndlbhaaDoorZB5
import Derived.Test.YtldlkoncndlbhaaDoorRows
import Derived.Test.YtldlkoncndlbhaaDoorShelf
import Derived.ProofKit
import Derived.LaidMore
import Derived.Stop.Joined
import Derived.Lib.LaidTab
import Derived.Lib.LaidU8T
import Derived.Test.YtldlkoncndlbhaaDoorCards
import Derived.Test.YtldlkoncndlbhaaDoorTie
import Derived.WalkKit
import Derived.OpenShut
import Derived.ShutString
import Derived.ChangeOld
import Derived.Below
import Derived.SizedLaws
import Derived.SevenTiedAt
import Derived.Deep.DeepHandedRow
import Derived.Deep.DeepWitnessRowRef

/- ShowSame, the walk: of any two trees of a bounded cost the law answers true. -/
namespace Go.Proofs.YtldlkoncndlbhaaDoor.Pure
open Go.RowKit Go.Proofs.YtldlkoncndlbhaaDoor.PSh Go.Proofs.YtldlkoncndlbhaaDoor.Cp Go.Proofs.YtldlkoncndlbhaaDoor.Aw Go.Proofs.YtldlkoncndlbhaaDoor.Wr Go.Proofs.YtldlkoncndlbhaaDoorW.PrintWords Go.Proofs.YtldlkoncndlbhaaDoorW.PrintLast Go.Proofs.YtldlkoncndlbhaaDoorW.PrintMore
set_option linter.unusedSimpArgs false
set_option linter.unusedVariables false

theorem same_tells {l l2 : List S39} {w : World} {A A2 : Option Addr} {cp cp2 : Nat} {b : Bool} (hG : Aside0 (Glob w)) (hr : Kd.C k39 w A l.length l) (hc : l.length ≤ cp) (hs : Small l)
    (hr2 : Kd.C k39 w A2 l2.length l2) (hc2 : l2.length ≤ cp2) (hs2 : Small l2) (hb : Aside0 ((checkOf l == 0 && checkOf l2 == 0 && (given (checkOf l) l == given (checkOf l2) l2)) = b)) :
    Calls Tryd.prog 16 #[.slice A l.length cp, .slice A2 l2.length cp2] w fun e w' => e = .returned (.bool b) ∧ Below w.heap.size w w' := by
  obtain ⟨K, hK⟩ := check_tells l hs.sz
  obtain ⟨K2, hK2⟩ := check_tells l2 hs2.sz
  rw [← hb.out]
  exact same_walk K K2 l l2 A A2 cp cp2 _ _ w hG hr hc hs.2 hr2 hc2 hs2.2 (hK K (Nat.le_refl _)) hs.ok (hK2 K2 (Nat.le_refl _)) hs2.ok

set_option maxHeartbeats 4000000 in
set_option maxRecDepth 100000 in
theorem showSame_walk (A : Option Addr) (c : Nat) (l : List S39) (A2 : Option Addr) (c2 : Nat) (l2 : List S39) (w : World) (hG : Aside0 (Glob w)) (hr : Kd.C k39 w A l.length l) (hc : l.length ≤ c) (hcost : (l.map Rd.cost).sum ≤ 1048576)
    (hr2 : Kd.C k39 w A2 l2.length l2) (hc2 : l2.length ≤ c2) (hcost2 : (l2.map Rd.cost).sum ≤ 1048576) :
    Calls Tryd.prog 6 #[.slice A l.length c, .slice A2 l2.length c2] w fun e w' => e = .returned (.bool true) ∧ Below w.heap.size w w' := by
  have hs : Small l := Small.of hcost
  have hs2 : Small l2 := Small.of hcost2
  have hsl := Aside0.mk hs.slots
  have hsl2 := Aside0.mk hs2.slots
  by_cases hbig : 300 < l.length
  · have hb1 : ((l.length : Int) > 300) = True := eq_true (by omega)
    have hb2 : decide ((300 : Int) < (l.length : Int)) = true := decide_eq_true (by omega)
    have hb3 : decide (300 < l.length) = true := decide_eq_true hbig
    go_enter Tryd.func6, Tryd.ntmps6
    go_wp2_with (go_at_call 10; refine (awake_walk w hG).mono ?_; rintro e w2 ⟨rfl, hb⟩)
    go_ret
    exact ⟨rfl, hb⟩
  · have hb2 : decide ((300 : Int) < (l.length : Int)) = false := decide_eq_false (by omega)
    have hb3 : decide (300 < l.length) = false := decide_eq_false hbig
    by_cases hbig2 : 300 < l2.length
    · have hb4 : ((l2.length : Int) > 300) = True := eq_true (by omega)
      have hb5 : decide ((300 : Int) < (l2.length : Int)) = true := decide_eq_true (by omega)
      have hb6 : decide (300 < l2.length) = true := decide_eq_true hbig2
      go_enter Tryd.func6, Tryd.ntmps6
      go_wp2_with (go_at_call 10; refine (awake_walk w hG).mono ?_; rintro e w2 ⟨rfl, hb⟩)
      go_ret
      exact ⟨rfl, hb⟩
    · have hb5 : decide ((300 : Int) < (l2.length : Int)) = false := decide_eq_false (by omega)
      have hb6 : decide (300 < l2.length) = false := decide_eq_false hbig2
      obtain ⟨b, hB⟩ : ∃ b, (checkOf l == 0 && checkOf l2 == 0 && (given (checkOf l) l == given (checkOf l2) l2)) = b := ⟨_, rfl⟩
      replace hB := Aside0.mk hB
      have hself : Aside0 ((checkOf l == 0 && checkOf l == 0 && (given (checkOf l) l == given (checkOf l) l)) = (checkOf l == 0)) := ⟨by simp⟩
      obtain ⟨r, hr0⟩ : ∃ r, checkOf l = r := ⟨_, rfl⟩
      obtain ⟨r2, hr20⟩ : ∃ r2, checkOf l2 = r2 := ⟨_, rfl⟩
      have hprint := fun (w' : World) (A' : Option Addr) (cp' : Nat) (h1 : Aside0 (Glob w')) (h2 : Kd.C k39 w' A' l.length l) (h3 : l.length ≤ cp') => refprint_tells h1 h2 h3 hs
      have hprint2 := fun (w' : World) (A' : Option Addr) (cp' : Nat) (h1 : Aside0 (Glob w')) (h2 : Kd.C k39 w' A' l2.length l2) (h3 : l2.length ≤ cp') => refprint_tells h1 h2 h3 hs2
      unfold Printed at hprint hprint2
      rw [hr0] at hprint hB hself
      rw [hr20] at hprint2 hB
      have HP := Aside0.mk hprint
      have HP2 := Aside0.mk hprint2
      have HS := Aside0.mk (fun (w' : World) (A' : Option Addr) (cp' : Nat) (A2' : Option Addr) (cp2' : Nat) (h1 : Aside0 (Glob w')) (h2 : Kd.C k39 w' A' l.length l) (h3 : l.length ≤ cp') (h4 : Kd.C k39 w' A2' l2.length l2) (h5 : l2.length ≤ cp2') => same_tells (b := b) h1 h2 h3 hs h4 h5 hs2 (by rw [hr0, hr20]; exact hB))
      have HT := Aside0.mk (fun (w' : World) (A' : Option Addr) (cp' : Nat) (A2' : Option Addr) (cp2' : Nat) (h1 : Aside0 (Glob w')) (h2 : Kd.C k39 w' A' l.length l) (h3 : l.length ≤ cp') (h4 : Kd.C k39 w' A2' l.length l) (h5 : l.length ≤ cp2') => same_tells (b := (r == 0)) h1 h2 h3 hs h4 h5 hs (by rw [hr0]; exact hself))
      clear hprint hprint2 hself hr0 hr20
      have e0 : (r == 0) = true ∨ (r == 0) = false := by cases (r == 0) <;> simp
      have e2 : (r2 == 0) = true ∨ (r2 == 0) = false := by cases (r2 == 0) <;> simp
      have hbf : (r == 0) = false ∨ (r2 == 0) = false → b = false := fun h => by
        rw [← hB.out]
        rcases h with h | h <;> rw [h] <;> simp
      have HBF := Aside0.mk hbf
      clear hbf
      rcases e0 with e0 | e0 <;> rcases e2 with e2 | e2
      all_goals
        first | (have hbq := HBF.out (.inl e0); subst hbq) | (have hbq := HBF.out (.inr e2); subst hbq) | skip
        go_enter Tryd.func6, Tryd.ntmps6
        go_wp2_with (first
          | (go_at_call 10; refine (awake_walk w hG).mono ?_; rintro e w2 ⟨rfl, hb⟩; have hra := Kd.C_below hr hb; have hrb := Kd.C_below hr2 hb; have hG2 := hG.out.below hb)
          | (go_at_call 15; (with_reducible refine (HP.out w2 A c ⟨hG2⟩ hra hc).mono ?_); rintro e w3 ⟨A3, c3, t, rfl, hrd, hb3, ht⟩; have hT := Aside0.mk ht; clear ht; have hB3 := hb.trans (hb3.mono hb.size); have hrb3 := Kd.C_below hr2 hB3; have hG3 := hG.out.below hB3)
          | (go_at_call 15; (with_reducible refine (HP2.out w3 A2 c2 ⟨hG3⟩ hrb3 hc2).mono ?_); rintro e w4 ⟨A4, c4, t2, rfl, hrd2, hb4, ht2⟩; have hT2 := Aside0.mk ht2; clear ht2; have hB4 := hB3.trans (hb4.mono hB3.size); have hra4 := Kd.C_below hr hB4; have hG4 := hG.out.below hB4; have k1 := as_string (A := A3) (c := c3) (hrd.below hb4); have k2 := as_string (A := A4) (c := c4) hrd2; (try have hq : (b = (t == t2)) = True := eq_true (by rw [hT.out, hT2.out, ← hB.out, e0, e2]; rfl)); (try have hq2 : (b == (t == t2)) = true := beq_iff_eq.2 (of_eq_true hq)))
          | (go_at_call 12; (with_reducible refine (copied_walk l A c w4 hra4 hc (by omega) hsl.out).mono ?_); rintro e w5 ⟨v5, rfl, hN5, hb5⟩; obtain ⟨A5, c5, rfl, hc5, hr5⟩ := Kd.N_reads hN5; have hB5 := hB4.trans (hb5.mono hB4.size); have hrb5 := Kd.C_below hr2 hB5)
          | (go_at_call 12; (with_reducible refine (copied_walk l2 A2 c2 w5 hrb5 hc2 (by omega) hsl2.out).mono ?_); rintro e w6 ⟨v6, rfl, hN6, hb6'⟩; obtain ⟨A6, c6, rfl, hc6, hr6⟩ := Kd.N_reads hN6; have hB6 := hB5.trans (hb6'.mono hB5.size); have hr56 := Kd.C_below hr5 hb6'; have hG6 := hG.out.below hB6)
          | (go_at_call 16; (with_reducible refine (HS.out w6 A5 c5 A6 c6 ⟨hG6⟩ hr56 hc5 hr6 hc6).mono ?_); rintro e w7 ⟨rfl, hb7⟩; have hB7 := hB6.trans (hb7.mono hB6.size); have hra7 := Kd.C_below hr hB7)
          | (go_at_call 12; (with_reducible refine (copied_walk l A c w7 hra7 hc (by omega) hsl.out).mono ?_); rintro e w8 ⟨v8, rfl, hN8, hb8⟩; obtain ⟨A8, c8, rfl, hc8, hr8⟩ := Kd.N_reads hN8; have hB8 := hB7.trans (hb8.mono hB7.size); have hra8 := Kd.C_below hr hB8)
          | (go_at_call 12; (with_reducible refine (copied_walk l A c w8 hra8 hc (by omega) hsl.out).mono ?_); rintro e w9 ⟨v9, rfl, hN9, hb9⟩; obtain ⟨A9, c9, rfl, hc9, hr9⟩ := Kd.N_reads hN9; have hB9 := hB8.trans (hb9.mono hB8.size); have hr89 := Kd.C_below hr8 hb9; have hG9 := hG.out.below hB9)
          | (go_at_call 16; (with_reducible refine (HT.out w9 A8 c8 A9 c9 ⟨hG9⟩ hr89 hc8 hr9 hc9).mono ?_); rintro e w10 ⟨rfl, hb10⟩))
      all_goals go_ret
      all_goals exact ⟨rfl, hB9.trans (hb10.mono hB9.size)⟩

end Go.Proofs.YtldlkoncndlbhaaDoor.Pure

/- What the rows' condition on package-level variables gives: 'Glob'. -/
namespace Go.Proofs.YtldlkoncndlbhaaDoor.Laid
open Go.ChangeShapes Go.WideShapes Go.ChangeAt Go.RowKit Go.Proofs.YtldlkoncndlbhaaDoorW.PrintWords

/-- A table of integers that reads as listed. -/
theorem tab_is {P : Program} {W : World} {name : String} {k : IntKind} {zs : List Int} {g : Nat} {t e : TypeId} {n : Nat}
    (hg : P.globalNamed name = some g) (hty : (P.globals[g]?).map (·.type) = some t) (ht : P.underlying t = some (.array n e)) (he : P.underlying e = some (.int k)) (hce : P.cellsOf e = 1) (hct : P.cellsOf t = n)
    (h : Lib.VarReads P W name (Lib.tabData k zs)) : Lib.TabIs P W name k zs := by
  obtain ⟨g', t', cs, fuel, p, hg', ht', hvar, hd⟩ := h
  obtain rfl := Option.some.inj (hg.symm.trans hg')
  obtain rfl := Option.some.inj (hty.symm.trans ht')
  unfold Lib.TabIs
  rw [hvar, ← Lib.cells_of_tab ht he hce hct hd]

def laid : List (String × DataW Unit) := [("math/bits.deBruijn32tab", Rows.laid_math_bits_deBruijn32tab), ("math/bits.deBruijn64tab", Rows.laid_math_bits_deBruijn64tab), ("internal/strconv.uint64pow10", Rows.laid_internal_strconv_uint64pow10), ("unicode/utf8.acceptRanges", Rows.laid_unicode_utf8_acceptRanges), ("unicode/utf8.first", Rows.laid_unicode_utf8_first)]
theorem dataPow : Rows.laid_internal_strconv_uint64pow10 (H := Unit) = Lib.tabData .u64 Lib.pow10Tab := by kernel_rfl
theorem dataAcc : Rows.laid_unicode_utf8_acceptRanges (H := Unit) = Lib.acceptData := by kernel_rfl
theorem dataFirst : Rows.laid_unicode_utf8_first = Lib.firstData := by kernel_rfl
theorem extra : U8Extra Tryd.prog Tryd.lays196_ren := ⟨by kernel_rfl, by kernel_rfl, by kernel_rfl, by kernel_rfl, by kernel_rfl, by kernel_rfl, by kernel_rfl⟩

theorem glob_of_laid {W : World} (h : laidMetH Tryd.prog laid W) : Glob W := by
  rw [MakeChecks.laidMetH_plain _ _ _ (by kernel_rfl)] at h
  have hp := Lib.laidMet.reads h (n := "internal/strconv.uint64pow10") (d := Rows.laid_internal_strconv_uint64pow10) (by simp [laid])
  rw [dataPow] at hp
  have ha := Lib.laidMet.reads h (n := "unicode/utf8.acceptRanges") (d := Rows.laid_unicode_utf8_acceptRanges) (by simp [laid])
  rw [dataAcc] at ha
  have hf := Lib.laidMet.reads h (n := "unicode/utf8.first") (d := Rows.laid_unicode_utf8_first) (by simp [laid])
  rw [dataFirst] at hf
  exact ⟨tab_is (P := Tryd.prog) (g := 2) (t := 115) (e := 98) (n := 20) (by kernel_rfl) (by kernel_rfl) Tryd.underlying115 Tryd.underlying98 (by kernel_rfl) (by kernel_rfl) hp,
    utf8Tabs_of_readsT (U8Types.of196 Tryd.lays196) extra hf ha⟩

def firstCells : Array Value := (Go.Pinned.utf8FirstZ.map fun (n : Nat) => Value.int .u8 (n : Int)).toArray
/-- The heap that the door's own run leaves, utf8's table in its place (its text is pinned, not in the dump). -/
noncomputable def door (os : Os) : World := { World.doorLaid Tryd.prog 72 os with heap := (World.doorLaid Tryd.prog 72 os).heap.modify 0 fun o => match o with | .cells _ t fz => .cells firstCells t fz | o => o }
theorem door_met (os : Os) (args : Array Value) : laidMetH Tryd.prog laid ((door os).forCall (fun _ _ => 0) ⟨#[], args, []⟩).memory :=
  laidMetH_of_parts3 (fuel := 8) (laidMet_of_run' 8 (by kernel_rfl) (by kernel_rfl)) (by kernel_rfl) (by kernel_rfl)

theorem all_of_laid {W : World} (h : laidMetH Tryd.prog laid W) : Aside0 (Glob W) := ⟨glob_of_laid h⟩

end Go.Proofs.YtldlkoncndlbhaaDoor.Laid

/- ShowSame, in its second form: for every input of bulk at most 1048576 that can be read as data, the package-level tables lying as the program's text lays them (the card ties them to it), the law answers true and leaves its arguments as they were. -/
namespace Go.Proofs.YtldlkoncndlbhaaDoor.showSameUpto
open Go.ChangeShapes Go.WideShapes Go.ChangeAt Go.RowKit Go.Proofs.YtldlkoncndlbhaaDoor.PSh
set_option linter.unusedVariables false
theorem own : ownKnob Tryd.prog.godebug = none := by kernel_rfl
theorem laidOut : laidOutB Tryd.prog = true := by kernel_rfl
theorem reads (os : Os) {H : Type} (enc : TypeId × Value → H) : ∃ places, DataW.whole enc Tryd.prog ((Laid.door os).forCall (fun _ _ => 0) ⟨#[], #[.slice none 0 0, .slice none 0 0], []⟩).memory Tryd.f6.params.toList Rows.showSameSpec.vars false (#[.slice none 0 0, .slice none 0 0] : Array Value).toList 8 = some ([.nil, .nil], [], places) :=
  ⟨[], by kernel_rfl⟩
theorem met (os : Os) : laidMetH Tryd.prog Rows.showSameUptoRow.laid ((Laid.door os).forCall (fun _ _ => 0) ⟨#[], #[.slice none 0 0, .slice none 0 0], []⟩).memory := laidMetH_of_parts3 (fuel := 8) (laidMet_of_run' 8 (by kernel_rfl) (by kernel_rfl)) (by kernel_rfl) (by kernel_rfl)
set_option maxRecDepth 100000 in
theorem lifted (os : Os) (started : os.Started) (H : Type) (enc : TypeId × Value → H) (F : Stop.Interp) :
    ReturnsInHanded {} Tryd.checked os 6 .any ((Rows.OpenSpec.upto Rows.showSameSpec).preRow enc Tryd.prog Tryd.f6 Rows.showSameUptoRow.domain false Rows.showSameUptoRow.laid) (((Rows.OpenSpec.upto Rows.showSameSpec).at F).post enc Tryd.prog Tryd.f6 false true false false) := by
  obtain ⟨places, hx⟩ := reads os enc
  refine returnsInHanded_of_row (C := Tryd.checked) (s := Rows.OpenSpec.upto Rows.showSameSpec) own started (by kernel_rfl) Tryd.func6
    (witness_row_atRef (enc := enc) (C := Tryd.checked) false (Laid.door os) #[.slice none 0 0, .slice none 0 0] rfl (by kernel_rfl) (by kernel_rfl) (by kernel_rfl)
      (OpenSpec.preRow_of_cond 8 hx (by kernel_rfl) (fun k hk => by cases hk; kernel_rfl) (by kernel_rfl) (met os))) ?_
  intro W base args ds gs before hval0 hW _ hcond _ hL _ _
  have hbulk : Rows.uptoBulkAll (ds ++ gs) ≤ 1048576 := Bulk.small (hcond _ rfl)
  have hval : ∀ (j : Nat) t v, Tryd.f6.params[j]? = some t → args[j]? = some v → Value.okWide Tryd.prog W .any base t v := hval0
  have hW' := hW
  obtain ⟨p, q, hA0, hV, rfl, hfz, hnd⟩ := hW
  have hA : DataW.TrodAll enc Tryd.prog W 0 (fun _ => true) true Tryd.f6.params.toList args.toList ds p := hA0
  rw [Tryd.params6] at hA hval
  obtain ⟨v0, vs0, d0, ds0, p0, q0, hargs, rfl, rfl, h0, r0⟩ := trodAll_cons hA
  obtain ⟨v1, vs1, d1, ds1, p1, q1, rfl, rfl, rfl, h1, r1⟩ := trodAll_cons r0
  obtain ⟨rfl, rfl, rfl⟩ := trodAll_nil r1
  obtain rfl : args = #[v0, v1] := by cases args; simp_all
  obtain ⟨rfl, rfl⟩ := trodVars_none hV
  obtain ⟨a0, len0, cap0, rfl⟩ := okWide_slice Tryd.underlying23 (hval 0 23 v0 rfl rfl)
  have k0 := h0
  have lt0 : ∀ x ∈ p0, x.block < W.heap.size := by obtain ⟨m, hm⟩ := k0; exact DataW.trod_lt m _ _ _ hm
  obtain ⟨fuel0, hf0⟩ := h0
  obtain ⟨A0, c0, l0, hcs0, hlc0, hC0, hb0⟩ := Rd.tree_ofB hf0
  simp [Value.cells] at hcs0
  obtain ⟨rfl, rfl, rfl⟩ := hcs0
  have hs0 : (l0.map Rd.cost).sum ≤ 1048576 := Nat.le_trans hb0 (Nat.le_trans (Bulk.part_le (by simp)) hbulk)
  obtain ⟨a1, len1, cap1, rfl⟩ := okWide_slice Tryd.underlying23 (hval 1 23 v1 rfl rfl)
  have k1 := h1
  have lt1 : ∀ x ∈ p1, x.block < W.heap.size := by obtain ⟨m, hm⟩ := k1; exact DataW.trod_lt m _ _ _ hm
  obtain ⟨fuel1, hf1⟩ := h1
  obtain ⟨A1, c1, l1, hcs1, hlc1, hC1, hb1⟩ := Rd.tree_ofB hf1
  simp [Value.cells] at hcs1
  obtain ⟨rfl, rfl, rfl⟩ := hcs1
  have hs1 : (l1.map Rd.cost).sum ≤ 1048576 := Nat.le_trans hb1 (Nat.le_trans (Bulk.part_le (by simp)) hbulk)
  clear hA0 hval0 hcond
  refine (Pure.showSame_walk _ _ l0 _ _ l1 W (Laid.all_of_laid hL) hC0 hlc0 hs0 hC1 hlc1 hs1).mono fun e W' ⟨he, bel⟩ => ?_
  subst he
  exact ⟨_, rfl, _, _, _, [], _, [], hW', trodAll_mk1 (shut_bool Tryd.underlying4 _), (trodAll_cons_mk (Below.trod laidOut (by kernel_rfl) (of_decide_eq_true (by kernel_rfl)) k0 bel lt0) (trodAll_cons_mk (Below.trod laidOut (by kernel_rfl) (of_decide_eq_true (by kernel_rfl)) k1 bel lt1) trodAll_mk0)), rfl, bel.frame _, fun h => by cases h⟩
theorem over : Rows.ShowSameUptoSaid :=
  OpenClaim.holds_of_cond 6 Tryd.f6 rfl rfl rfl rfl rfl rfl rfl ⟨rfl, rfl, rfl, rfl, rfl⟩ rfl rfl rfl rfl rfl (by kernel_rfl) Tryd.func6 (by kernel_rfl)
    (of_decide_eq_true (by kernel_rfl)) (by unfold Func.isWrapper; first | (rw [if_pos (by decide +kernel)]; kernel_rfl) | (rw [if_neg (by decide +kernel)]; exact ⟨rfl, rfl⟩))
    (fun os started H enc _ F => by rw [OpenClaim.pre_eq_preRow]; exact lifted os started H enc F)
theorem card : Rows.ShowSameUptoCardSaid :=
  Claim7.holds_tied_plain_at .later [] [.data, .data, .data, .data, .pinned] true (true, "f7f64af52245c68ce9e21da70b951672bd4e299224670fb1b5d98f932e9bff4c") true
    over (fun _ h => by cases h) (by kernel_rfl) (fun _ h => by cases h) showSameUpto_row_tie rfl ⟨rfl, rfl⟩ (by kernel_rfl) rfl
    (fun f fn hf hfn => by
      obtain rfl : f = 6 := Option.some.inj ((show Tryd.prog.funcNamed "haulier/haulierlaw03.ShowSame" = some 6 by kernel_rfl).symm.trans hf) |>.symm
      obtain rfl : fn = Tryd.f6 := (Option.some.inj (Tryd.func6.symm.trans hfn)).symm
      exact ⟨by kernel_rfl, fun j t ht => by
        rw [Tryd.params6] at ht
        have hm : t ∈ [23] := by simpa using Array.mem_of_getElem? ht
        have hall : ([23].all fun u => !Tryd.prog.wantsStandIn u) = true := by kernel_rfl
        exact (show Tryd.prog.wantsStandIn t = false by simpa using List.all_eq_true.1 hall t hm)⟩)
    (by kernel_rfl)
end Go.Proofs.YtldlkoncndlbhaaDoor.showSameUpto
namespace Go.Proofs.YtldlkoncndlbhaaDoor
/-- The card, under a short name, for the claim. -/
theorem showSame_upto : Rows.ShowSameUptoCardSaid := showSameUpto.card
end Go.Proofs.YtldlkoncndlbhaaDoor
