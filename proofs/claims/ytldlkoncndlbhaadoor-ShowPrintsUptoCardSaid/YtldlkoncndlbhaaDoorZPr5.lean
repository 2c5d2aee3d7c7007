/- YtldlkoncndlbhaaDoorZPr5: this session's texts Fit, ShowPrints, Laid, RowUptoShowPrints, one behind the other (a claim holds at most 60 files). The last of them states what is proved; its conditions stand there. -/
import Derived.Test.YtldlkoncndlbhaaDoorZPr4
import Derived.Test.YtldlkoncndlbhaaDoorRows
import Derived.Test.YtldlkoncndlbhaaDoorShelf
import Derived.ProofKit
import Derived.LaidMore
import Derived.Stop.Joined
import Derived.Lib.LaidTab
import Derived.Lib.LaidU8T
import Derived.Test.YtldlkoncndlbhaaDoorCards
import Derived.Test.YtldlkoncndlbhaaDoorTie
import Derived.WalkKit
import Derived.OpenShut
import Derived.ShutString
import Derived.ChangeOld
import Derived.Below
import Derived.SizedLaws
import Derived.SevenTiedAt
import Derived.Deep.DeepHandedRow
import Derived.Deep.DeepWitnessRowRef

/- What a bounded cost of a tree gives for the walks: sizes, and how long its text may be; both Prints answer 'given'. -/
namespace Go.Proofs.YtldlkoncndlbhaaDoor.Pure
open Go.RowKit Go.Proofs.YtldlkoncndlbhaaDoor.Utf Go.Proofs.YtldlkoncndlbhaaDoor.Pl Go.Proofs.YtldlkoncndlbhaaDoor.Tx Go.Proofs.YtldlkoncndlbhaaDoor.Wr Go.Proofs.YtldlkoncndlbhaaDoor.Rd Go.Proofs.YtldlkoncndlbhaaDoor.PSh Go.Proofs.YtldlkoncndlbhaaDoorW.PrintWords Go.Proofs.YtldlkoncndlbhaaDoorW.PrintLast Go.Proofs.YtldlkoncndlbhaaDoorW.PrintMore
set_option linter.unusedSimpArgs false
set_option linter.unusedVariables false

/-- Of a bounded cost. -/
def Small (l : List S39) : Prop := (l.map cost).sum ≤ 4194304 ∧ l.length ≤ 1048576
theorem Small.of {l : List S39} (h : (l.map cost).sum ≤ 1048576) : Small l := ⟨by omega, Nat.le_trans (len_cost l) h⟩
theorem at_mem {l : List S39} {a : Int} (h0 : 0 ≤ a) (h1 : a < l.length) : rd_T39 l a ∈ l := by
  have hl : a.toNat < l.length := by omega
  unfold rd_T39
  rw [List.getD_eq_getElem?_getD, List.getElem?_eq_getElem hl]
  exact List.getElem_mem hl
theorem Small.at_ {l : List S39} (h : Small l) {a : Int} (h0 : 0 ≤ a) (h1 : a < l.length) :
    (rd_T39 l a).f3.size ≤ 4194304 ∧ (rd_T39 l a).f4.length ≤ 4194304 ∧ (rd_T39 l a).f5.length ≤ 4194304 ∧ ∀ s ∈ (rd_T39 l a).f4, s.size ≤ 4194304 := by
  have h2 := sum_mem l _ (at_mem h0 h1)
  have h3 := h.1
  generalize rd_T39 l a = v at *
  have h4 := names_len v.f4
  have h5 : cost v = 1 + v.f3.size + (v.f4.map fun s => s.size + 1).sum + v.f5.length := rfl
  refine ⟨by omega, by omega, by omega, fun s hs => ?_⟩
  have := name_le v.f4 s hs
  omega
theorem Small.sz {l : List S39} (h : Small l) : Sz l := fun a h0 h1 => by
  obtain ⟨g3, g4, g5, gn⟩ := h.at_ h0 h1
  exact ⟨⟨fun s hs => Nat.le_trans (gn s hs) (by decide), by omega, by omega⟩, by omega⟩
theorem Small.sized {l : List S39} (h : Small l) : Sized l := fun a h0 h1 => by
  obtain ⟨g3, g4, g5, gn⟩ := h.at_ h0 h1
  refine ⟨by omega, by omega, fun i hi => ?_⟩
  have hm : rdOf ByteArray.empty (rd_T39 l a).f4 (i : Int) ∈ (rd_T39 l a).f4 := by
    unfold rdOf
    rw [Int.toNat_natCast, List.getD_eq_getElem?_getD, List.getElem?_eq_getElem hi]
    exact List.getElem_mem hi
  have := gn _ hm
  omega
theorem Small.slots {l : List S39} (h : Small l) : ∀ a : Int, 0 ≤ a → a < l.length → (rd_T39 l a).f4.length * 16 ≤ 140737488355328 ∧ (rd_T39 l a).f5.length * 8 ≤ 140737488355328 := fun a h0 h1 => by
  obtain ⟨g3, g4, g5, gn⟩ := h.at_ h0 h1
  exact ⟨by omega, by omega⟩
theorem sumN_names (ss : List ByteArray) : ∀ m, m ≤ ss.length → sumN (fun i => 6 * (rdOf ByteArray.empty ss (i : Int)).size + 3) m ≤ 6 * ((ss.take m).map fun s => s.size + 1).sum
  | 0, _ => Nat.zero_le _
  | m + 1, h => by
    have ih := sumN_names ss m (by omega)
    rw [sumN, List.take_succ_eq_append_getElem (by omega), List.map_append, List.sum_append]
    have e : rdOf ByteArray.empty ss (m : Int) = ss[m] := by
      unfold rdOf
      rw [Int.toNat_natCast, List.getD_eq_getElem?_getD, List.getElem?_eq_getElem (by omega)]
      rfl
    have e2 : (List.map (fun s : ByteArray => s.size + 1) [ss[m]]).sum = ss[m].size + 1 := by simp
    rw [e, e2]
    omega
theorem own_cost (v : S39) : ownLen v ≤ 32 * cost v := by
  have h := sumN_names v.f4 v.f4.length (Nat.le_refl _)
  rw [List.take_length] at h
  unfold ownLen cost
  omega
theorem sumN_list (l : List S39) : ∀ m, m ≤ l.length → sumN (fun j => ownLen (rd_T39 l (j : Int))) m ≤ 32 * ((l.take m).map cost).sum
  | 0, _ => Nat.zero_le _
  | m + 1, h => by
    have ih := sumN_list l m (by omega)
    rw [sumN, List.take_succ_eq_append_getElem (by omega), List.map_append, List.sum_append]
    have e : rd_T39 l (m : Int) = l[m] := by
      unfold rd_T39
      rw [Int.toNat_natCast, List.getD_eq_getElem?_getD, List.getElem?_eq_getElem (by omega)]
      rfl
    have e2 : (List.map cost [l[m]]).sum = cost l[m] := by simp
    have := own_cost l[m]
    rw [e, e2]
    omega
theorem Small.text {l : List S39} (h : Small l) (hc : checkOf l = 0) : (textOf l).length ≤ 134217728 := by
  have h1 := text_len l hc
  have h2 := sumN_list l l.length (Nat.le_refl _)
  rw [List.take_length] at h2
  have := h.1
  omega
theorem Small.ok {l : List S39} (h : Small l) (hc : checkOf l = 0) : 0 < l.length ∧ Tree l ∧ Sized l ∧ (textOf l).length ≤ 140737488355328 :=
  ⟨(check_nodes l hc).1, check_tree l hc, h.sized, Nat.le_trans (h.text hc) (by decide)⟩

/-- What both Prints leave. -/
def Printed (w : World) (l : List S39) : Ending → World → Prop := fun e w' => ∃ (A' : Option Addr) (c' : Nat) (t : List UInt8), e = .returned (.tuple #[.slice A' t.length c', .int .i64 (checkOf l)]) ∧ ReadsInt w' .u8 A' t.length (numsOf t) ∧ Below w.heap.size w w' ∧ t = given (checkOf l) l
theorem print_tells {l : List S39} {w : World} {A : Option Addr} {cp : Nat} (hG : Aside0 (Glob w)) (hr : Kd.C k39 w A l.length l) (hc : l.length ≤ cp) (hs : Small l) :
    Calls Tryd.prog 14 #[.slice A l.length cp] w (Printed w l) := by
  obtain ⟨K, hK⟩ := check_tells l hs.sz
  exact (print_walk K l A cp (checkOf l) w hG hr hc hs.2 (hK K (Nat.le_refl _)) hs.ok).mono fun e w' h => h
theorem refprint_tells {l : List S39} {w : World} {A : Option Addr} {cp : Nat} (hG : Aside0 (Glob w)) (hr : Kd.C k39 w A l.length l) (hc : l.length ≤ cp) (hs : Small l) :
    Calls Tryd.prog 15 #[.slice A l.length cp] w (Printed w l) := by
  obtain ⟨K, hK⟩ := refcheck_tells l hs.sz
  exact (Rq.refprint_walk K l A cp (checkOf l) w hG hr hc hs.2 (hK K (Nat.le_refl _)) hs.ok).mono fun e w' h => h
/-- A text as a string. -/
theorem as_string {w : World} {A : Option Addr} {c : Nat} {t : List UInt8} (hrd : ReadsInt w .u8 A t.length (numsOf t)) : (convert 30 9 (.slice A t.length c)).run Tryd.prog w = .ok (.string ⟨t.toArray⟩) w := by
  have h := string_of_reads (P := Tryd.prog) (src := 30) (dst := 9) (e := 5) (c := c) Tryd.underlying30 Tryd.underlying5 Tryd.underlying9 hrd
  exact h.trans (by rw [Aw.str_nums])

end Go.Proofs.YtldlkoncndlbhaaDoor.Pure

/- ShowPrints, the walk: of any tree of a bounded cost the law answers true. -/
namespace Go.Proofs.YtldlkoncndlbhaaDoor.Pure
open Go.RowKit Go.Proofs.YtldlkoncndlbhaaDoor.PSh Go.Proofs.YtldlkoncndlbhaaDoor.Cp Go.Proofs.YtldlkoncndlbhaaDoor.Aw Go.Proofs.YtldlkoncndlbhaaDoor.Wr Go.Proofs.YtldlkoncndlbhaaDoorW.PrintWords Go.Proofs.YtldlkoncndlbhaaDoorW.PrintLast Go.Proofs.YtldlkoncndlbhaaDoorW.PrintMore
set_option linter.unusedSimpArgs false
set_option linter.unusedVariables false

set_option maxHeartbeats 4000000 in
set_option maxRecDepth 100000 in
theorem showPrints_walk (A : Option Addr) (c : Nat) (l : List S39) (w : World) (hG : Aside0 (Glob w)) (hr : Kd.C k39 w A l.length l) (hc : l.length ≤ c) (hcost : (l.map Rd.cost).sum ≤ 1048576) :
    Calls Tryd.prog 4 #[.slice A l.length c] w fun e w' => e = .returned (.bool true) ∧ Below w.heap.size w w' := by
  have hs : Small l := Small.of hcost
  have hsl := Aside0.mk hs.slots
  by_cases hbig : 500 < l.length
  · have hb1 : ((l.length : Int) > 500) = True := eq_true (by omega)
    have hb2 : decide ((500 : Int) < (l.length : Int)) = true := decide_eq_true (by omega)
    have hb3 : decide (500 < l.length) = true := decide_eq_true hbig
    go_enter Tryd.func4, Tryd.ntmps4
    go_wp2_with (go_at_call 10; refine (awake_walk w hG).mono ?_; rintro e w2 ⟨rfl, hb⟩)
    go_ret
    exact ⟨rfl, hb⟩
  · have hb2 : decide ((500 : Int) < (l.length : Int)) = false := decide_eq_false (by omega)
    have hb3 : decide (500 < l.length) = false := decide_eq_false hbig
    go_enter Tryd.func4, Tryd.ntmps4
    go_wp2_with (first
      | (go_at_call 10; refine (awake_walk w hG).mono ?_; rintro e w2 ⟨rfl, hb⟩; have hr2 := Kd.C_below hr hb; have hG2 := hG.out.below hb)
      | (go_at_call 12; refine (copied_walk l A c w2 hr2 hc (by omega) hsl.out).mono ?_; rintro e w3 ⟨v, rfl, hN, hb3⟩; obtain ⟨A3, c3, rfl, hc3, hr3⟩ := Kd.N_reads hN; have hB3 := hb.trans (hb3.mono hb.size); have hG3 := hG.out.below hB3)
      | (go_at_call 14; refine (print_tells ⟨hG3⟩ hr3 hc3 hs).mono ?_; rintro e w4 ⟨A4, c4, t, rfl, hrd, hb4, ht⟩; have hB4 := hB3.trans (hb4.mono hB3.size); have hr4 := Kd.C_below hr hB4; have hG4 := hG.out.below hB4; have hT := Aside0.mk ht; clear ht)
      | (go_at_call 15; refine (refprint_tells ⟨hG4⟩ hr4 hc hs).mono ?_; rintro e w5 ⟨A5, c5, t5, rfl, hrd5, hb5, ht5⟩; obtain rfl : t = t5 := hT.out.trans ht5.symm; clear ht5; have k1 := as_string (A := A4) (c := c4) (hrd.below hb5); have k2 := as_string (A := A5) (c := c5) hrd5))
    go_ret
    exact ⟨rfl, hB4.trans (hb5.mono hB4.size)⟩

end Go.Proofs.YtldlkoncndlbhaaDoor.Pure

/- What the rows' condition on package-level variables gives: 'Glob'. -/
namespace Go.Proofs.YtldlkoncndlbhaaDoor.Laid
open Go.ChangeShapes Go.WideShapes Go.ChangeAt Go.RowKit Go.Proofs.YtldlkoncndlbhaaDoorW.PrintWords

/-- A table of integers that reads as listed. -/
theorem tab_is {P : Program} {W : World} {name : String} {k : IntKind} {zs : List Int} {g : Nat} {t e : TypeId} {n : Nat}
    (hg : P.globalNamed name = some g) (hty : (P.globals[g]?).map (·.type) = some t) (ht : P.underlying t = some (.array n e)) (he : P.underlying e = some (.int k)) (hce : P.cellsOf e = 1) (hct : P.cellsOf t = n)
    (h : Lib.VarReads P W name (Lib.tabData k zs)) : Lib.TabIs P W name k zs := by
  obtain ⟨g', t', cs, fuel, p, hg', ht', hvar, hd⟩ := h
  obtain rfl := Option.some.inj (hg.symm.trans hg')
  obtain rfl := Option.some.inj (hty.symm.trans ht')
  unfold Lib.TabIs
  rw [hvar, ← Lib.cells_of_tab ht he hce hct hd]

def laid : List (String × DataW Unit) := [("math/bits.deBruijn32tab", Rows.laid_math_bits_deBruijn32tab), ("math/bits.deBruijn64tab", Rows.laid_math_bits_deBruijn64tab), ("internal/strconv.uint64pow10", Rows.laid_internal_strconv_uint64pow10), ("unicode/utf8.acceptRanges", Rows.laid_unicode_utf8_acceptRanges), ("unicode/utf8.first", Rows.laid_unicode_utf8_first)]
theorem dataPow : Rows.laid_internal_strconv_uint64pow10 (H := Unit) = Lib.tabData .u64 Lib.pow10Tab := by kernel_rfl
theorem dataAcc : Rows.laid_unicode_utf8_acceptRanges (H := Unit) = Lib.acceptData := by kernel_rfl
theorem dataFirst : Rows.laid_unicode_utf8_first = Lib.firstData := by kernel_rfl
theorem extra : U8Extra Tryd.prog Tryd.lays196_ren := ⟨by kernel_rfl, by kernel_rfl, by kernel_rfl, by kernel_rfl, by kernel_rfl, by kernel_rfl, by kernel_rfl⟩

theorem glob_of_laid {W : World} (h : laidMetH Tryd.prog laid W) : Glob W := by
  rw [MakeChecks.laidMetH_plain _ _ _ (by kernel_rfl)] at h
  have hp := Lib.laidMet.reads h (n := "internal/strconv.uint64pow10") (d := Rows.laid_internal_strconv_uint64pow10) (by simp [laid])
  rw [dataPow] at hp
  have ha := Lib.laidMet.reads h (n := "unicode/utf8.acceptRanges") (d := Rows.laid_unicode_utf8_acceptRanges) (by simp [laid])
  rw [dataAcc] at ha
  have hf := Lib.laidMet.reads h (n := "unicode/utf8.first") (d := Rows.laid_unicode_utf8_first) (by simp [laid])
  rw [dataFirst] at hf
  exact ⟨tab_is (P := Tryd.prog) (g := 2) (t := 115) (e := 98) (n := 20) (by kernel_rfl) (by kernel_rfl) Tryd.underlying115 Tryd.underlying98 (by kernel_rfl) (by kernel_rfl) hp,
    utf8Tabs_of_readsT (U8Types.of196 Tryd.lays196) extra hf ha⟩

def firstCells : Array Value := (Go.Pinned.utf8FirstZ.map fun (n : Nat) => Value.int .u8 (n : Int)).toArray
/-- The heap that the door's own run leaves, utf8's table in its place (its text is pinned, not in the dump). -/
noncomputable def door (os : Os) : World := { World.doorLaid Tryd.prog 72 os with heap := (World.doorLaid Tryd.prog 72 os).heap.modify 0 fun o => match o with | .cells _ t fz => .cells firstCells t fz | o => o }
theorem door_met (os : Os) (args : Array Value) : laidMetH Tryd.prog laid ((door os).forCall (fun _ _ => 0) ⟨#[], args, []⟩).memory :=
  laidMetH_of_parts3 (fuel := 8) (laidMet_of_run' 8 (by kernel_rfl) (by kernel_rfl)) (by kernel_rfl) (by kernel_rfl)

theorem all_of_laid {W : World} (h : laidMetH Tryd.prog laid W) : Aside0 (Glob W) := ⟨glob_of_laid h⟩

end Go.Proofs.YtldlkoncndlbhaaDoor.Laid

/- ShowPrints, in its second form: for every input of bulk at most 1048576 that can be read as data, the package-level tables lying as the program's text lays them (the card ties them to it), the law answers true and leaves its arguments as they were. -/
namespace Go.Proofs.YtldlkoncndlbhaaDoor.showPrintsUpto
open Go.ChangeShapes Go.WideShapes Go.ChangeAt Go.RowKit Go.Proofs.YtldlkoncndlbhaaDoor.PSh
set_option linter.unusedVariables false
theorem own : ownKnob Tryd.prog.godebug = none := by kernel_rfl
theorem laidOut : laidOutB Tryd.prog = true := by kernel_rfl
theorem reads (os : Os) {H : Type} (enc : TypeId × Value → H) : ∃ places, DataW.whole enc Tryd.prog ((Laid.door os).forCall (fun _ _ => 0) ⟨#[], #[.slice none 0 0], []⟩).memory Tryd.f4.params.toList Rows.showPrintsSpec.vars false (#[.slice none 0 0] : Array Value).toList 8 = some ([.nil], [], places) :=
  ⟨[], by kernel_rfl⟩
theorem met (os : Os) : laidMetH Tryd.prog Rows.showPrintsUptoRow.laid ((Laid.door os).forCall (fun _ _ => 0) ⟨#[], #[.slice none 0 0], []⟩).memory := laidMetH_of_parts3 (fuel := 8) (laidMet_of_run' 8 (by kernel_rfl) (by kernel_rfl)) (by kernel_rfl) (by kernel_rfl)
set_option maxRecDepth 100000 in
theorem lifted (os : Os) (started : os.Started) (H : Type) (enc : TypeId × Value → H) (F : Stop.Interp) :
    ReturnsInHanded {} Tryd.checked os 4 .any ((Rows.OpenSpec.upto Rows.showPrintsSpec).preRow enc Tryd.prog Tryd.f4 Rows.showPrintsUptoRow.domain false Rows.showPrintsUptoRow.laid) (((Rows.OpenSpec.upto Rows.showPrintsSpec).at F).post enc Tryd.prog Tryd.f4 false true false false) := by
  obtain ⟨places, hx⟩ := reads os enc
  refine returnsInHanded_of_row (C := Tryd.checked) (s := Rows.OpenSpec.upto Rows.showPrintsSpec) own started (by kernel_rfl) Tryd.func4
    (witness_row_atRef (enc := enc) (C := Tryd.checked) false (Laid.door os) #[.slice none 0 0] rfl (by kernel_rfl) (by kernel_rfl) (by kernel_rfl)
      (OpenSpec.preRow_of_cond 8 hx (by kernel_rfl) (fun k hk => by cases hk; kernel_rfl) (by kernel_rfl) (met os))) ?_
  intro W base args ds gs before hval0 hW _ hcond _ hL _ _
  have hbulk : Rows.uptoBulkAll (ds ++ gs) ≤ 1048576 := Bulk.small (hcond _ rfl)
  have hval : ∀ (j : Nat) t v, Tryd.f4.params[j]? = some t → args[j]? = some v → Value.okWide Tryd.prog W .any base t v := hval0
  have hW' := hW
  obtain ⟨p, q, hA0, hV, rfl, hfz, hnd⟩ := hW
  have hA : DataW.TrodAll enc Tryd.prog W 0 (fun _ => true) true Tryd.f4.params.toList args.toList ds p := hA0
  rw [Tryd.params4] at hA hval
  obtain ⟨v0, vs0, d0, ds0, p0, q0, hargs, rfl, rfl, h0, r0⟩ := trodAll_cons hA
  obtain ⟨rfl, rfl, rfl⟩ := trodAll_nil r0
  obtain rfl : args = #[v0] := by cases args; simp_all
  obtain ⟨rfl, rfl⟩ := trodVars_none hV
  obtain ⟨a0, len0, cap0, rfl⟩ := okWide_slice Tryd.underlying23 (hval 0 23 v0 rfl rfl)
  have k0 := h0
  have lt0 : ∀ x ∈ p0, x.block < W.heap.size := by obtain ⟨m, hm⟩ := k0; exact DataW.trod_lt m _ _ _ hm
  obtain ⟨fuel0, hf0⟩ := h0
  obtain ⟨A0, c0, l0, hcs0, hlc0, hC0, hb0⟩ := Rd.tree_ofB hf0
  simp [Value.cells] at hcs0
  obtain ⟨rfl, rfl, rfl⟩ := hcs0
  have hs0 : (l0.map Rd.cost).sum ≤ 1048576 := Nat.le_trans hb0 (Nat.le_trans (Bulk.part_le (by simp)) hbulk)
  clear hA0 hval0 hcond
  refine (Pure.showPrints_walk _ _ l0 W (Laid.all_of_laid hL) hC0 hlc0 hs0).mono fun e W' ⟨he, bel⟩ => ?_
  subst he
  exact ⟨_, rfl, _, _, _, [], _, [], hW', trodAll_mk1 (shut_bool Tryd.underlying4 _), (trodAll_cons_mk (Below.trod laidOut (by kernel_rfl) (of_decide_eq_true (by kernel_rfl)) k0 bel lt0) trodAll_mk0), rfl, bel.frame _, fun h => by cases h⟩
theorem over : Rows.ShowPrintsUptoSaid :=
  OpenClaim.holds_of_cond 4 Tryd.f4 rfl rfl rfl rfl rfl rfl rfl ⟨rfl, rfl, rfl, rfl, rfl⟩ rfl rfl rfl rfl rfl (by kernel_rfl) Tryd.func4 (by kernel_rfl)
    (of_decide_eq_true (by kernel_rfl)) (by unfold Func.isWrapper; first | (rw [if_pos (by decide +kernel)]; kernel_rfl) | (rw [if_neg (by decide +kernel)]; exact ⟨rfl, rfl⟩))
    (fun os started H enc _ F => by rw [OpenClaim.pre_eq_preRow]; exact lifted os started H enc F)
theorem card : Rows.ShowPrintsUptoCardSaid :=
  Claim7.holds_tied_plain_at .later [] [.data, .data, .data, .data, .pinned] true (true, "f7f64af52245c68ce9e21da70b951672bd4e299224670fb1b5d98f932e9bff4c") true
    over (fun _ h => by cases h) (by kernel_rfl) (fun _ h => by cases h) showPrintsUpto_row_tie rfl ⟨rfl, rfl⟩ (by kernel_rfl) rfl
    (fun f fn hf hfn => by
      obtain rfl : f = 4 := Option.some.inj ((show Tryd.prog.funcNamed "haulier/haulierlaw03.ShowPrints" = some 4 by kernel_rfl).symm.trans hf) |>.symm
      obtain rfl : fn = Tryd.f4 := (Option.some.inj (Tryd.func4.symm.trans hfn)).symm
      exact ⟨by kernel_rfl, fun j t ht => by
        rw [Tryd.params4] at ht
        have hm : t ∈ [23] := by simpa using Array.mem_of_getElem? ht
        have hall : ([23].all fun u => !Tryd.prog.wantsStandIn u) = true := by kernel_rfl
        exact (show Tryd.prog.wantsStandIn t = false by simpa using List.all_eq_true.1 hall t hm)⟩)
    (by kernel_rfl)
end Go.Proofs.YtldlkoncndlbhaaDoor.showPrintsUpto
namespace Go.Proofs.YtldlkoncndlbhaaDoor
/-- The card, under a short name, for the claim. -/
theorem showPrints_upto : Rows.ShowPrintsUptoCardSaid := showPrintsUpto.card
end Go.Proofs.YtldlkoncndlbhaaDoor
