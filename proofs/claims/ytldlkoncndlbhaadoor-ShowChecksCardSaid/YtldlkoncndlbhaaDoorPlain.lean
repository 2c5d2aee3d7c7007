/- The program's 'plain', walked by hand: is a value such as there may be? -/
import Derived.Test.YtldlkoncndlbhaaDoorShelf
import Derived.Test.YtldlkoncndlbhaaDoorUtfLib
import Derived.Test.YtldlkoncndlbhaaDoorMapBool
import Derived.Maps.AppendAt
set_option linter.unusedVariables false
set_option linter.unusedSimpArgs false
namespace Go.Proofs.YtldlkoncndlbhaaDoor.Pl
open Go.RowKit Go.Proofs.YtldlkoncndlbhaaDoor.Utf Go.Proofs.YtldlkoncndlbhaaDoor.Mb Go.Maps Go.Proofs.YtldlkoncndlbhaaDoorW.PrintWords Go.Proofs.YtldlkoncndlbhaaDoorW.PrintLast Go.Proofs.YtldlkoncndlbhaaDoorW.PrintMore

/-- Is each name UTF-8, and none there twice? -/
def namesGo : List ByteArray → List ByteArray → Bool
  | _, [] => true
  | done, n :: r => if hasName n done = true then false else if utf n.data.toList = true then namesGo (done ++ [n]) r else false
/-- What 'plain' answers. -/
def plainB (a0 : Int) (a1 : Bool) (a2 : Int) (a3 : ByteArray) (l4 : List ByteArray) (l5 : List Int) : Bool :=
  if namesGo [] l4 = true then
    if a0 = 1 then l4.length == 0 && l5.length == 0 && !a1 && a2 == 0 && a3.toList.isEmpty
    else if a0 = 2 then l4.length == 0 && l5.length == 0 && a2 == 0 && a3.toList.isEmpty
    else if a0 = 3 then l4.length == 0 && l5.length == 0 && !a1 && a3.toList.isEmpty && decide (-4611686018427387903 ≤ a2 ∧ a2 ≤ 4611686018427387903)
    else if a0 = 4 then l4.length == 0 && l5.length == 0 && !a1 && a2 == 0 && utf a3.data.toList
    else if a0 = 5 then l4.length == 0 && !a1 && a2 == 0 && a3.toList.isEmpty
    else if a0 = 6 then l4.length == l5.length && !a1 && a2 == 0 && a3.toList.isEmpty
    else false
  else false

theorem plainB_of (a0 : Int) (a1 : Bool) (a2 : Int) (a3 : ByteArray) (l4 : List ByteArray) (l5 : List Int) (h : namesGo [] l4 = true) : plainB a0 a1 a2 a3 l4 l5 =
    (if a0 = 1 then l4.length == 0 && l5.length == 0 && !a1 && a2 == 0 && a3.toList.isEmpty
    else if a0 = 2 then l4.length == 0 && l5.length == 0 && a2 == 0 && a3.toList.isEmpty
    else if a0 = 3 then l4.length == 0 && l5.length == 0 && !a1 && a3.toList.isEmpty && decide (-4611686018427387903 ≤ a2 ∧ a2 ≤ 4611686018427387903)
    else if a0 = 4 then l4.length == 0 && l5.length == 0 && !a1 && a2 == 0 && utf a3.data.toList
    else if a0 = 5 then l4.length == 0 && !a1 && a2 == 0 && a3.toList.isEmpty
    else if a0 = 6 then l4.length == l5.length && !a1 && a2 == 0 && a3.toList.isEmpty
    else false) := if_pos h

/-- num.Fits. -/
theorem fits_walk (n : Int) (w : World) : Calls Tryd.prog 38 #[.int .i64 n] w fun e w' => e = .returned (.bool (decide (-4611686018427387903 ≤ n ∧ n ≤ 4611686018427387903))) ∧ w' = w := by
  go_enter Tryd.func38, Tryd.ntmps38
  go_wp2
  all_goals go_ret
  · rename_i h
    refine ⟨?_, rfl⟩
    show Ending.returned (Value.bool _) = _
    by_cases h2 : n ≤ 4611686018427387903
    · rw [decide_eq_true h2, decide_eq_true (show -4611686018427387903 ≤ n ∧ n ≤ 4611686018427387903 from ⟨h, h2⟩)]
    · rw [decide_eq_false h2, decide_eq_false (show ¬ (-4611686018427387903 ≤ n ∧ n ≤ 4611686018427387903) from fun e => h2 e.2)]
  · rename_i h
    refine ⟨?_, rfl⟩
    show Ending.returned (Value.bool _) = _
    rw [decide_eq_false (show ¬ -4611686018427387903 ≤ n by omega)]
    rfl

theorem zero4 (w : World) : (zeroValue 4).run Tryd.prog w = .ok (.bool false) w := by kernel_rfl
theorem ownsMap_below {B : Nat} {H : Type} {P : Program} {k : TypeId} {R : Value → Option (DataW H × List MemPlace)} {b n : Nat} {D : DataW H} {w w' : World} (h : w.ownsMap P k R b n D) (hb : Below B w w') (hB : b < B) : w'.ownsMap P k R b n D := by
  obtain ⟨es, clock, hh, F, hs, hD⟩ := h
  exact ⟨es, clock, (hb.block b hB).trans hh, F, hs, hD⟩
theorem namesGo_step (l : List ByteArray) (k : Nat) (s : ByteArray) (h : l[k]? = some s) : namesGo (l.take k) (l.drop k) = if hasName s (l.take k) = true then false else if utf s.data.toList = true then namesGo (l.take (k + 1)) (l.drop (k + 1)) else false := by
  have hk : k < l.length := (List.getElem?_eq_some_iff.1 h).1
  have hs : l[k] = s := (List.getElem?_eq_some_iff.1 h).2
  rw [List.drop_eq_getElem_cons hk, hs, namesGo, List.take_succ_eq_append_getElem hk, hs]
theorem take_snoc (l : List ByteArray) (k : Nat) (s : ByteArray) (h : l[k]? = some s) : l.take (k + 1) = l.take k ++ [s] := by
  have hk : k < l.length := (List.getElem?_eq_some_iff.1 h).1
  have hs : l[k] = s := (List.getElem?_eq_some_iff.1 h).2
  rw [List.take_succ_eq_append_getElem hk, hs]
theorem string_at {w : World} {A : Option Addr} {l : List ByteArray} (h : Kd.string.C w A l.length l) (k : Nat) (hk : k < l.length) : ∃ ad s, A = some ad ∧ l[k]? = some s ∧ w.cell? (ad.add k) = some (.string s) := by
  obtain ⟨ad, e, hc⟩ := Kd.at_string h (k : Int) (by omega) (by omega)
  have hr : rdOf ByteArray.empty l (k : Int) = l[k] := by unfold rdOf; simp [List.getD, hk]
  refine ⟨ad, l[k], e, List.getElem?_eq_getElem hk, ?_⟩
  rw [← hr]
  simpa using hc

set_option maxHeartbeats 4000000 in
set_option maxRecDepth 100000 in
theorem plain_walk (a0 : Int) (a1 : Bool) (a2 : Int) (a3 : ByteArray) (A4 : Option Addr) (c4 : Nat) (l4 : List ByteArray) (A5 : Option Addr) (c5 : Nat) (l5 : List Int) (w : World)
    (hr4 : Kd.string.C w A4 l4.length l4) (hc4 : l4.length ≤ c4) (hs4 : ∀ s ∈ l4, s.size ≤ 140737488355328) (hs3 : a3.size ≤ 140737488355328) (hl4 : l4.length ≤ 140737488355328) (hT : Lib.Utf8Tabs 0 1 w) :
    Calls Tryd.prog 22 #[.agg #[.int .i64 a0, .bool a1, .int .i64 a2, .string a3, .slice A4 l4.length c4, .slice A5 l5.length c5]] w fun e w' => e = .returned (.bool (plainB a0 a1 a2 a3 l4 l5)) ∧ Below w.heap.size w w' := by
  have hmm := @run_makeMap Tryd.prog
  go_enter Tryd.func22, Tryd.ntmps22
  go_wp2
  have hbox : (w.alloc (Obj.cells #[.int .i64 a0, .bool a1, .int .i64 a2, .string a3, .slice A4 l4.length c4, .slice A5 l5.length c5] 39)).heap[w.heap.size]? = some (Obj.cells #[.int .i64 a0, .bool a1, .int .i64 a2, .string a3, .slice A4 l4.length c4, .slice A5 l5.length c5] 39) := Array.getElem?_push_size
  have hw1 := below_alloc (Below.refl w.heap.size w) (Obj.cells #[.int .i64 a0, .bool a1, .int .i64 a2, .string a3, .slice A4 l4.length c4, .slice A5 l5.length c5] 39)
  have hsz : (w.alloc (Obj.cells #[.int .i64 a0, .bool a1, .int .i64 a2, .string a3, .slice A4 l4.length c4, .slice A5 l5.length c5] 39)).heap.size = w.heap.size + 1 := Array.size_push _
  generalize hW1 : w.alloc (Obj.cells #[.int .i64 a0, .bool a1, .int .i64 a2, .string a3, .slice A4 l4.length c4, .slice A5 l5.length c5] 39) = w1 at *
  replace hr4 := Kd.C_below hr4 hw1
  replace hT := Utf8Tabs_below hT hw1
  go_loopw [11] (fun i wr => ∃ k : Nat, k ≤ l4.length ∧ i = .int .i64 k ∧ wr.ownsMap Tryd.prog 9 (plainElem Tryd.prog 4) (w.heap.size + 1) k (seenSet (l4.take k)) ∧ Below (w.heap.size + 1) w1 wr ∧ w.heap.size + 1 < wr.heap.size ∧ Aside0 (namesGo (l4.take k) (l4.drop k) = namesGo [] l4))
    (fun i _ => l4.length - (intOf i).toNat)
  case atStart => exact ⟨0, Nat.zero_le _, rfl, by rw [List.take_zero, seenSet_nil, ← hsz]; exact World.ownsMap_made _ _ _ _, by rw [← hsz]; exact below_alloc (Below.refl _ _) _, by rw [← hsz]; show _ < (w1.heap.push _).size; rw [Array.size_push]; omega, ⟨by rw [List.take_zero, List.drop_zero]⟩⟩
  case round =>
    obtain ⟨k, hk, rfl, hown, hbw, hsw, hgo⟩ := hrel
    by_cases hlt : k < l4.length
    · obtain ⟨ad, s, rfl, hs, hc⟩ := string_at hr4 k hlt
      have hcx : wr.cell? (ad.add k) = some (.string s) := (hbw.cell (by have := World.block_lt_of_cell? w1 _ hc; omega)).trans hc
      have hss : s.size ≤ 140737488355328 := hs4 s (List.mem_of_getElem? hs)
      have hgs := namesGo_step l4 k s hs
      have hlt1 : ((k : Int) < (l4.length : Int)) = True := eq_true (by omega)
      by_cases hin : hasName s (l4.take k) = true
      · rw [if_pos hin] at hgs
        go_wp2_with (first
          | (at_lookup; refine wpList_lookup_seen _ rfl _ _ 72 rfl 9 4 Tryd.underlying9 Tryd.underlying72 Tryd.underlying4 (zero4 _) (w.heap.size + 1) k _ rfl hown s rfl (by unfold maxLen; omega) ?_)
          | go_in)
        go_ret
        exact ⟨by rw [plainB, ← hgo.out, hgs]; rfl, hw1.trans (hbw.mono (by omega))⟩
      · rw [if_neg hin] at hgs
        have hin := Bool.eq_false_iff.2 hin
        have hT2 := Utf8Tabs_below hT (show Below w1.heap.size w1 wr by rw [hsz]; exact hbw)
        have hvu := valid_utf s.data.toList
        by_cases hu : utf s.data.toList = true
        · rw [if_pos hu] at hgs
          rw [hu] at hvu
          go_wp2_with (first
            | (at_lookup; refine wpList_lookup_seen _ rfl _ _ 72 rfl 9 4 Tryd.underlying9 Tryd.underlying72 Tryd.underlying4 (zero4 _) (w.heap.size + 1) k _ rfl hown s rfl (by unfold maxLen; omega) ?_)
            | (go_at_call 37; refine (Tryd.utf8_ValidString s wr (by omega) hT2).mono ?_; rintro e w2 ⟨rfl, hb2⟩)
            | (at_mapUpdate; refine wpList_mapUpdate_own _ rfl _ _ _ 72 rfl 9 4 (string_keyed Tryd.underlying9) Tryd.underlying72 (plainElem Tryd.prog 4) (w.heap.size + 1) k _ rfl (ownsMap_below hown hb2 hsw) (by unfold maxLen; omega) _ _ _ rfl rfl (WideMaps.keyOf_string_mk Tryd.underlying9 (show s.size ≤ maxLen by unfold maxLen; omega)) _ [] (plainElem_bool Tryd.underlying4 true) ?_; intro w3 hown3 hgrow3)
            | go_in)
          go_roundw
          case rel =>
            refine ⟨k + 1, by omega, by go_num, ?_, ?_, ?_, ⟨?_⟩⟩
            · rw [take_snoc l4 k s hs, seenSet_snoc]
              exact hown3
            · exact (hbw.trans (hb2.mono (by omega))).grown hgrow3 (by have := hb2.size; omega) (fun j e => by cases e; exact Nat.le_refl _)
            · have := hgrow3.size
              have := hb2.size
              omega
            · rw [← hgs]
              exact hgo.out
          case measure => simp [intOf]; omega
        · rw [if_neg hu] at hgs
          rw [Bool.eq_false_iff.2 hu] at hvu
          go_wp2_with (first
            | (at_lookup; refine wpList_lookup_seen _ rfl _ _ 72 rfl 9 4 Tryd.underlying9 Tryd.underlying72 Tryd.underlying4 (zero4 _) (w.heap.size + 1) k _ rfl hown s rfl (by unfold maxLen; omega) ?_)
            | (go_at_call 37; refine (Tryd.utf8_ValidString s wr (by omega) hT2).mono ?_; rintro e w2 ⟨rfl, hb2⟩)
            | go_in)
          go_ret
          exact ⟨by rw [plainB, ← hgo.out, hgs]; rfl, hw1.trans ((hbw.trans (hb2.mono (by omega))).mono (by omega))⟩
    · obtain rfl : k = l4.length := by omega
      have hnm : namesGo [] l4 = true := by rw [← hgo.out, List.drop_length, namesGo]
      have hcell : ∀ j v, (#[.int .i64 a0, .bool a1, .int .i64 a2, .string a3, .slice A4 l4.length c4, .slice A5 l5.length c5] : Array Value)[j]? = some v → wr.cell? ⟨w.heap.size, j, none⟩ = some v := fun j v h => (hbw.cell (Nat.lt_succ_self _)).trans (by rw [World.cell?, hbox]; exact h)
      have hc0 := hcell 0 _ rfl
      have hc1 := hcell 1 _ rfl
      have hc2 := hcell 2 _ rfl
      have hc3 := hcell 3 _ rfl
      have hc4' := hcell 4 _ rfl
      have hc5 := hcell 5 _ rfl
      have hT2 := Utf8Tabs_below hT (show Below w1.heap.size w1 wr by rw [hsz]; exact hbw)
      have hvu := valid_utf a3.data.toList
      have hpl := plainB_of a0 a1 a2 a3 l4 l5 hnm
      clear hcell hbox hown hgo
      by_cases k1 : a0 = 1
      · rw [if_pos k1] at hpl
        subst k1
        go_wp2
        all_goals go_ret
        all_goals
          refine ⟨?_, hw1.trans (by first | exact hbw.mono (by omega) | exact (hbw.trans (hb2.mono (by omega))).mono (by omega))⟩
          show Ending.returned (Value.bool _) = Ending.returned (Value.bool _)
          rw [hpl] <;> first | done | (simp; done) | (simp [*]; done) | (simp; intros; omega) | (simp_all; done) | (simp_all; intros; omega)
      by_cases k2 : a0 = 2
      · rw [if_neg k1, if_pos k2] at hpl
        subst k2
        go_wp2
        all_goals go_ret
        all_goals
          refine ⟨?_, hw1.trans (by first | exact hbw.mono (by omega) | exact (hbw.trans (hb2.mono (by omega))).mono (by omega))⟩
          show Ending.returned (Value.bool _) = Ending.returned (Value.bool _)
          rw [hpl] <;> first | done | (simp; done) | (simp [*]; done) | (simp; intros; omega) | (simp_all; done) | (simp_all; intros; omega)
      by_cases k3 : a0 = 3
      · rw [if_neg k1, if_neg k2, if_pos k3] at hpl
        subst k3
        go_wp2_with (first | (go_at_call 38; refine (fits_walk a2 wr).mono ?_; rintro e w2 ⟨rfl, rfl⟩) | go_in)
        all_goals go_ret
        all_goals
          refine ⟨?_, hw1.trans (by first | exact hbw.mono (by omega) | exact (hbw.trans (hb2.mono (by omega))).mono (by omega))⟩
          show Ending.returned (Value.bool _) = Ending.returned (Value.bool _)
          rw [hpl] <;> first | done | (simp; done) | (simp [*]; done) | (simp; intros; omega) | (simp_all; done) | (simp_all; intros; omega)
      by_cases k4 : a0 = 4
      · rw [if_neg k1, if_neg k2, if_neg k3, if_pos k4] at hpl
        subst k4
        go_wp2_with (first | (go_at_call 37; refine (Tryd.utf8_ValidString a3 wr (by omega) hT2).mono ?_; rintro e w2 ⟨rfl, hb2⟩; rw [hvu]) | go_in)
        all_goals go_ret
        all_goals
          refine ⟨?_, hw1.trans (by first | exact hbw.mono (by omega) | exact (hbw.trans (hb2.mono (by omega))).mono (by omega))⟩
          show Ending.returned (Value.bool _) = Ending.returned (Value.bool _)
          rw [hpl] <;> first | done | (simp; done) | (simp [*]; done) | (simp; intros; omega) | (simp_all; done) | (simp_all; intros; omega)
      by_cases k5 : a0 = 5
      · rw [if_neg k1, if_neg k2, if_neg k3, if_neg k4, if_pos k5] at hpl
        subst k5
        go_wp2
        all_goals go_ret
        all_goals
          refine ⟨?_, hw1.trans (by first | exact hbw.mono (by omega) | exact (hbw.trans (hb2.mono (by omega))).mono (by omega))⟩
          show Ending.returned (Value.bool _) = Ending.returned (Value.bool _)
          rw [hpl] <;> first | done | (simp; done) | (simp [*]; done) | (simp; intros; omega) | (simp_all; done) | (simp_all; intros; omega)
      by_cases k6 : a0 = 6
      · rw [if_neg k1, if_neg k2, if_neg k3, if_neg k4, if_neg k5, if_pos k6] at hpl
        subst k6
        go_wp2
        all_goals go_ret
        all_goals
          refine ⟨?_, hw1.trans (by first | exact hbw.mono (by omega) | exact (hbw.trans (hb2.mono (by omega))).mono (by omega))⟩
          show Ending.returned (Value.bool _) = Ending.returned (Value.bool _)
          rw [hpl] <;> first | done | (simp; done) | (simp [*]; done) | (simp; intros; omega) | (simp_all; done) | (simp_all; intros; omega)
      rw [if_neg k1, if_neg k2, if_neg k3, if_neg k4, if_neg k5, if_neg k6] at hpl
      have m1 : (a0 == 1) = false := beq_eq_false_iff_ne.2 k1
      have m2 : (a0 == 2) = false := beq_eq_false_iff_ne.2 k2
      have m3 : (a0 == 3) = false := beq_eq_false_iff_ne.2 k3
      have m4 : (a0 == 4) = false := beq_eq_false_iff_ne.2 k4
      have m5 : (a0 == 5) = false := beq_eq_false_iff_ne.2 k5
      have m6 : (a0 == 6) = false := beq_eq_false_iff_ne.2 k6
      clear k1 k2 k3 k4 k5 k6
      go_wp2
      all_goals go_ret
      all_goals
        refine ⟨?_, hw1.trans (by first | exact hbw.mono (by omega) | exact (hbw.trans (hb2.mono (by omega))).mono (by omega))⟩
        show Ending.returned (Value.bool _) = Ending.returned (Value.bool _)
        rw [hpl] <;> first | done | (simp; done) | (simp [*]; done) | (simp; intros; omega) | (simp_all; done) | (simp_all; intros; omega)

end Go.Proofs.YtldlkoncndlbhaaDoor.Pl
