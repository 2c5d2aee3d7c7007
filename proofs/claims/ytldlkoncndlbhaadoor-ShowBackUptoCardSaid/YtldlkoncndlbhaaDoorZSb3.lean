/- YtldlkoncndlbhaaDoorZSb3: texts of the seat (Plain, QuotePlain, Txt, Builder, Quote), one behind the other, without what this claim's theorem does not rest on. -/
import Derived.Test.YtldlkoncndlbhaaDoorZSb2
import Derived.Maps.AppendAt
import Derived.Lib.RuneBytes
import Derived.Lib.ItoaNum
import Derived.Shelf.Strings.BuilderRune
import Derived.Lib.OthersKept
import Derived.Lib.TrimUEq
import Derived.Lib.TrimU

set_option linter.unusedVariables false
set_option linter.unusedSimpArgs false
namespace Go.Proofs.YtldlkoncndlbhaaDoor.Pl
open Go.RowKit Go.Proofs.YtldlkoncndlbhaaDoor.Utf Go.Proofs.YtldlkoncndlbhaaDoor.Mb Go.Maps Go.Proofs.YtldlkoncndlbhaaDoorW.PrintWords Go.Proofs.YtldlkoncndlbhaaDoorW.PrintLast Go.Proofs.YtldlkoncndlbhaaDoorW.PrintMore
/-- Is each name UTF-8, and none there twice? -/
def namesGo : List ByteArray → List ByteArray → Bool
  | _, [] => true
  | done, n :: r => if hasName n done = true then false else if utf n.data.toList = true then namesGo (done ++ [n]) r else false
/-- What 'plain' answers. -/
def plainB (a0 : Int) (a1 : Bool) (a2 : Int) (a3 : ByteArray) (l4 : List ByteArray) (l5 : List Int) : Bool :=
  if namesGo [] l4 = true then
    if a0 = 1 then l4.length == 0 && l5.length == 0 && !a1 && a2 == 0 && a3.toList.isEmpty
    else if a0 = 2 then l4.length == 0 && l5.length == 0 && a2 == 0 && a3.toList.isEmpty
    else if a0 = 3 then l4.length == 0 && l5.length == 0 && !a1 && a3.toList.isEmpty && decide (-4611686018427387903 ≤ a2 ∧ a2 ≤ 4611686018427387903)
    else if a0 = 4 then l4.length == 0 && l5.length == 0 && !a1 && a2 == 0 && utf a3.data.toList
    else if a0 = 5 then l4.length == 0 && !a1 && a2 == 0 && a3.toList.isEmpty
    else if a0 = 6 then l4.length == l5.length && !a1 && a2 == 0 && a3.toList.isEmpty
    else false
  else false
theorem plainB_of (a0 : Int) (a1 : Bool) (a2 : Int) (a3 : ByteArray) (l4 : List ByteArray) (l5 : List Int) (h : namesGo [] l4 = true) : plainB a0 a1 a2 a3 l4 l5 =
    (if a0 = 1 then l4.length == 0 && l5.length == 0 && !a1 && a2 == 0 && a3.toList.isEmpty
    else if a0 = 2 then l4.length == 0 && l5.length == 0 && a2 == 0 && a3.toList.isEmpty
    else if a0 = 3 then l4.length == 0 && l5.length == 0 && !a1 && a3.toList.isEmpty && decide (-4611686018427387903 ≤ a2 ∧ a2 ≤ 4611686018427387903)
    else if a0 = 4 then l4.length == 0 && l5.length == 0 && !a1 && a2 == 0 && utf a3.data.toList
    else if a0 = 5 then l4.length == 0 && !a1 && a2 == 0 && a3.toList.isEmpty
    else if a0 = 6 then l4.length == l5.length && !a1 && a2 == 0 && a3.toList.isEmpty
    else false) := if_pos h
/-- num.Fits. -/
theorem fits_walk (n : Int) (w : World) : Calls Tryd.prog 38 #[.int .i64 n] w fun e w' => e = .returned (.bool (decide (-4611686018427387903 ≤ n ∧ n ≤ 4611686018427387903))) ∧ w' = w := by
  go_enter Tryd.func38, Tryd.ntmps38
  go_wp2
  all_goals go_ret
  · rename_i h
    refine ⟨?_, rfl⟩
    show Ending.returned (Value.bool _) = _
    by_cases h2 : n ≤ 4611686018427387903
    · rw [decide_eq_true h2, decide_eq_true (show -4611686018427387903 ≤ n ∧ n ≤ 4611686018427387903 from ⟨h, h2⟩)]
    · rw [decide_eq_false h2, decide_eq_false (show ¬ (-4611686018427387903 ≤ n ∧ n ≤ 4611686018427387903) from fun e => h2 e.2)]
  · rename_i h
    refine ⟨?_, rfl⟩
    show Ending.returned (Value.bool _) = _
    rw [decide_eq_false (show ¬ -4611686018427387903 ≤ n by omega)]
    rfl
theorem zero4 (w : World) : (zeroValue 4).run Tryd.prog w = .ok (.bool false) w := by kernel_rfl
theorem ownsMap_below {B : Nat} {H : Type} {P : Program} {k : TypeId} {R : Value → Option (DataW H × List MemPlace)} {b n : Nat} {D : DataW H} {w w' : World} (h : w.ownsMap P k R b n D) (hb : Below B w w') (hB : b < B) : w'.ownsMap P k R b n D := by
  obtain ⟨es, clock, hh, F, hs, hD⟩ := h
  exact ⟨es, clock, (hb.block b hB).trans hh, F, hs, hD⟩
theorem namesGo_step (l : List ByteArray) (k : Nat) (s : ByteArray) (h : l[k]? = some s) : namesGo (l.take k) (l.drop k) = if hasName s (l.take k) = true then false else if utf s.data.toList = true then namesGo (l.take (k + 1)) (l.drop (k + 1)) else false := by
  have hk : k < l.length := (List.getElem?_eq_some_iff.1 h).1
  have hs : l[k] = s := (List.getElem?_eq_some_iff.1 h).2
  rw [List.drop_eq_getElem_cons hk, hs, namesGo, List.take_succ_eq_append_getElem hk, hs]
theorem take_snoc (l : List ByteArray) (k : Nat) (s : ByteArray) (h : l[k]? = some s) : l.take (k + 1) = l.take k ++ [s] := by
  have hk : k < l.length := (List.getElem?_eq_some_iff.1 h).1
  have hs : l[k] = s := (List.getElem?_eq_some_iff.1 h).2
  rw [List.take_succ_eq_append_getElem hk, hs]
theorem string_at {w : World} {A : Option Addr} {l : List ByteArray} (h : Kd.string.C w A l.length l) (k : Nat) (hk : k < l.length) : ∃ ad s, A = some ad ∧ l[k]? = some s ∧ w.cell? (ad.add k) = some (.string s) := by
  obtain ⟨ad, e, hc⟩ := Kd.at_string h (k : Int) (by omega) (by omega)
  have hr : rdOf ByteArray.empty l (k : Int) = l[k] := by unfold rdOf; simp [List.getD, hk]
  refine ⟨ad, l[k], e, List.getElem?_eq_getElem hk, ?_⟩
  rw [← hr]
  simpa using hc
set_option maxHeartbeats 4000000 in
set_option maxRecDepth 100000 in
theorem plain_walk (a0 : Int) (a1 : Bool) (a2 : Int) (a3 : ByteArray) (A4 : Option Addr) (c4 : Nat) (l4 : List ByteArray) (A5 : Option Addr) (c5 : Nat) (l5 : List Int) (w : World)
    (hr4 : Kd.string.C w A4 l4.length l4) (hc4 : l4.length ≤ c4) (hs4 : ∀ s ∈ l4, s.size ≤ 140737488355328) (hs3 : a3.size ≤ 140737488355328) (hl4 : l4.length ≤ 140737488355328) (hT : Lib.Utf8Tabs 0 1 w) :
    Calls Tryd.prog 22 #[.agg #[.int .i64 a0, .bool a1, .int .i64 a2, .string a3, .slice A4 l4.length c4, .slice A5 l5.length c5]] w fun e w' => e = .returned (.bool (plainB a0 a1 a2 a3 l4 l5)) ∧ Below w.heap.size w w' := by
  have hmm := @run_makeMap Tryd.prog
  go_enter Tryd.func22, Tryd.ntmps22
  go_wp2
  have hbox : (w.alloc (Obj.cells #[.int .i64 a0, .bool a1, .int .i64 a2, .string a3, .slice A4 l4.length c4, .slice A5 l5.length c5] 39)).heap[w.heap.size]? = some (Obj.cells #[.int .i64 a0, .bool a1, .int .i64 a2, .string a3, .slice A4 l4.length c4, .slice A5 l5.length c5] 39) := Array.getElem?_push_size
  have hw1 := below_alloc (Below.refl w.heap.size w) (Obj.cells #[.int .i64 a0, .bool a1, .int .i64 a2, .string a3, .slice A4 l4.length c4, .slice A5 l5.length c5] 39)
  have hsz : (w.alloc (Obj.cells #[.int .i64 a0, .bool a1, .int .i64 a2, .string a3, .slice A4 l4.length c4, .slice A5 l5.length c5] 39)).heap.size = w.heap.size + 1 := Array.size_push _
  generalize hW1 : w.alloc (Obj.cells #[.int .i64 a0, .bool a1, .int .i64 a2, .string a3, .slice A4 l4.length c4, .slice A5 l5.length c5] 39) = w1 at *
  replace hr4 := Kd.C_below hr4 hw1
  replace hT := Utf8Tabs_below hT hw1
  go_loopw [11] (fun i wr => ∃ k : Nat, k ≤ l4.length ∧ i = .int .i64 k ∧ wr.ownsMap Tryd.prog 9 (plainElem Tryd.prog 4) (w.heap.size + 1) k (seenSet (l4.take k)) ∧ Below (w.heap.size + 1) w1 wr ∧ w.heap.size + 1 < wr.heap.size ∧ Aside0 (namesGo (l4.take k) (l4.drop k) = namesGo [] l4))
    (fun i _ => l4.length - (intOf i).toNat)
  case atStart => exact ⟨0, Nat.zero_le _, rfl, by rw [List.take_zero, seenSet_nil, ← hsz]; exact World.ownsMap_made _ _ _ _, by rw [← hsz]; exact below_alloc (Below.refl _ _) _, by rw [← hsz]; show _ < (w1.heap.push _).size; rw [Array.size_push]; omega, ⟨by rw [List.take_zero, List.drop_zero]⟩⟩
  case round =>
    obtain ⟨k, hk, rfl, hown, hbw, hsw, hgo⟩ := hrel
    by_cases hlt : k < l4.length
    · obtain ⟨ad, s, rfl, hs, hc⟩ := string_at hr4 k hlt
      have hcx : wr.cell? (ad.add k) = some (.string s) := (hbw.cell (by have := World.block_lt_of_cell? w1 _ hc; omega)).trans hc
      have hss : s.size ≤ 140737488355328 := hs4 s (List.mem_of_getElem? hs)
      have hgs := namesGo_step l4 k s hs
      have hlt1 : ((k : Int) < (l4.length : Int)) = True := eq_true (by omega)
      by_cases hin : hasName s (l4.take k) = true
      · rw [if_pos hin] at hgs
        go_wp2_with (first
          | (at_lookup; refine wpList_lookup_seen _ rfl _ _ 72 rfl 9 4 Tryd.underlying9 Tryd.underlying72 Tryd.underlying4 (zero4 _) (w.heap.size + 1) k _ rfl hown s rfl (by unfold maxLen; omega) ?_)
          | go_in)
        go_ret
        exact ⟨by rw [plainB, ← hgo.out, hgs]; rfl, hw1.trans (hbw.mono (by omega))⟩
      · rw [if_neg hin] at hgs
        have hin := Bool.eq_false_iff.2 hin
        have hT2 := Utf8Tabs_below hT (show Below w1.heap.size w1 wr by rw [hsz]; exact hbw)
        have hvu := valid_utf s.data.toList
        by_cases hu : utf s.data.toList = true
        · rw [if_pos hu] at hgs
          rw [hu] at hvu
          go_wp2_with (first
            | (at_lookup; refine wpList_lookup_seen _ rfl _ _ 72 rfl 9 4 Tryd.underlying9 Tryd.underlying72 Tryd.underlying4 (zero4 _) (w.heap.size + 1) k _ rfl hown s rfl (by unfold maxLen; omega) ?_)
            | (go_at_call 37; refine (Tryd.utf8_ValidString s wr (by omega) hT2).mono ?_; rintro e w2 ⟨rfl, hb2⟩)
            | (at_mapUpdate; refine wpList_mapUpdate_own _ rfl _ _ _ 72 rfl 9 4 (string_keyed Tryd.underlying9) Tryd.underlying72 (plainElem Tryd.prog 4) (w.heap.size + 1) k _ rfl (ownsMap_below hown hb2 hsw) (by unfold maxLen; omega) _ _ _ rfl rfl (WideMaps.keyOf_string_mk Tryd.underlying9 (show s.size ≤ maxLen by unfold maxLen; omega)) _ [] (plainElem_bool Tryd.underlying4 true) ?_; intro w3 hown3 hgrow3)
            | go_in)
          go_roundw
          case rel =>
            refine ⟨k + 1, by omega, by go_num, ?_, ?_, ?_, ⟨?_⟩⟩
            · rw [take_snoc l4 k s hs, seenSet_snoc]
              exact hown3
            · exact (hbw.trans (hb2.mono (by omega))).grown hgrow3 (by have := hb2.size; omega) (fun j e => by cases e; exact Nat.le_refl _)
            · have := hgrow3.size
              have := hb2.size
              omega
            · rw [← hgs]
              exact hgo.out
          case measure => simp [intOf]; omega
        · rw [if_neg hu] at hgs
          rw [Bool.eq_false_iff.2 hu] at hvu
          go_wp2_with (first
            | (at_lookup; refine wpList_lookup_seen _ rfl _ _ 72 rfl 9 4 Tryd.underlying9 Tryd.underlying72 Tryd.underlying4 (zero4 _) (w.heap.size + 1) k _ rfl hown s rfl (by unfold maxLen; omega) ?_)
            | (go_at_call 37; refine (Tryd.utf8_ValidString s wr (by omega) hT2).mono ?_; rintro e w2 ⟨rfl, hb2⟩)
            | go_in)
          go_ret
          exact ⟨by rw [plainB, ← hgo.out, hgs]; rfl, hw1.trans ((hbw.trans (hb2.mono (by omega))).mono (by omega))⟩
    · obtain rfl : k = l4.length := by omega
      have hnm : namesGo [] l4 = true := by rw [← hgo.out, List.drop_length, namesGo]
      have hcell : ∀ j v, (#[.int .i64 a0, .bool a1, .int .i64 a2, .string a3, .slice A4 l4.length c4, .slice A5 l5.length c5] : Array Value)[j]? = some v → wr.cell? ⟨w.heap.size, j, none⟩ = some v := fun j v h => (hbw.cell (Nat.lt_succ_self _)).trans (by rw [World.cell?, hbox]; exact h)
      have hc0 := hcell 0 _ rfl
      have hc1 := hcell 1 _ rfl
      have hc2 := hcell 2 _ rfl
      have hc3 := hcell 3 _ rfl
      have hc4' := hcell 4 _ rfl
      have hc5 := hcell 5 _ rfl
      have hT2 := Utf8Tabs_below hT (show Below w1.heap.size w1 wr by rw [hsz]; exact hbw)
      have hvu := valid_utf a3.data.toList
      have hpl := plainB_of a0 a1 a2 a3 l4 l5 hnm
      clear hcell hbox hown hgo
      by_cases k1 : a0 = 1
      · rw [if_pos k1] at hpl
        subst k1
        go_wp2
        all_goals go_ret
        all_goals
          refine ⟨?_, hw1.trans (by first | exact hbw.mono (by omega) | exact (hbw.trans (hb2.mono (by omega))).mono (by omega))⟩
          show Ending.returned (Value.bool _) = Ending.returned (Value.bool _)
          rw [hpl] <;> first | done | (simp; done) | (simp [*]; done) | (simp; intros; omega) | (simp_all; done) | (simp_all; intros; omega)
      by_cases k2 : a0 = 2
      · rw [if_neg k1, if_pos k2] at hpl
        subst k2
        go_wp2
        all_goals go_ret
        all_goals
          refine ⟨?_, hw1.trans (by first | exact hbw.mono (by omega) | exact (hbw.trans (hb2.mono (by omega))).mono (by omega))⟩
          show Ending.returned (Value.bool _) = Ending.returned (Value.bool _)
          rw [hpl] <;> first | done | (simp; done) | (simp [*]; done) | (simp; intros; omega) | (simp_all; done) | (simp_all; intros; omega)
      by_cases k3 : a0 = 3
      · rw [if_neg k1, if_neg k2, if_pos k3] at hpl
        subst k3
        go_wp2_with (first | (go_at_call 38; refine (fits_walk a2 wr).mono ?_; rintro e w2 ⟨rfl, rfl⟩) | go_in)
        all_goals go_ret
        all_goals
          refine ⟨?_, hw1.trans (by first | exact hbw.mono (by omega) | exact (hbw.trans (hb2.mono (by omega))).mono (by omega))⟩
          show Ending.returned (Value.bool _) = Ending.returned (Value.bool _)
          rw [hpl] <;> first | done | (simp; done) | (simp [*]; done) | (simp; intros; omega) | (simp_all; done) | (simp_all; intros; omega)
      by_cases k4 : a0 = 4
      · rw [if_neg k1, if_neg k2, if_neg k3, if_pos k4] at hpl
        subst k4
        go_wp2_with (first | (go_at_call 37; refine (Tryd.utf8_ValidString a3 wr (by omega) hT2).mono ?_; rintro e w2 ⟨rfl, hb2⟩; rw [hvu]) | go_in)
        all_goals go_ret
        all_goals
          refine ⟨?_, hw1.trans (by first | exact hbw.mono (by omega) | exact (hbw.trans (hb2.mono (by omega))).mono (by omega))⟩
          show Ending.returned (Value.bool _) = Ending.returned (Value.bool _)
          rw [hpl] <;> first | done | (simp; done) | (simp [*]; done) | (simp; intros; omega) | (simp_all; done) | (simp_all; intros; omega)
      by_cases k5 : a0 = 5
      · rw [if_neg k1, if_neg k2, if_neg k3, if_neg k4, if_pos k5] at hpl
        subst k5
        go_wp2
        all_goals go_ret
        all_goals
          refine ⟨?_, hw1.trans (by first | exact hbw.mono (by omega) | exact (hbw.trans (hb2.mono (by omega))).mono (by omega))⟩
          show Ending.returned (Value.bool _) = Ending.returned (Value.bool _)
          rw [hpl] <;> first | done | (simp; done) | (simp [*]; done) | (simp; intros; omega) | (simp_all; done) | (simp_all; intros; omega)
      by_cases k6 : a0 = 6
      · rw [if_neg k1, if_neg k2, if_neg k3, if_neg k4, if_neg k5, if_pos k6] at hpl
        subst k6
        go_wp2
        all_goals go_ret
        all_goals
          refine ⟨?_, hw1.trans (by first | exact hbw.mono (by omega) | exact (hbw.trans (hb2.mono (by omega))).mono (by omega))⟩
          show Ending.returned (Value.bool _) = Ending.returned (Value.bool _)
          rw [hpl] <;> first | done | (simp; done) | (simp [*]; done) | (simp; intros; omega) | (simp_all; done) | (simp_all; intros; omega)
      rw [if_neg k1, if_neg k2, if_neg k3, if_neg k4, if_neg k5, if_neg k6] at hpl
      have m1 : (a0 == 1) = false := beq_eq_false_iff_ne.2 k1
      have m2 : (a0 == 2) = false := beq_eq_false_iff_ne.2 k2
      have m3 : (a0 == 3) = false := beq_eq_false_iff_ne.2 k3
      have m4 : (a0 == 4) = false := beq_eq_false_iff_ne.2 k4
      have m5 : (a0 == 5) = false := beq_eq_false_iff_ne.2 k5
      have m6 : (a0 == 6) = false := beq_eq_false_iff_ne.2 k6
      clear k1 k2 k3 k4 k5 k6
      go_wp2
      all_goals go_ret
      all_goals
        refine ⟨?_, hw1.trans (by first | exact hbw.mono (by omega) | exact (hbw.trans (hb2.mono (by omega))).mono (by omega))⟩
        show Ending.returned (Value.bool _) = Ending.returned (Value.bool _)
        rw [hpl] <;> first | done | (simp; done) | (simp [*]; done) | (simp; intros; omega) | (simp_all; done) | (simp_all; intros; omega)
end Go.Proofs.YtldlkoncndlbhaaDoor.Pl
namespace Go.Proofs.YtldlkoncndlbhaaDoor.Utf
open Go.Lib
set_option linter.unusedSimpArgs false
/-- A hexadecimal digit. -/
def hexOf (n : Nat) : UInt8 := UInt8.ofNat (if n < 10 then 48 + n else 87 + n)
/-- What is written for the rune that begins here. -/
def piece (l : List UInt8) : List UInt8 :=
  if wid l = 0 then [239, 191, 189]
  else if l.head? = some 34 ∨ l.head? = some 92 then [92, l.headD 0]
  else if (l.headD 0).toNat < 32 then [92, 117, 48, 48, hexOf ((l.headD 0).toNat / 16), hexOf ((l.headD 0).toNat % 16)]
  else l.take (wid l)
/-- How far it goes. -/
def adv (l : List UInt8) : Nat := if wid l = 0 then 1 else wid l
theorem adv_pos (l : List UInt8) : 0 < adv l := by unfold adv; split <;> omega
def inner (l : List UInt8) : List UInt8 := if _h : l = [] then [] else piece l ++ inner (l.drop (adv l))
termination_by l.length
decreasing_by
  rw [List.length_drop]
  have : 0 < l.length := List.length_pos_iff.2 _h
  have := adv_pos l
  omega
def inQuotes (l : List UInt8) : List UInt8 := 34 :: inner l ++ [34]
theorem u8_ext {a b : UInt8} (h : a.toNat = b.toNat) : a = b := UInt8.toNat.inj h
theorem cont_iff (b : UInt8) : cont b = true ↔ b.toNat / 64 = 2 := by unfold cont; exact beq_iff_eq
theorem wid_shape (l : List UInt8) (h : wid l ≠ 0) :
    (∃ a r, l = a :: r ∧ a.toNat < 128 ∧ wid l = 1) ∨ (∃ a b r, l = a :: b :: r ∧ 194 ≤ a.toNat ∧ a.toNat < 224 ∧ b.toNat / 64 = 2 ∧ wid l = 2)
    ∨ (∃ a b c r, l = a :: b :: c :: r ∧ 224 ≤ a.toNat ∧ a.toNat < 240 ∧ b.toNat / 64 = 2 ∧ c.toNat / 64 = 2 ∧ 2048 ≤ three a b c ∧ ¬ (55296 ≤ three a b c ∧ three a b c < 57344) ∧ wid l = 3)
    ∨ (∃ a b c d r, l = a :: b :: c :: d :: r ∧ 240 ≤ a.toNat ∧ a.toNat < 245 ∧ b.toNat / 64 = 2 ∧ c.toNat / 64 = 2 ∧ d.toNat / 64 = 2 ∧ 65536 ≤ four a b c d ∧ four a b c d ≤ 1114111 ∧ wid l = 4) := by
  cases l with
  | nil => exact absurd rfl h
  | cons a r =>
    generalize hw : wid (a :: r) = n at h ⊢
    have hl : lead a r = n := hw
    unfold lead at hl
    split at hl
    · exact .inl ⟨a, r, rfl, by assumption, hl.symm⟩
    · split at hl
      · rename_i h1 h2
        match r, hl with
        | [], hl => exact absurd hl.symm h
        | b :: r, hl =>
          simp only [w2] at hl
          split at hl
          · rename_i h3
            exact .inr (.inl ⟨a, b, r, rfl, h2.1, h2.2, (cont_iff b).1 h3, hl.symm⟩)
          · exact absurd hl.symm h
      · split at hl
        · rename_i h1 h2 h3
          match r, hl with
          | [], hl => exact absurd hl.symm h
          | [b], hl => exact absurd hl.symm h
          | b :: c :: r, hl =>
            simp only [w3] at hl
            split at hl
            · rename_i h4
              exact .inr (.inr (.inl ⟨a, b, c, r, rfl, h3.1, h3.2, (cont_iff b).1 h4.1, (cont_iff c).1 h4.2.1, h4.2.2.1, h4.2.2.2, hl.symm⟩))
            · exact absurd hl.symm h
        · split at hl
          · rename_i h1 h2 h3 h5
            match r, hl with
            | [], hl => exact absurd hl.symm h
            | [b], hl => exact absurd hl.symm h
            | [b, c], hl => exact absurd hl.symm h
            | b :: c :: d :: r, hl =>
              simp only [w4] at hl
              split at hl
              · rename_i h4
                exact .inr (.inr (.inr ⟨a, b, c, d, r, rfl, h5.1, h5.2, (cont_iff b).1 h4.1, (cont_iff c).1 h4.2.1, (cont_iff d).1 h4.2.2.1, h4.2.2.2.1, h4.2.2.2.2, hl.symm⟩))
              · exact absurd hl.symm h
          · exact absurd hl.symm h
/-- What the decoder reads where a rune begins. -/
theorem dec_one (a : UInt8) (r : List UInt8) (h : a.toNat < 128) : decodeL (a :: r) = (a.toNat, 1) := by
  rw [dec_cons]
  unfold decodeN
  rw [if_pos h]
theorem dec_two (a b : UInt8) (r : List UInt8) (h0 : 194 ≤ a.toNat) (h1 : a.toNat < 224) (hb : b.toNat / 64 = 2) : decodeL (a :: b :: r) = (two a b, 2) := by
  rw [dec_cons]
  simp only [List.getD_cons_zero, List.getD_cons_succ, List.length_cons]
  unfold decodeN two
  rw [if_neg (by omega), if_pos ⟨by omega, by omega, hb⟩, if_pos (by omega)]
theorem dec_three (a b c : UInt8) (r : List UInt8) (h0 : 224 ≤ a.toNat) (h1 : a.toNat < 240) (hb : b.toNat / 64 = 2) (hc : c.toNat / 64 = 2) (h2 : 2048 ≤ three a b c) (h3 : ¬ (55296 ≤ three a b c ∧ three a b c < 57344)) : decodeL (a :: b :: c :: r) = (three a b c, 3) := by
  rw [dec_cons]
  simp only [List.getD_cons_zero, List.getD_cons_succ, List.length_cons]
  unfold three at h2 h3 ⊢
  unfold decodeN
  rw [if_neg (by omega), if_neg (by omega), if_pos ⟨by omega, ⟨by omega, hb⟩, by omega, hc⟩, if_pos ⟨by omega, by omega⟩]
theorem dec_four (a b c d : UInt8) (r : List UInt8) (h0 : 240 ≤ a.toNat) (h1 : a.toNat < 245) (hb : b.toNat / 64 = 2) (hc : c.toNat / 64 = 2) (hd : d.toNat / 64 = 2) (h2 : 65536 ≤ four a b c d) (h3 : four a b c d ≤ 1114111) : decodeL (a :: b :: c :: d :: r) = (four a b c d, 4) := by
  rw [dec_cons]
  simp only [List.getD_cons_zero, List.getD_cons_succ, List.length_cons]
  unfold four at h2 h3 ⊢
  unfold decodeN
  rw [if_neg (by omega), if_neg (by omega), if_neg (by omega), if_pos ⟨by omega, ⟨by omega, hb⟩, ⟨by omega, hc⟩, by omega, hd⟩, if_pos ⟨by omega, by omega⟩]
theorem enc_byte (n : Int) (a : UInt8) (h : n = a.toNat) : n.toNat.toUInt8 = a := by
  subst h
  exact u8_ext (by simp)
/-- What the decoder read, encoded, is what stood there. -/
theorem enc_dec (l : List UInt8) (h : wid l ≠ 0) : encodeRune ((decodeL l).1 : Int) = l.take (wid l) := by
  rcases wid_shape l h with ⟨a, r, rfl, h1, hw⟩ | ⟨a, b, r, rfl, h0, h1, hb, hw⟩ | ⟨a, b, c, r, rfl, h0, h1, hb, hc, h2, h3, hw⟩ | ⟨a, b, c, d, r, rfl, h0, h1, hb, hc, hd, h2, h3, hw⟩
  · rw [hw, dec_one a r h1, encodeRune, encodeRuneZ_one (by omega) (by dsimp only; omega)]
    simp only [List.map_cons, List.map_nil, List.take_succ_cons, List.take_zero]
    rw [enc_byte _ a rfl]
  · have ha := a.toNat_lt
    have hb' := b.toNat_lt
    rw [hw, dec_two a b r h0 h1 hb, encodeRune]
    dsimp only
    unfold two
    rw [encodeRuneZ_two (by omega) (by omega)]
    simp only [List.map_cons, List.map_nil, List.take_succ_cons, List.take_zero]
    rw [enc_byte _ a (by omega), enc_byte _ b (by omega)]
  · have ha := a.toNat_lt
    have hb' := b.toNat_lt
    have hc' := c.toNat_lt
    rw [hw, dec_three a b c r h0 h1 hb hc h2 h3, encodeRune]
    dsimp only
    unfold three at h2 h3 ⊢
    rw [encodeRuneZ_three (by omega)]
    simp only [List.map_cons, List.map_nil, List.take_succ_cons, List.take_zero]
    rw [enc_byte _ a (by omega), enc_byte _ b (by omega), enc_byte _ c (by omega)]
  · have ha := a.toNat_lt
    have hb' := b.toNat_lt
    have hc' := c.toNat_lt
    have hd' := d.toNat_lt
    rw [hw, dec_four a b c d r h0 h1 hb hc hd h2 h3, encodeRune]
    dsimp only
    unfold four at h2 h3 ⊢
    rw [encodeRuneZ_four (by omega) (by omega)]
    simp only [List.map_cons, List.map_nil, List.take_succ_cons, List.take_zero]
    rw [enc_byte _ a (by omega), enc_byte _ b (by omega), enc_byte _ c (by omega), enc_byte _ d (by omega)]
theorem dec_adv (l : List UInt8) (hne : l ≠ []) : (decodeL l).2 = adv l := by
  unfold adv
  by_cases h : wid l = 0
  · rw [if_pos h, dec_bad l hne h]
  · rw [if_neg h, (dec_good l h).1]
/-- Below 128 it is the first byte. -/
theorem dec_small (l : List UInt8) (hne : l ≠ []) (h : (decodeL l).1 < 128) : ∃ a r, l = a :: r ∧ wid l = 1 ∧ (decodeL l).1 = a.toNat := by
  by_cases hw : wid l = 0
  · rw [dec_bad l hne hw] at h
    simp at h
  · rcases wid_shape l hw with ⟨a, r, rfl, h1, hw⟩ | ⟨a, b, r, rfl, h0, h1, hb, hw⟩ | ⟨a, b, c, r, rfl, h0, h1, hb, hc, h2, h3, hw⟩ | ⟨a, b, c, d, r, rfl, h0, h1, hb, hc, hd, h2, h3, hw⟩
    · exact ⟨a, r, rfl, hw, by rw [dec_one a r h1]⟩
    · rw [dec_two a b r h0 h1 hb] at h
      unfold two at h
      dsimp only at h
      omega
    · rw [dec_three a b c r h0 h1 hb hc h2 h3] at h
      dsimp only at h
      omega
    · rw [dec_four a b c d r h0 h1 hb hc hd h2 h3] at h
      dsimp only at h
      omega
/-- A first byte below 128 is what the decoder reads. -/
theorem dec_head (a : UInt8) (r : List UInt8) (h : a.toNat < 128) : (decodeL (a :: r)).1 = a.toNat ∧ wid (a :: r) = 1 := by
  refine ⟨by rw [dec_one a r h], ?_⟩
  show lead a r = 1
  unfold lead
  rw [if_pos h]
theorem piece_mark (l : List UInt8) (hne : l ≠ []) (h : (decodeL l).1 = 34 ∨ (decodeL l).1 = 92) : piece l = [92] ++ encodeRune ((decodeL l).1 : Int) := by
  obtain ⟨a, r, rfl, hw, hc⟩ := dec_small l hne (by omega)
  rw [enc_dec _ (by omega), hw]
  unfold piece
  have ha : a = 34 ∨ a = 92 := h.elim (fun e => .inl (u8_ext (by rw [← hc, e]; rfl))) (fun e => .inr (u8_ext (by rw [← hc, e]; rfl)))
  rw [if_neg (by omega), if_pos (ha.elim (fun e => .inl (by rw [e]; rfl)) (fun e => .inr (by rw [e]; rfl)))]
  rfl
theorem piece_low (l : List UInt8) (hne : l ≠ []) (h0 : ¬ ((decodeL l).1 = 34 ∨ (decodeL l).1 = 92)) (h : (decodeL l).1 < 32) : piece l = [92, 117, 48, 48] ++ [hexOf ((decodeL l).1 / 16)] ++ [hexOf ((decodeL l).1 % 16)] := by
  obtain ⟨a, r, rfl, hw, hc⟩ := dec_small l hne (by omega)
  unfold piece
  rw [hc] at h0 h ⊢
  rw [if_neg (by omega), if_neg (fun e => h0 (e.elim (fun e => .inl (by rw [Option.some.inj e]; rfl)) (fun e => .inr (by rw [Option.some.inj e]; rfl))))]
  exact if_pos h
theorem piece_plain (l : List UInt8) (hne : l ≠ []) (h0 : ¬ ((decodeL l).1 = 34 ∨ (decodeL l).1 = 92)) (h : ¬ (decodeL l).1 < 32) : piece l = encodeRune ((decodeL l).1 : Int) := by
  unfold piece
  by_cases hw : wid l = 0
  · rw [if_pos hw, dec_bad l hne hw]
    decide
  · rw [if_neg hw, enc_dec l hw]
    cases l with
    | nil => exact absurd rfl hne
    | cons a r =>
      by_cases ha : a.toNat < 128
      · obtain ⟨hd, _⟩ := dec_head a r ha
        rw [hd] at h0 h
        rw [if_neg (fun e => h0 (e.elim (fun e => .inl (by rw [Option.some.inj e]; rfl)) (fun e => .inr (by rw [Option.some.inj e]; rfl))))]
        exact if_neg h
      · rw [if_neg (fun e => ha (e.elim (fun e => by rw [Option.some.inj e]; decide) (fun e => by rw [Option.some.inj e]; decide))), if_neg (fun e => ha (by rw [List.headD_cons] at e; omega))]
end Go.Proofs.YtldlkoncndlbhaaDoor.Utf
namespace Go.Proofs.YtldlkoncndlbhaaDoor.Tx
open Go.RowKit Go.Proofs.YtldlkoncndlbhaaDoor.Utf Go.Proofs.YtldlkoncndlbhaaDoor.Pl Go.Proofs.YtldlkoncndlbhaaDoor.PSh Go.Proofs.YtldlkoncndlbhaaDoorW.PrintWords Go.Proofs.YtldlkoncndlbhaaDoorW.PrintLast Go.Proofs.YtldlkoncndlbhaaDoorW.PrintMore
/-- So many texts, a comma between. -/
def joined (g : Nat → List UInt8) : Nat → List UInt8
  | 0 => []
  | i + 1 => joined g i ++ ((if i = 0 then [] else [44]) ++ g i)
/-- A value's text, of its kids' texts. -/
def txtOf (g : Int → List UInt8) (x : S39) : List UInt8 :=
  if x.f0 = 1 then [110, 117, 108, 108]
  else if x.f0 = 2 then (if x.f1 = true then [116, 114, 117, 101] else [102, 97, 108, 115, 101])
  else if x.f0 = 3 then Lib.itoa x.f2
  else if x.f0 = 4 then inQuotes x.f3.data.toList
  else if x.f0 = 5 then [91] ++ joined (fun i => g (rd x.f5 (i : Int))) x.f5.length ++ [93]
  else [123] ++ joined (fun i => inQuotes (rdOf ByteArray.empty x.f4 (i : Int)).data.toList ++ [58] ++ g (rd x.f5 (i : Int))) x.f5.length ++ [125]
/-- The text of the value at a place. -/
def txt (l : List S39) : Nat → Int → List UInt8
  | 0, _ => []
  | f + 1, a => txtOf (txt l f) (rd_T39 l a)
theorem txt_succ (l : List S39) (f : Nat) (a : Int) : txt l (f + 1) a = txtOf (txt l f) (rd_T39 l a) := rfl
theorem txtOf_1 (g : Int → List UInt8) (x : S39) (h : x.f0 = 1) : txtOf g x = [110, 117, 108, 108] := by unfold txtOf; rw [if_pos h]
theorem txtOf_2 (g : Int → List UInt8) (x : S39) (h : x.f0 = 2) : txtOf g x = if x.f1 = true then [116, 114, 117, 101] else [102, 97, 108, 115, 101] := by unfold txtOf; rw [if_neg (by omega), if_pos h]
theorem txtOf_3 (g : Int → List UInt8) (x : S39) (h : x.f0 = 3) : txtOf g x = Lib.itoa x.f2 := by unfold txtOf; rw [if_neg (by omega), if_neg (by omega), if_pos h]
theorem txtOf_4 (g : Int → List UInt8) (x : S39) (h : x.f0 = 4) : txtOf g x = inQuotes x.f3.data.toList := by unfold txtOf; rw [if_neg (by omega), if_neg (by omega), if_neg (by omega), if_pos h]
theorem txtOf_5 (g : Int → List UInt8) (x : S39) (h : x.f0 = 5) : txtOf g x = [91] ++ joined (fun i => g (rd x.f5 (i : Int))) x.f5.length ++ [93] := by unfold txtOf; rw [if_neg (by omega), if_neg (by omega), if_neg (by omega), if_neg (by omega), if_pos h]
theorem txtOf_6 (g : Int → List UInt8) (x : S39) (h : x.f0 = 6) : txtOf g x = [123] ++ joined (fun i => inQuotes (rdOf ByteArray.empty x.f4 (i : Int)).data.toList ++ [58] ++ g (rd x.f5 (i : Int))) x.f5.length ++ [125] := by unfold txtOf; rw [if_neg (by omega), if_neg (by omega), if_neg (by omega), if_neg (by omega), if_neg (by omega)]
def plainOf (x : S39) : Bool := plainB x.f0 x.f1 x.f2 x.f3 x.f4 x.f5
/-- A tree: each value such as there may be, each kid ahead of it. -/
def Tree (l : List S39) : Prop := ∀ a : Int, 0 ≤ a → a < l.length → plainOf (rd_T39 l a) = true ∧ ∀ i : Nat, i < (rd_T39 l a).f5.length → 0 ≤ rd (rd_T39 l a).f5 (i : Int) ∧ rd (rd_T39 l a).f5 (i : Int) < a
/-- Of a size that can be written. -/
def Sized (l : List S39) : Prop := ∀ a : Int, 0 ≤ a → a < l.length → (rd_T39 l a).f3.size ≤ 17592186044416 ∧ (rd_T39 l a).f5.length ≤ 140737488355328 ∧ ∀ i : Nat, i < (rd_T39 l a).f4.length → (rdOf ByteArray.empty (rd_T39 l a).f4 (i : Int)).size ≤ 17592186044416
theorem joined_le (g : Nat → List UInt8) : ∀ n i, i ≤ n → (joined g i).length ≤ (joined g n).length
  | 0, i, h => by obtain rfl : i = 0 := by omega
                  exact Nat.le_refl _
  | n + 1, i, h => by
    by_cases e : i = n + 1
    · subst e; exact Nat.le_refl _
    · have := joined_le g n i (by omega)
      rw [joined, List.length_append]
      omega
theorem joined_succ (g : Nat → List UInt8) (i : Nat) : joined g (i + 1) = joined g i ++ ((if i = 0 then [] else [44]) ++ g i) := rfl
/-- What 'plain' says of the kinds. -/
theorem plain_kind {x : S39} (h : plainOf x = true) : x.f0 = 1 ∨ x.f0 = 2 ∨ (x.f0 = 3 ∧ -4611686018427387903 ≤ x.f2 ∧ x.f2 ≤ 4611686018427387903) ∨ x.f0 = 4 ∨ x.f0 = 5 ∨ (x.f0 = 6 ∧ x.f4.length = x.f5.length) := by
  unfold plainOf plainB at h
  split at h
  · by_cases k1 : x.f0 = 1
    · exact .inl k1
    rw [if_neg k1] at h
    by_cases k2 : x.f0 = 2
    · exact .inr (.inl k2)
    rw [if_neg k2] at h
    by_cases k3 : x.f0 = 3
    · rw [if_pos k3] at h
      simp only [Bool.and_eq_true, decide_eq_true_eq] at h
      exact .inr (.inr (.inl ⟨k3, h.2⟩))
    rw [if_neg k3] at h
    by_cases k4 : x.f0 = 4
    · exact .inr (.inr (.inr (.inl k4)))
    rw [if_neg k4] at h
    by_cases k5 : x.f0 = 5
    · exact .inr (.inr (.inr (.inr (.inl k5))))
    rw [if_neg k5] at h
    by_cases k6 : x.f0 = 6
    · rw [if_pos k6] at h
      simp only [Bool.and_eq_true, beq_iff_eq] at h
      exact .inr (.inr (.inr (.inr (.inr ⟨k6, h.1.1.1⟩))))
    · rw [if_neg k6] at h
      cases h
  · cases h
end Go.Proofs.YtldlkoncndlbhaaDoor.Tx
set_option linter.unusedVariables false
namespace Go.Proofs.YtldlkoncndlbhaaDoor.Bu
open Go.RowKit
theorem sizeBuilder : (Tryd.prog.info? 51).map (fun i => i.size) = some 2 := by kernel_rfl
theorem infoByte : (Tryd.prog.info? 5).map (fun i => (i.zero, i.size, i.bytes)) = some (some (.int .u8 0), 1, 1) := by kernel_rfl
theorem lies : liesAt Tryd.prog Tryd.prog.depth 51 (2 / Tryd.prog.cellsOf 51) 0 51 1 = true := by kernel_rfl
set_option maxRecDepth 100000 in
theorem check_used (b : Nat) (w : World) (h0 : w.cell? ⟨b, 0, none⟩ = some (.pointer (some ⟨b, 0, none⟩))) :
    Calls Tryd.prog 43 #[.pointer (some ⟨b, 0, none⟩)] w fun e w' => e = .returned (.tuple #[]) ∧ w' = w := by
  obtain ⟨j, hj, _⟩ := Option.map_eq_some_iff.1 sizeBuilder
  go_enter Tryd.func43, Tryd.ntmps43
  go_wp2
  rw [Lib.run_neq_ptr_same w _ Tryd.underlying49 hj]
  go_wp2
  go_end0
  exact ⟨rfl, rfl⟩
set_option maxRecDepth 100000 in
theorem check_fresh (b : Nat) (w : World) (h0 : w.cell? ⟨b, 0, none⟩ = some (.pointer none)) (hsh : w.shape? b = some (51, 2)) (hfz : w.frozen? ⟨b, 0, none⟩ = false) :
    Calls Tryd.prog 43 #[.pointer (some ⟨b, 0, none⟩)] w fun e w' => e = .returned (.tuple #[]) ∧ w' = w.setCell ⟨b, 0, none⟩ (.pointer (some ⟨b, 0, none⟩)) := by
  obtain ⟨j, hj, hjs⟩ := Option.map_eq_some_iff.1 sizeBuilder
  go_enter Tryd.func43, Tryd.ntmps43
  go_wp2
  rw [Lib.run_to_unsafe w ⟨b, 0, none⟩ Tryd.underlying49 Tryd.underlying88 hj (by rw [hjs]; decide) hsh (Nat.zero_lt_succ 1)]
  simp only [Result.andThen]
  rw [Oper.upon_value]
  go_wp2
  rw [run_callFunc_extern Tryd.func54 (by kernel_rfl) (by kernel_rfl) (by kernel_rfl) (e := Extern.AbiNoEscape.same) (by kernel_rfl)]
  rw [Lib.run_noEscape]
  simp only [Result.andThen]
  rw [Oper.upon_value]
  go_wp2
  rw [Lib.run_from_unsafe w ⟨b, 0, none⟩ Tryd.underlying88 Tryd.underlying49 hj hsh lies]
  simp only [Result.andThen]
  rw [Oper.upon_value]
  go_wp2
  go_end0
  exact ⟨rfl, rfl⟩
theorem check (B b : Nat) (bs : List Value) (w : World) (h : Lib.IsBuilder 51 5 B b bs w) :
    Calls Tryd.prog 43 #[.pointer (some ⟨b, 0, none⟩)] w fun e w' => e = .returned (.tuple #[]) ∧ (Lib.BuilderAt 51 5 B b (.pointer (some ⟨b, 0, none⟩)) bs w' ∧ Below B w w' ∧ Lib.OthersKept 5 (some b) w w') := by
  rcases h with h | h
  · refine (check_fresh b w h.cell0 h.shape h.frozen0).mono ?_
    rintro e w' ⟨rfl, rfl⟩
    exact ⟨rfl, h.used _, (Below.refl B w).setCell (p := ⟨b, 0, none⟩) h.1 _, (Lib.OthersKept.refl _ _ w).setCell ⟨b, 0, none⟩ rfl _⟩
  · refine (check_used b w h.cell0).mono ?_
    rintro e w' ⟨rfl, rfl⟩
    exact ⟨rfl, h, Below.refl B _, Lib.OthersKept.refl _ _ _⟩
set_option maxHeartbeats 2000000 in
set_option maxRecDepth 100000 in
theorem writeByte (B b : Nat) (bs : List Value) (c : Int) (w : World) (h : Lib.IsBuilder 51 5 B b bs w) (hlen : bs.length + 1 ≤ 140737488355328) (hBw : B ≤ w.heap.size) :
    Calls Tryd.prog 28 #[.pointer (some ⟨b, 0, none⟩), .int .u8 c] w fun e w' => e = .returned .nilIface ∧ (Lib.BuilderAt 51 5 B b (.pointer (some ⟨b, 0, none⟩)) (bs ++ [.int .u8 c]) w' ∧ Below B w w' ∧ Lib.OthersKept 5 (some b) w w') := by
  obtain ⟨i0, hi, hz0, hz1, hz2⟩ := info_parts infoByte
  go_enter Tryd.func28, Tryd.ntmps28
  go_wp2_with (go_at_call 43; refine (check B b bs _ h).mono ?_)
  rintro e w1 ⟨rfl, h1, hb1, hk1⟩
  obtain ⟨hB, v, hbk, hown, hne⟩ := h1
  have c0 : w1.cell? ⟨b, 0, none⟩ = some (.pointer (some ⟨b, 0, none⟩)) := by rw [Lib.cell_of_heap hbk]; rfl
  have c1 : w1.cell? ⟨b, 1, none⟩ = some v := by rw [Lib.cell_of_heap hbk]; rfl
  go_wp2_with (at_builtin; refine wpList_append_own _ rfl _ _ 30 rfl B 5 i0 (.int .u8 0) 1 1 Tryd.underlying30 hi hz0 hz1 hz2 rfl (by decide) _ _ _ rfl (hown.alloc _) ⟨w1.heap.size, 0, none⟩ 1 1 [.int .u8 c] rfl rfl ?c1 ?c2 ?c3 ?c4 ?c5 ?_)
  case c1 =>
    intro j u hj
    match j, hj with
    | 0, hj => simp at hj; subst hj; simp [Addr.add]
  case c2 => intro u hu; simp at hu; subst hu; rfl
  case c3 => unfold maxLen; omega
  case c4 => omega
  case c5 => have := hb1.size; simp; omega
  intro v' w2 hown' hgrow _
  have hlt : b < w1.heap.size := by
    rcases Nat.lt_or_ge b w1.heap.size with h' | h'
    · exact h'
    · simp [Array.getElem?_eq_none h'] at hbk
  have hb2 : w2.heap[b]? = some (.cells #[.pointer (some ⟨b, 0, none⟩), v] 51 (0, 0)) := by
    rw [hgrow.block b (by simp; omega) (fun e => hne e.symm), Lib.alloc_old w1 _ b hlt]
    exact hbk
  have d0 : w2.cell? ⟨b, 0, none⟩ = some (.pointer (some ⟨b, 0, none⟩)) := by rw [Lib.cell_of_heap hb2]; rfl
  have d1 : w2.cell? ⟨b, 1, none⟩ = some v := by rw [Lib.cell_of_heap hb2]; rfl
  have f1 : w2.frozen? ⟨b, 1, none⟩ = false := Lib.frozen_of_heap hb2 1
  obtain ⟨g, cap, rfl⟩ : ∃ g cap, v' = .slice (some ⟨g, 0, none⟩) (bs.length + 1) cap := by
    rcases hown'.2 with ⟨_, h0⟩ | ⟨g, cap, cur, hv, _⟩
    · omega
    · exact ⟨g, cap, hv⟩
  go_wp2
  go_ret
  refine ⟨rfl, ?_, ?_, ((hk1.alloc _).grown hgrow (Lib.ownsRowF_kind (World.ownsRowF_of (hown.alloc _)))).setCell ⟨b, 1, none⟩ rfl _⟩
  · exact Lib.BuilderAt.put hB hb2 (bs' := bs ++ [.int .u8 c]) (by simpa using hown') (by decide)
  · exact ((hb1.alloc (by have := hb1.size; omega) _).grown hgrow (by have := hb1.size; simp; omega) (fun k hk => (hown.lt k hk).1)).setCell (p := ⟨b, 1, none⟩) hB _
set_option maxHeartbeats 2000000 in
set_option maxRecDepth 100000 in
theorem writeString (B b : Nat) (bs : List Value) (s : ByteArray) (w : World) (h : Lib.IsBuilder 51 5 B b bs w) (hlen : bs.length + s.size ≤ 140737488355328) (hBw : B ≤ w.heap.size) :
    Calls Tryd.prog 30 #[.pointer (some ⟨b, 0, none⟩), .string s] w fun e w' => e = .returned (.tuple #[.int .i64 s.size, .nilIface]) ∧ (Lib.BuilderAt 51 5 B b (.pointer (some ⟨b, 0, none⟩)) (bs ++ Lib.strCells s) w' ∧ Below B w w' ∧ Lib.OthersKept 5 (some b) w w') := by
  obtain ⟨i0, hi, hz0, hz1, hz2⟩ := info_parts infoByte
  go_enter Tryd.func30, Tryd.ntmps30
  go_wp2_with (go_at_call 43; refine (check B b bs _ h).mono ?_)
  rintro e w1 ⟨rfl, h1, hb1, hk1⟩
  obtain ⟨hB, v, hbk, hown, hne⟩ := h1
  have c0 : w1.cell? ⟨b, 0, none⟩ = some (.pointer (some ⟨b, 0, none⟩)) := by rw [Lib.cell_of_heap hbk]; rfl
  have c1 : w1.cell? ⟨b, 1, none⟩ = some v := by rw [Lib.cell_of_heap hbk]; rfl
  go_wp2_with (at_builtin; refine Lib.wpList_append_own_string _ rfl _ _ 30 9 rfl B 5 i0 Tryd.underlying30 Tryd.underlying9 hi hz0 hz1 hz2 _ _ _ rfl hown s rfl ?c3 ?c4 ?c5 ?_)
  case c3 => unfold maxLen; omega
  case c4 => omega
  case c5 => have := hb1.size; omega
  intro v' w2 hown' hgrow _
  have hlt : b < w1.heap.size := by
    rcases Nat.lt_or_ge b w1.heap.size with h' | h'
    · exact h'
    · simp [Array.getElem?_eq_none h'] at hbk
  have hb2 : w2.heap[b]? = some (.cells #[.pointer (some ⟨b, 0, none⟩), v] 51 (0, 0)) := by
    rw [hgrow.block b hlt (fun e => hne e.symm)]
    exact hbk
  have d0 : w2.cell? ⟨b, 0, none⟩ = some (.pointer (some ⟨b, 0, none⟩)) := by rw [Lib.cell_of_heap hb2]; rfl
  have d1 : w2.cell? ⟨b, 1, none⟩ = some v := by rw [Lib.cell_of_heap hb2]; rfl
  have f1 : w2.frozen? ⟨b, 1, none⟩ = false := Lib.frozen_of_heap hb2 1
  obtain ⟨ao, n', cap, rfl⟩ : ∃ ao n' cap, v' = .slice ao n' cap := by
    rcases hown'.2 with ⟨hv, _⟩ | ⟨g, cap, cur, hv, _⟩
    · exact ⟨_, _, _, hv⟩
    · exact ⟨_, _, _, hv⟩
  go_wp2
  go_ret2
  refine ⟨rfl, ?_, ?_, (hk1.grown hgrow (Lib.ownsRowF_kind (World.ownsRowF_of hown))).setCell ⟨b, 1, none⟩ rfl _⟩
  · exact Lib.BuilderAt.put hB hb2 (bs' := bs ++ Lib.strCells s) (by simpa [Lib.strCells_length] using hown') (by decide)
  · exact (hb1.grown hgrow (by have := hb1.size; omega) (fun k hk => (hown.lt k hk).1)).setCell (p := ⟨b, 1, none⟩) hB _
set_option maxHeartbeats 4000000 in
set_option maxRecDepth 100000 in
theorem writeRune (B b : Nat) (bs : List Value) (r : Int) (hr0 : -2147483648 ≤ r) (hr1 : r ≤ 2147483647) (w : World) (h : Lib.IsBuilder 51 5 B b bs w) (hlen : bs.length + 4 ≤ 140737488355328) (hBw : B ≤ w.heap.size) :
    Calls Tryd.prog 29 #[.pointer (some ⟨b, 0, none⟩), .int .i32 r] w fun e w' => e = .returned (.tuple #[.int .i64 (Lib.runeCells r).length, .nilIface]) ∧ (Lib.BuilderAt 51 5 B b (.pointer (some ⟨b, 0, none⟩)) (bs ++ Lib.runeCells r) w' ∧ Below B w w' ∧ Lib.OthersKept 5 (some b) w w') := by
  have hk4 := Lib.runeCells_le r
  go_enter Tryd.func29, Tryd.ntmps29
  go_wp2_with (go_at_call 43; refine (check B b bs _ h).mono ?_)
  rintro e w1 ⟨rfl, h1, hb1, hk1⟩
  obtain ⟨hB, v, hbk, hown, hne⟩ := h1
  obtain ⟨ao, cap, rfl⟩ : ∃ ao cap, v = .slice ao bs.length cap := by
    rcases hown.2 with ⟨hv, h0⟩ | ⟨g, cap, cur, hv, _⟩
    · exact ⟨none, 0, by rw [hv, h0]⟩
    · exact ⟨_, _, hv⟩
  have c0 : w1.cell? ⟨b, 0, none⟩ = some (.pointer (some ⟨b, 0, none⟩)) := by rw [Lib.cell_of_heap hbk]; rfl
  have c1 : w1.cell? ⟨b, 1, none⟩ = some (.slice ao bs.length cap) := by rw [Lib.cell_of_heap hbk]; rfl
  go_wp2_with (go_at_call 44; refine (Tryd.utf8_AppendRune_plain B _ bs.length bs r hr0 hr1 _ hown hlen (by have := hb1.size; omega)).mono ?_)
  rintro e w2 ⟨v', rfl, hown', o, hgrow⟩
  have hlt : b < w1.heap.size := by
    rcases Nat.lt_or_ge b w1.heap.size with h' | h'
    · exact h'
    · simp [Array.getElem?_eq_none h'] at hbk
  have hb2 : w2.heap[b]? = some (.cells #[.pointer (some ⟨b, 0, none⟩), .slice ao bs.length cap] 51 (0, 0)) := by
    rw [hgrow.block b (by simp; omega) (fun e => hne e.symm), Lib.alloc_old w1 _ b hlt]
    exact hbk
  have d0 : w2.cell? ⟨b, 0, none⟩ = some (.pointer (some ⟨b, 0, none⟩)) := by rw [Lib.cell_of_heap hb2]; rfl
  have d1 : w2.cell? ⟨b, 1, none⟩ = some (.slice ao bs.length cap) := by rw [Lib.cell_of_heap hb2]; rfl
  have f1 : w2.frozen? ⟨b, 1, none⟩ = false := Lib.frozen_of_heap hb2 1
  obtain ⟨g, cap', rfl⟩ : ∃ g cap', v' = .slice (some ⟨g, 0, none⟩) (bs.length + (Lib.runeCells r).length) cap' := by
    rcases hown'.2 with ⟨_, h0⟩ | ⟨g, cap', cur, hv, _⟩
    · omega
    · exact ⟨g, cap', hv⟩
  go_wp2
  go_ret2
  refine ⟨?_, ?_, ?_, ((hk1.alloc _).grown hgrow (Lib.ownsRowF_kind (World.ownsRowF_of (hown.alloc _)))).setCell ⟨b, 1, none⟩ rfl _⟩
  · have e : ((bs.length : Int) + ((Lib.runeCells r).length : Int) - (bs.length : Int)) = ((Lib.runeCells r).length : Int) := by omega
    simp [e]
  · exact Lib.BuilderAt.put hB hb2 (bs' := bs ++ Lib.runeCells r) (by simpa using hown') (by decide)
  · exact ((hb1.alloc (by have := hb1.size; omega) _).grown hgrow (by have := hb1.size; simp; omega) (fun k hk => (hown.lt k hk).1)).setCell (p := ⟨b, 1, none⟩) hB _
end Go.Proofs.YtldlkoncndlbhaaDoor.Bu
set_option linter.unusedVariables false
set_option linter.unusedSimpArgs false
namespace Go.Proofs.YtldlkoncndlbhaaDoor.Qu
open Go.RowKit Go.Proofs.YtldlkoncndlbhaaDoor.Utf Go.Proofs.YtldlkoncndlbhaaDoor.Bu Go.Lib Go.Proofs.YtldlkoncndlbhaaDoorW.PrintWords Go.Proofs.YtldlkoncndlbhaaDoorW.PrintLast Go.Proofs.YtldlkoncndlbhaaDoorW.PrintMore
theorem iterPos_of {w : World} {b : Nat} {s : ByteArray} {pos : Nat} (h : w.heap[b]? = some (.stringIter s pos)) : w.iterPos b = pos := by
  simp [World.iterPos, h]
theorem byteCells_append (a b : List UInt8) : byteCells (a ++ b) = byteCells a ++ byteCells b := List.map_append
/-- What the loop keeps: the builder holds 'out', the iterator stands at 'pos'. -/
def At (w : World) (k : Nat) (wr : World) (s : ByteArray) (out : List UInt8) (pos : Nat) : Prop :=
  Lib.IsBuilder 51 5 w.heap.size w.heap.size (byteCells out) wr ∧ wr.heap[k]? = some (.stringIter s pos) ∧ Below w.heap.size w wr ∧ w.heap.size < k
theorem piece_le (l : List UInt8) : (piece l).length ≤ 6 * adv l := by
  have h1 := wid_le l
  unfold piece adv
  split
  · simp
  · split
    · simp; omega
    · split
      · simp; omega
      · rw [List.length_take]; omega
theorem At.byte {w wr : World} {k : Nat} {s : ByteArray} {out : List UInt8} {pos : Nat} (h : At w k wr s out pos) (hl : out.length + 1 ≤ 140737488355328) (c : UInt8) (ci : Int) (hc : ci = c.toNat) :
    Calls Tryd.prog 28 #[.pointer (some ⟨w.heap.size, 0, none⟩), .int .u8 ci] wr fun e w' => e = .returned .nilIface ∧ At w k w' s (out ++ [c]) pos := by
  subst hc
  refine (writeByte w.heap.size w.heap.size (byteCells out) c.toNat wr h.1 (by rw [byteCells, List.length_map]; exact hl) h.2.2.1.size).mono ?_
  rintro e w1 ⟨rfl, h1, hb1, hk1⟩
  exact ⟨rfl, .inr (by rw [byteCells_append]; exact h1), hk1.iter h.2.1 (by have := h.2.2.2; omega), h.2.2.1.trans hb1, h.2.2.2⟩
theorem At.string {w wr : World} {k : Nat} {s : ByteArray} {out : List UInt8} {pos : Nat} (h : At w k wr s out pos) (t : ByteArray) (hl : out.length + t.size ≤ 140737488355328) :
    Calls Tryd.prog 30 #[.pointer (some ⟨w.heap.size, 0, none⟩), .string t] wr fun e w' => e = .returned (.tuple #[.int .i64 t.size, .nilIface]) ∧ At w k w' s (out ++ t.data.toList) pos := by
  refine (writeString w.heap.size w.heap.size (byteCells out) t wr h.1 (by rw [byteCells, List.length_map]; exact hl) h.2.2.1.size).mono ?_
  rintro e w1 ⟨rfl, h1, hb1, hk1⟩
  exact ⟨rfl, .inr (by rw [byteCells_append]; exact h1), hk1.iter h.2.1 (by have := h.2.2.2; omega), h.2.2.1.trans hb1, h.2.2.2⟩
theorem At.rune {w wr : World} {k : Nat} {s : ByteArray} {out : List UInt8} {pos : Nat} (h : At w k wr s out pos) (r : Nat) (hr : r ≤ 2147483647) (hl : out.length + 4 ≤ 140737488355328) :
    Calls Tryd.prog 29 #[.pointer (some ⟨w.heap.size, 0, none⟩), .int .i32 (r : Int)] wr fun e w' => (∃ n : Int, e = .returned (.tuple #[.int .i64 n, .nilIface])) ∧ At w k w' s (out ++ encodeRune r) pos := by
  refine (writeRune w.heap.size w.heap.size (byteCells out) r (by omega) (by omega) wr h.1 (by rw [byteCells, List.length_map]; exact hl) h.2.2.1.size).mono ?_
  rintro e w1 ⟨rfl, h1, hb1, hk1⟩
  exact ⟨⟨_, rfl⟩, .inr (by rw [byteCells_append, byteCells_encodeRune]; exact h1), hk1.iter h.2.1 (by have := h.2.2.2; omega), h.2.2.1.trans hb1, h.2.2.2⟩
theorem runeBytes (s : ByteArray) (pos : Nat) (hp : pos < s.size) : ∃ l : List UInt8, s.data.toList.drop pos = l ∧ l ≠ [] ∧ Utf8.decode s pos = decodeL l ∧ l.length = s.size - pos := by
  have hl : (s.data.toList.drop pos).length = s.size - pos := by rw [List.length_drop, Array.length_toList]; rfl
  exact ⟨_, rfl, fun e => by rw [e] at hl; simp at hl; omega, (decodeL_drop s pos).symm, hl⟩
theorem BuilderAt_iter {T e : TypeId} {B b : Nat} {p : Value} {bs : List Value} {w : World} (h : BuilderAt T e B b p bs w) {k : Nat} {s : ByteArray} {pos : Nat} (hk : w.heap[k]? = some (.stringIter s pos)) (pos' : Nat) :
    BuilderAt T e B b p bs (w.iterAt k s pos') := by
  obtain ⟨hB, v, hb, hown, hne⟩ := h
  have hkb : b ≠ k := by
    intro e1
    rw [e1, hk] at hb
    cases hb
  refine ⟨hB, v, (iterAt_other w k b s pos' hkb).trans hb, ⟨hown.1, ?_⟩, hne⟩
  rcases hown.2 with hn | ⟨g, cap, cur, hv, hbg, hg, rest⟩
  · exact .inl hn
  · have hkg : g ≠ k := by
      intro e1
      rw [e1, hk] at hg
      cases hg
    exact .inr ⟨g, cap, cur, hv, hbg, (iterAt_other w k g s pos' hkg).trans hg, rest⟩
theorem At.next {w wr : World} {k : Nat} {s : ByteArray} {out : List UInt8} {pos : Nat} (h : At w k wr s out pos) (n : Nat) : At w k (wr.iterAt k s (pos + n)) s out (pos + n) :=
  ⟨h.1.elim (fun x => .inl (BuilderAt_iter x h.2.1 _)) (fun x => .inr (BuilderAt_iter x h.2.1 _)), iterAt_heap _ _ _ _ _ h.2.1, below_iterAt h.2.2.1 (Nat.le_of_lt h.2.2.2) _ _, h.2.2.2⟩
theorem IsBuilder_alloc {T e : TypeId} {B b : Nat} {p : Value} {bs : List Value} {w : World} (h : BuilderAt T e B b p bs w) (o : Obj) : BuilderAt T e B b p bs (w.alloc o) := by
  have hlt := h.lt
  obtain ⟨hB, v, hb, hown, hne⟩ := h
  exact ⟨hB, v, (alloc_old w o b hlt).trans hb, hown.kept (World.grownBy_alloc w o none) (by cases hv : v.ownBlock <;> simp), hne⟩
theorem inner_step (l : List UInt8) (hne : l ≠ []) : inner l = piece l ++ inner (l.drop (adv l)) := by
  conv => lhs; unfold inner
  rw [dif_neg hne]
theorem and15 (c : Nat) (h : c < 2147483648) : bits BinOp.and IntKind.i32 (c : Int) 15 = ((c % 16 : Nat) : Int) := by
  have := bits_mask .i32 31 (by decide) wraps_i32 4 (by omega) (c : Int) (by omega) (by omega)
  simpa using this
theorem hexAt : ∀ (n : Nat) (h : n < (⟨#[48, 49, 50, 51, 52, 53, 54, 55, 56, 57, 97, 98, 99, 100, 101, 102]⟩ : ByteArray).size), (⟨#[48, 49, 50, 51, 52, 53, 54, 55, 56, 57, 97, 98, 99, 100, 101, 102]⟩ : ByteArray)[n] = hexOf n := by
  intro n h
  have h16 : n < 16 := h
  match n, h16, h with
  | 0, _, _ => rfl
  | 1, _, _ => rfl
  | 2, _, _ => rfl
  | 3, _, _ => rfl
  | 4, _, _ => rfl
  | 5, _, _ => rfl
  | 6, _, _ => rfl
  | 7, _, _ => rfl
  | 8, _, _ => rfl
  | 9, _, _ => rfl
  | 10, _, _ => rfl
  | 11, _, _ => rfl
  | 12, _, _ => rfl
  | 13, _, _ => rfl
  | 14, _, _ => rfl
  | 15, _, _ => rfl
  | n + 16, h, _ => omega
theorem inner_nil : inner [] = [] := by unfold inner; rw [dif_pos rfl]
/-- The round's end. -/
theorem rel_step {w wr : World} {k : Nat} {s : ByteArray} {out l : List UInt8} {pos : Nat} (hl : s.data.toList.drop pos = l) (hne : l ≠ []) (hlen : l.length = s.size - pos) (hol : out.length ≤ 1 + 6 * pos)
    (hin : Aside0 (out ++ inner l = 34 :: inner s.data.toList)) (h : At w k wr s (out ++ piece l) (pos + adv l)) :
    ∃ (pos : Nat) (out : List UInt8), At w k wr s out pos ∧ pos ≤ s.size ∧ out.length ≤ 1 + 6 * pos ∧ Aside0 (out ++ inner (s.data.toList.drop pos) = 34 :: inner s.data.toList) := by
  have h1 := piece_le l
  have h2 := wid_le l
  have h3 : 0 < l.length := List.length_pos_iff.2 hne
  refine ⟨pos + adv l, out ++ piece l, h, ?_, by rw [List.length_append]; omega, ⟨?_⟩⟩
  · unfold adv
    split <;> omega
  · rw [List.append_assoc, ← List.drop_drop, hl, ← inner_step l hne]
    exact hin.out
set_option maxHeartbeats 4000000 in
set_option maxRecDepth 100000 in
theorem quote_walk (s : ByteArray) (w : World) (hm : s.size ≤ 17592186044416) :
    Calls Tryd.prog 17 #[.string s] w fun e w' => e = .returned (.string ⟨(inQuotes s.data.toList).toArray⟩) ∧ Below w.heap.size w w' := by
  go_enter Tryd.func17, Tryd.ntmps17
  go_wp2_with (go_at_call 28; refine (writeByte w.heap.size w.heap.size [] 34 _ (fresh_isBuilder 51 5 w) (by simp) (by simp)).mono ?_)
  rintro e w1 ⟨rfl, h1, hb1, hk1⟩
  have hlt := h1.lt
  have hA : At w w1.heap.size (w1.alloc (.stringIter s 0)) s [34] 0 := ⟨.inr (IsBuilder_alloc h1 _), World.iter_heap w1 s 0, ((Below.refl _ _).alloc (Nat.le_refl _) _).trans (hb1.alloc (by have := hb1.size; simp at this; omega) _), hlt⟩
  generalize hk : w1.heap.size = k at hA
  go_wp2
  go_loopw [5] (fun _ wr => ∃ (pos : Nat) (out : List UInt8), At w k wr s out pos ∧ pos ≤ s.size ∧ out.length ≤ 1 + 6 * pos ∧ Aside0 (out ++ inner (s.data.toList.drop pos) = 34 :: inner s.data.toList)) (fun _ wr => s.size - wr.iterPos k)
  case atStart => exact ⟨0, [34], hA, Nat.zero_le _, by simp, ⟨by rw [List.drop_zero]; rfl⟩⟩
  case round =>
    obtain ⟨pos, out, hat, hps, hol, hin⟩ := hrel
    have hpos0 := iterPos_of hat.2.1
    by_cases hp : pos < s.size
    · obtain ⟨l, hl, hne, hd, hlen⟩ := runeBytes s pos hp
      have hnx : ∀ ty, (Instr.next (.pointer (some ⟨k, 0, none⟩)) true ty).run Tryd.prog wr = _ := fun ty => Lib.run_next_any_at wr k s pos ty hat.2.1 hp
      rw [hd] at hnx
      have hadv := dec_adv l hne
      have hN := hat.next (decodeL l).2
      have hstep := inner_step l hne
      rw [hl] at hin
      have hc31 : (decodeL l).1 ≤ 2147483647 := Nat.le_trans (decodeL_rune l) (by decide)
      have hm1 := piece_mark l hne
      have hm2 := piece_low l hne
      have hm3 := piece_plain l hne
      have hpl := piece_le l
      generalize hW1 : wr.iterAt k s (pos + (decodeL l).2) = W1 at *
      generalize (decodeL l).1 = c at *
      generalize (decodeL l).2 = n at *
      subst hadv
      clear hd hat
      by_cases hmark : c = 34 ∨ c = 92
      · by_cases h34 : c = 34
        · have e1 : ((c : Int) == 34) = true := by rw [h34]; rfl
          have hpm := hm1 hmark
          clear h34 hmark hm1 hm2 hm3
          go_wp2_with (first
            | (go_at_call 28; refine (At.byte hN ?hl 92 _ (by rfl)).mono ?_; (case hl => omega); rintro e w3 ⟨rfl, hA2⟩; clear hN; have hN := hA2; clear hA2)
            | (go_at_call 29; refine (At.rune hN c hc31 ?hl).mono ?_; (case hl => rw [List.length_append]; simp; omega); rintro e w4 ⟨⟨_, rfl⟩, hA2⟩; clear hN; have hN := hA2; clear hA2))
          go_roundw
          case rel =>
            refine rel_step hl hne hlen hol hin ?_
            rw [hpm, ← List.append_assoc]
            exact hN
          case measure => rw [iterPos_of hN.2.1, hpos0]; have := adv_pos l; omega
        · have e1 : ((c : Int) == 34) = false := by rw [beq_eq_false_iff_ne]; omega
          have e2 : ((c : Int) == 92) = true := by rw [beq_iff_eq]; omega
          have hpm := hm1 hmark
          clear h34 hmark hm1 hm2 hm3
          go_wp2_with (first
            | (go_at_call 28; refine (At.byte hN ?hl 92 _ (by rfl)).mono ?_; (case hl => omega); rintro e w3 ⟨rfl, hA2⟩; clear hN; have hN := hA2; clear hA2)
            | (go_at_call 29; refine (At.rune hN c hc31 ?hl).mono ?_; (case hl => rw [List.length_append]; simp; omega); rintro e w4 ⟨⟨_, rfl⟩, hA2⟩; clear hN; have hN := hA2; clear hA2))
          go_roundw
          case rel =>
            refine rel_step hl hne hlen hol hin ?_
            rw [hpm, ← List.append_assoc]
            exact hN
          case measure => rw [iterPos_of hN.2.1, hpos0]; have := adv_pos l; omega
      · by_cases hlow : c < 32
        · have e1 : ((c : Int) == 34) = false := by rw [beq_eq_false_iff_ne]; omega
          have e2 : ((c : Int) == 92) = false := by rw [beq_eq_false_iff_ne]; omega
          have e3 : decide ((c : Int) < 32) = true := by rw [decide_eq_true_iff]; omega
          have hand := and15 c (by omega)
          have hmod : c % 16 < 16 := Nat.mod_lt _ (by omega)
          have hs4 : (⟨#[92, 117, 48, 48]⟩ : ByteArray).size = 4 := rfl
          have hs5 : (⟨#[92, 117, 48, 48]⟩ : ByteArray).data.toList.length = 4 := rfl
          go_wp2_with (first
            | (go_at_call 30; refine (At.string hN _ ?hl).mono ?_; (case hl => rw [hs4]; omega); rintro e w2 ⟨rfl, hA2⟩; clear hN; have hN := hA2; clear hA2)
            | (go_at_call 28; first
                | (refine (At.byte hN ?hl (hexOf (c / 16)) _ (by rw [hexAt])).mono ?_; (case hl => rw [List.length_append, hs5]; omega); rintro e w3 ⟨rfl, hA2⟩; clear hN; have hN := hA2; clear hA2)
                | (refine (At.byte hN ?hl (hexOf (c % 16)) _ (by rw [hexAt])).mono ?_; (case hl => rw [List.length_append, List.length_append, hs5]; simp; omega); rintro e w4 ⟨rfl, hA2⟩; clear hN; have hN := hA2; clear hA2)))
          go_roundw
          case rel =>
            refine rel_step hl hne hlen hol hin ?_
            rw [hm2 hmark hlow, ← List.append_assoc, ← List.append_assoc]
            exact hN
          case measure => rw [iterPos_of hN.2.1, hpos0]; have := adv_pos l; omega
        · have e1 : ((c : Int) == 34) = false := by rw [beq_eq_false_iff_ne]; omega
          have e2 : ((c : Int) == 92) = false := by rw [beq_eq_false_iff_ne]; omega
          have e3 : decide ((c : Int) < 32) = false := by rw [decide_eq_false_iff_not]; omega
          go_wp2_with (go_at_call 29; refine (At.rune hN c hc31 ?hl).mono ?_; (case hl => omega); rintro e w4 ⟨⟨_, rfl⟩, hA2⟩; clear hN; have hN := hA2; clear hA2)
          go_roundw
          case rel =>
            refine rel_step hl hne hlen hol hin ?_
            rw [hm3 hmark hlow]
            exact hN
          case measure => rw [iterPos_of hN.2.1, hpos0]; have := adv_pos l; omega
    · obtain rfl : pos = s.size := by omega
      have hnx : ∀ ty, (Instr.next (.pointer (some ⟨k, 0, none⟩)) true ty).run Tryd.prog wr = _ := fun ty => Lib.run_next_end_at wr k s s.size ty hat.2.1 hp
      have hdrop : s.data.toList.drop s.size = [] := List.drop_eq_nil_of_le (Nat.le_refl _)
      rw [hdrop, inner_nil, List.append_nil] at hin
      have hN := hat
      clear hat
      go_wp2_with (first
        | (go_at_call 28; refine (At.byte hN ?hl 34 _ (by rfl)).mono ?_; (case hl => omega); rintro e w3 ⟨rfl, hA2⟩; clear hN; have hN := hA2; clear hA2)
        | (go_at_call 26; refine (Tryd.Builder_String_any w.heap.size w.heap.size _ _ hN.1 hN.2.2.1.size).mono ?_; rintro e w5 ⟨rfl, hb5⟩))
      go_ret
      exact ⟨by rw [hin.out]; rfl, hN.2.2.1.trans hb5⟩
end Go.Proofs.YtldlkoncndlbhaaDoor.Qu
