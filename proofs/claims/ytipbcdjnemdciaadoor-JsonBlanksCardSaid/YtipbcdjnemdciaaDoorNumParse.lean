/- What the package-level variables hold that num.Parse reads; its contract (walked by hand). -/
import Derived.Test.YtipbcdjnemdciaaDoorProg
import Derived.Test.YtipbcdjnemdciaaDoorWWords
import Derived.Test.YtipbcdjnemdciaaDoorWMore
import Derived.Test.YtipbcdjnemdciaaDoorShelfJ
import Derived.Test.YtipbcdjnemdciaaDoorNumPlain
import Derived.WalkKit
import Derived.KernelRfl
import Derived.WalkLawsBesides
import Derived.WalkSpells
import Derived.Deep.LoopGhost
import Derived.Deep.DeepCutAuto
import Derived.Deep.CutBlock
import Derived.Lib.ConvBytes
import Derived.Lib.IndexBytes
namespace Go.Proofs.YtipbcdjnemdciaaDoor.Np
open Go.RowKit Go.Proofs.YtipbcdjnemdciaaDoorW.PrintWords

/-- What the tables and sentinels hold that Itoa and Atoi read. -/
def GlobN (w : World) : Prop := Lib.TabIs Tryd.prog w "internal/strconv.uint64pow10" .u64 Lib.pow10Tab ∧ (∃ tp p, w.var? Tryd.prog "strconv.ErrSyntax" = some #[.iface tp p]) ∧ (∃ tp p, w.var? Tryd.prog "strconv.ErrRange" = some #[.iface tp p])
theorem g_pow : Tryd.prog.globalNamed "internal/strconv.uint64pow10" = some 4 := by kernel_rfl
theorem g_syntax : Tryd.prog.globalNamed "strconv.ErrSyntax" = some 2 := by kernel_rfl
theorem g_range : Tryd.prog.globalNamed "strconv.ErrRange" = some 3 := by kernel_rfl
theorem var_below {n : String} {g : Nat} {cs : Array Value} {w w' : World} (hb : Below w.heap.size w w') (hg : Tryd.prog.globalNamed n = some g) (hne : 0 < cs.size) (hv : w.var? Tryd.prog n = some cs) : w'.var? Tryd.prog n = some cs := by
  refine var?_below hb hg ?_ hv
  have h := World.var?_cell hg hv 0
  rw [Array.getElem?_eq_getElem hne] at h
  exact World.block_lt_of_cell? w _ h
theorem GlobN.below {w w' : World} (h : GlobN w) (hb : Below w.heap.size w w') : GlobN w' := by
  obtain ⟨h1, ⟨t2, p2, h2⟩, t3, p3, h3⟩ := h
  exact ⟨var_below hb g_pow (by decide +kernel) h1, ⟨t2, p2, var_below hb g_syntax (by simp) h2⟩, t3, p3, var_below hb g_range (by simp) h3⟩
theorem GlobN.drewN {w : World} (h : GlobN w) (n : Nat) : GlobN (w.drewN n) := h.below (pw_below_drewN (Below.refl _ _) n)
theorem GlobN.drew {w : World} (h : GlobN w) : GlobN w.drew := h.below (below_drew (Below.refl _ _))

/-! num.Parse -/
theorem ret2_int {a b c d : Int} (h1 : a = c) (h2 : b = d) : Ending.returned (.tuple #[.int .i64 a, .int .i64 b]) = .returned (.tuple #[.int .i64 c, .int .i64 d]) := by rw [h1, h2]
theorem told_fits {v : Int} (h1 : -4611686018427387903 ≤ v) (h2 : v ≤ 4611686018427387903) : told (.ok v) = (v, 0) := by
  show (if _ then _ else _) = _
  rw [if_pos ⟨h1, h2⟩]
theorem told_not {v : Int} (h : v < -4611686018427387903 ∨ 4611686018427387903 < v) : told (.ok v) = (0, 10) := by
  show (if _ then _ else _) = _
  rw [if_neg (by omega)]
theorem all_of {D : ByteArray} (h : ∀ j, j < D.size → dig (D.data.toList.getD j 0) = true) : D.data.toList.all dig = true := by
  rw [List.all_eq_true]
  intro c hc
  obtain ⟨j, hj, rfl⟩ := List.getElem_of_mem hc
  have := h j (by rw [Array.length_toList] at hj; exact hj)
  rwa [List.getD_eq_getElem?_getD, List.getElem?_eq_getElem hj] at this
theorem not_all {D : ByteArray} {k : Nat} (hk : k < D.size) (h : dig (D.data.toList.getD k 0) = false) : D.data.toList.all dig = false := by
  rw [List.all_eq_false]
  have hk' : k < D.data.toList.length := by rw [Array.length_toList]; exact hk
  refine ⟨_, List.getElem_mem hk', ?_⟩
  rw [List.getD_eq_getElem?_getD, List.getElem?_eq_getElem hk'] at h
  simpa using h

set_option maxHeartbeats 2000000 in
set_option maxRecDepth 100000 in
theorem parse_neg (s D : ByteArray) (R1 R2 : Int) (w : World) (hG : Aside0 (GlobN w)) (hs : 0 < s.size) (hm : s.size ≤ 140737488351232) (h0 : ((s[0].toNat : Int) == 45) = true) (hne : (s.toList.isEmpty) = false)
    (hD : Aside0 (s.extract 1 s.size = D)) (hDm : D.size ≤ 140737488351232) (hD0 : 0 < D.size) (hDn : (D.toList.isEmpty) = false) (h48 : ((D[0].toNat : Int) == 48) = false)
    (hbad : Aside0 (D.data.toList.all dig = false → R1 = 0 ∧ R2 = 11)) (hgood : Aside0 (D.data.toList.all dig = true → (R1, R2) = told (Lib.atoiAll s.data.toList))) (hsyn : Aside0 (D.data.toList.all dig = true → spelt (Lib.atoiAll s.data.toList) = true)) :
    Calls Tryd.prog 30 #[.string s] w fun e w' => e = .returned (.tuple #[.int .i64 R1, .int .i64 R2]) ∧ Below w.heap.size w w' := by
  have kb := fun W => print_bytes (P := Tryd.prog) 9 22 5 Tryd.underlying9 Tryd.underlying22 Tryd.underlying5 D W
  have hGB : Aside0 (GlobN (Lib.bytesWorld w 5 D)) := ⟨hG.out.below (bytes_below (Below.refl _ _) (Nat.le_refl _) _ _)⟩
  have hBB : Aside0 (Below w.heap.size w (Lib.bytesWorld w 5 D)) := ⟨bytes_below (Below.refl _ _) (Nat.le_refl _) _ _⟩
  go_enter Tryd.func30, Tryd.ntmps30
  go_upto_region 4 with (fail)
  rw [hD.out]
  go_wp2_with fail
  go_loop [33] (fun i => ∃ k : Nat, k ≤ D.size ∧ i = .int .i64 k ∧ Aside0 (∀ j, j < k → dig (D.data.toList.getD j 0) = true)) (fun i => D.size - (intOf i).toNat)
  case atStart => exact ⟨0, Nat.zero_le _, rfl, ⟨fun j hj => absurd hj (by omega)⟩⟩
  case round =>
    obtain ⟨k, hk, rfl, hdig⟩ := hrel
    by_cases hlt : k < D.size
    · have hc := Lib.bytesWorld_cell w 5 D k hlt
      have HD : Aside0 (dig (D.data.toList.getD k 0) = decide (48 ≤ (D.data.toList.getD k 0).toNat ∧ (D.data.toList.getD k 0).toNat ≤ 57)) := ⟨rfl⟩
      have hall := @not_all D k hlt
      generalize hv : D.data.toList.getD k 0 = v at hc HD hall
      have HV := Aside0.mk hv
      have HA := Aside0.mk hall
      clear hv hall
      generalize hn : v.toNat = n at hc HD
      clear hn
      by_cases h1 : n < 48
      · go_wp2
        go_ret2
        have hb := HA.out (HD.out.trans (decide_eq_false (by omega)))
        exact ⟨ret2_int (hbad.out hb).1.symm (hbad.out hb).2.symm, hBB.out⟩
      · by_cases h2 : 57 < n
        · go_wp2
          go_ret2
          have hb := HA.out (HD.out.trans (decide_eq_false (by omega)))
          exact ⟨ret2_int (hbad.out hb).1.symm (hbad.out hb).2.symm, hBB.out⟩
        · have h48 : 48 ≤ n := by omega
          have h57 : n ≤ 57 := by omega
          go_wp2
          go_round
          case rel =>
            refine ⟨k + 1, by omega, by go_num, ⟨fun j hj => ?_⟩⟩
            by_cases hjk : j < k
            · exact hdig.out j hjk
            · obtain rfl : j = k := by omega
              rw [HV.out]
              exact HD.out.trans (decide_eq_true ⟨h48, h57⟩)
          case measure => simp [intOf]; omega
    · obtain rfl : k = D.size := by omega
      have hall := all_of hdig.out
      have HT := Aside0.mk (hgood.out hall)
      have HS := hsyn.out hall
      have hx : s.size ≤ 9223372036854775806 := by omega
      have hy : s.size ≤ 281474976710656 := by omega
      clear hall hbad hgood hsyn hdig hk hlt kb
      cases hend : Lib.atoiAll s.data.toList with
      | ok v =>
        have HE := Aside0.mk hend
        clear hend HS
        have HP := HT.out
        rw [HE.out] at HP
        clear HT
        by_cases hf1 : -4611686018427387903 ≤ v
        · by_cases hf2 : v ≤ 4611686018427387903
          · rw [told_fits hf1 hf2] at HP
            obtain ⟨rfl, rfl⟩ := Prod.mk.inj HP
            clear HP
            go_wp2_with (first | (go_at_call 36; refine (Tryd.strconv_Atoi_ok s hx R1 HE.out _).mono ?_; rintro e w1 ⟨rfl, hw⟩; have hb1 : Aside0 (Below w.heap.size w w1) := ⟨by rcases hw with rfl | ⟨t, rfl⟩; exact hBB.out; exact below_then hBB.out (below_size hBB.out) (bytes_below (Below.refl _ _) (Nat.le_refl _) _ _)⟩; clear hw) | (go_at_call 37; go_in))
            go_ret2
            exact ⟨rfl, hb1.out⟩
          · have hf3 : 4611686018427387903 < v := by omega
            rw [told_not (.inr hf3)] at HP
            have hfd : decide (v ≤ 4611686018427387903) = false := decide_eq_false hf2
            clear hf2
            obtain ⟨rfl, rfl⟩ := Prod.mk.inj HP
            clear HP
            go_wp2_with (first | (go_at_call 36; refine (Tryd.strconv_Atoi_ok s hx v HE.out _).mono ?_; rintro e w1 ⟨rfl, hw⟩; have hb1 : Aside0 (Below w.heap.size w w1) := ⟨by rcases hw with rfl | ⟨t, rfl⟩; exact hBB.out; exact below_then hBB.out (below_size hBB.out) (bytes_below (Below.refl _ _) (Nat.le_refl _) _ _)⟩; clear hw) | (go_at_call 37; go_in))
            go_ret2
            exact ⟨rfl, hb1.out⟩
        · have hf3 : v < -4611686018427387903 := by omega
          rw [told_not (.inl hf3)] at HP
          have hfd : decide (-4611686018427387903 ≤ v) = false := decide_eq_false hf1
          clear hf1
          obtain ⟨rfl, rfl⟩ := Prod.mk.inj HP
          clear HP
          go_wp2_with (first | (go_at_call 36; refine (Tryd.strconv_Atoi_ok s hx v HE.out _).mono ?_; rintro e w1 ⟨rfl, hw⟩; have hb1 : Aside0 (Below w.heap.size w w1) := ⟨by rcases hw with rfl | ⟨t, rfl⟩; exact hBB.out; exact below_then hBB.out (below_size hBB.out) (bytes_below (Below.refl _ _) (Nat.le_refl _) _ _)⟩; clear hw) | (go_at_call 37; go_in))
          go_ret2
          exact ⟨rfl, hb1.out⟩
      | range =>
        have HE := Aside0.mk hend
        clear hend HS
        have HP := HT.out
        rw [HE.out] at HP
        clear HT
        obtain ⟨rfl, rfl⟩ := Prod.mk.inj HP
        clear HP
        obtain ⟨_, _, tp, p, hvar⟩ := hGB.out
        have HVar := Aside0.mk hvar
        clear hvar
        go_wp2_with (go_at_call 36; refine (Tryd.strconv_Atoi_range_var s hy HE.out tp p _ HVar.out).mono ?_; rintro e w1 ⟨N, rfl, hN, hcell, hb⟩; have hb1 : Aside0 (Below w.heap.size w w1) := ⟨below_then hBB.out (below_size hBB.out) hb⟩; clear hN hcell hb)
        go_ret2
        exact ⟨rfl, hb1.out⟩
      | _ => rw [hend] at HS; cases HS

set_option maxHeartbeats 2000000 in
set_option maxRecDepth 100000 in
theorem parse_pos (s : ByteArray) (R1 R2 : Int) (w : World) (hG : Aside0 (GlobN w)) (hs : 0 < s.size) (hm : s.size ≤ 140737488351232) (h0 : ((s[0].toNat : Int) == 45) = false) (hne : (s.toList.isEmpty) = false)
    (h48 : ((s[0].toNat : Int) == 48) = false)
    (hbad : Aside0 (s.data.toList.all dig = false → R1 = 0 ∧ R2 = 11)) (hgood : Aside0 (s.data.toList.all dig = true → (R1, R2) = told (Lib.atoiAll s.data.toList))) (hsyn : Aside0 (s.data.toList.all dig = true → spelt (Lib.atoiAll s.data.toList) = true)) :
    Calls Tryd.prog 30 #[.string s] w fun e w' => e = .returned (.tuple #[.int .i64 R1, .int .i64 R2]) ∧ Below w.heap.size w w' := by
  have kb := fun W => print_bytes (P := Tryd.prog) 9 22 5 Tryd.underlying9 Tryd.underlying22 Tryd.underlying5 s W
  have hGB : Aside0 (GlobN (Lib.bytesWorld w 5 s)) := ⟨hG.out.below (bytes_below (Below.refl _ _) (Nat.le_refl _) _ _)⟩
  have hBB : Aside0 (Below w.heap.size w (Lib.bytesWorld w 5 s)) := ⟨bytes_below (Below.refl _ _) (Nat.le_refl _) _ _⟩
  go_enter Tryd.func30, Tryd.ntmps30
  go_upto_region 4 with (fail)
  skip
  go_wp2_with fail
  go_loop [33] (fun i => ∃ k : Nat, k ≤ s.size ∧ i = .int .i64 k ∧ Aside0 (∀ j, j < k → dig (s.data.toList.getD j 0) = true)) (fun i => s.size - (intOf i).toNat)
  case atStart => exact ⟨0, Nat.zero_le _, rfl, ⟨fun j hj => absurd hj (by omega)⟩⟩
  case round =>
    obtain ⟨k, hk, rfl, hdig⟩ := hrel
    by_cases hlt : k < s.size
    · have hc := Lib.bytesWorld_cell w 5 s k hlt
      have HD : Aside0 (dig (s.data.toList.getD k 0) = decide (48 ≤ (s.data.toList.getD k 0).toNat ∧ (s.data.toList.getD k 0).toNat ≤ 57)) := ⟨rfl⟩
      have hall := @not_all s k hlt
      generalize hv : s.data.toList.getD k 0 = v at hc HD hall
      have HV := Aside0.mk hv
      have HA := Aside0.mk hall
      clear hv hall
      generalize hn : v.toNat = n at hc HD
      clear hn
      by_cases h1 : n < 48
      · go_wp2
        go_ret2
        have hb := HA.out (HD.out.trans (decide_eq_false (by omega)))
        exact ⟨ret2_int (hbad.out hb).1.symm (hbad.out hb).2.symm, hBB.out⟩
      · by_cases h2 : 57 < n
        · go_wp2
          go_ret2
          have hb := HA.out (HD.out.trans (decide_eq_false (by omega)))
          exact ⟨ret2_int (hbad.out hb).1.symm (hbad.out hb).2.symm, hBB.out⟩
        · have h48 : 48 ≤ n := by omega
          have h57 : n ≤ 57 := by omega
          go_wp2
          go_round
          case rel =>
            refine ⟨k + 1, by omega, by go_num, ⟨fun j hj => ?_⟩⟩
            by_cases hjk : j < k
            · exact hdig.out j hjk
            · obtain rfl : j = k := by omega
              rw [HV.out]
              exact HD.out.trans (decide_eq_true ⟨h48, h57⟩)
          case measure => simp [intOf]; omega
    · obtain rfl : k = s.size := by omega
      have hall := all_of hdig.out
      have HT := Aside0.mk (hgood.out hall)
      have HS := hsyn.out hall
      have hx : s.size ≤ 9223372036854775806 := by omega
      have hy : s.size ≤ 281474976710656 := by omega
      clear hall hbad hgood hsyn hdig hk hlt kb
      cases hend : Lib.atoiAll s.data.toList with
      | ok v =>
        have HE := Aside0.mk hend
        clear hend HS
        have HP := HT.out
        rw [HE.out] at HP
        clear HT
        by_cases hf1 : -4611686018427387903 ≤ v
        · by_cases hf2 : v ≤ 4611686018427387903
          · rw [told_fits hf1 hf2] at HP
            obtain ⟨rfl, rfl⟩ := Prod.mk.inj HP
            clear HP
            go_wp2_with (first | (go_at_call 36; refine (Tryd.strconv_Atoi_ok s hx R1 HE.out _).mono ?_; rintro e w1 ⟨rfl, hw⟩; have hb1 : Aside0 (Below w.heap.size w w1) := ⟨by rcases hw with rfl | ⟨t, rfl⟩; exact hBB.out; exact below_then hBB.out (below_size hBB.out) (bytes_below (Below.refl _ _) (Nat.le_refl _) _ _)⟩; clear hw) | (go_at_call 37; go_in))
            go_ret2
            exact ⟨rfl, hb1.out⟩
          · have hf3 : 4611686018427387903 < v := by omega
            rw [told_not (.inr hf3)] at HP
            have hfd : decide (v ≤ 4611686018427387903) = false := decide_eq_false hf2
            clear hf2
            obtain ⟨rfl, rfl⟩ := Prod.mk.inj HP
            clear HP
            go_wp2_with (first | (go_at_call 36; refine (Tryd.strconv_Atoi_ok s hx v HE.out _).mono ?_; rintro e w1 ⟨rfl, hw⟩; have hb1 : Aside0 (Below w.heap.size w w1) := ⟨by rcases hw with rfl | ⟨t, rfl⟩; exact hBB.out; exact below_then hBB.out (below_size hBB.out) (bytes_below (Below.refl _ _) (Nat.le_refl _) _ _)⟩; clear hw) | (go_at_call 37; go_in))
            go_ret2
            exact ⟨rfl, hb1.out⟩
        · have hf3 : v < -4611686018427387903 := by omega
          rw [told_not (.inl hf3)] at HP
          have hfd : decide (-4611686018427387903 ≤ v) = false := decide_eq_false hf1
          clear hf1
          obtain ⟨rfl, rfl⟩ := Prod.mk.inj HP
          clear HP
          go_wp2_with (first | (go_at_call 36; refine (Tryd.strconv_Atoi_ok s hx v HE.out _).mono ?_; rintro e w1 ⟨rfl, hw⟩; have hb1 : Aside0 (Below w.heap.size w w1) := ⟨by rcases hw with rfl | ⟨t, rfl⟩; exact hBB.out; exact below_then hBB.out (below_size hBB.out) (bytes_below (Below.refl _ _) (Nat.le_refl _) _ _)⟩; clear hw) | (go_at_call 37; go_in))
          go_ret2
          exact ⟨rfl, hb1.out⟩
      | range =>
        have HE := Aside0.mk hend
        clear hend HS
        have HP := HT.out
        rw [HE.out] at HP
        clear HT
        obtain ⟨rfl, rfl⟩ := Prod.mk.inj HP
        clear HP
        obtain ⟨_, _, tp, p, hvar⟩ := hGB.out
        have HVar := Aside0.mk hvar
        clear hvar
        go_wp2_with (go_at_call 36; refine (Tryd.strconv_Atoi_range_var s hy HE.out tp p _ HVar.out).mono ?_; rintro e w1 ⟨N, rfl, hN, hcell, hb⟩; have hb1 : Aside0 (Below w.heap.size w w1) := ⟨below_then hBB.out (below_size hBB.out) hb⟩; clear hN hcell hb)
        go_ret2
        exact ⟨rfl, hb1.out⟩
      | _ => rw [hend] at HS; cases HS

set_option maxHeartbeats 2000000 in
set_option maxRecDepth 100000 in
theorem parse_zero (s : ByteArray) (R1 R2 : Int) (w : World) (hG : Aside0 (GlobN w)) (hs : 0 < s.size) (hm : s.size ≤ 140737488351232) (h0 : ((s[0].toNat : Int) == 45) = false) (hne : (s.toList.isEmpty) = false)
    (h48 : ((s[0].toNat : Int) == 48) = true) (hz : (!s.toList == [48]) = false)
    (hbad : Aside0 (s.data.toList.all dig = false → R1 = 0 ∧ R2 = 11)) (hgood : Aside0 (s.data.toList.all dig = true → (R1, R2) = told (Lib.atoiAll s.data.toList))) (hsyn : Aside0 (s.data.toList.all dig = true → spelt (Lib.atoiAll s.data.toList) = true)) :
    Calls Tryd.prog 30 #[.string s] w fun e w' => e = .returned (.tuple #[.int .i64 R1, .int .i64 R2]) ∧ Below w.heap.size w w' := by
  have kb := fun W => print_bytes (P := Tryd.prog) 9 22 5 Tryd.underlying9 Tryd.underlying22 Tryd.underlying5 s W
  have hGB : Aside0 (GlobN (Lib.bytesWorld w 5 s)) := ⟨hG.out.below (bytes_below (Below.refl _ _) (Nat.le_refl _) _ _)⟩
  have hBB : Aside0 (Below w.heap.size w (Lib.bytesWorld w 5 s)) := ⟨bytes_below (Below.refl _ _) (Nat.le_refl _) _ _⟩
  go_enter Tryd.func30, Tryd.ntmps30
  go_upto_region 4 with (fail)
  skip
  go_wp2_with fail
  go_loop [33] (fun i => ∃ k : Nat, k ≤ s.size ∧ i = .int .i64 k ∧ Aside0 (∀ j, j < k → dig (s.data.toList.getD j 0) = true)) (fun i => s.size - (intOf i).toNat)
  case atStart => exact ⟨0, Nat.zero_le _, rfl, ⟨fun j hj => absurd hj (by omega)⟩⟩
  case round =>
    obtain ⟨k, hk, rfl, hdig⟩ := hrel
    by_cases hlt : k < s.size
    · have hc := Lib.bytesWorld_cell w 5 s k hlt
      have HD : Aside0 (dig (s.data.toList.getD k 0) = decide (48 ≤ (s.data.toList.getD k 0).toNat ∧ (s.data.toList.getD k 0).toNat ≤ 57)) := ⟨rfl⟩
      have hall := @not_all s k hlt
      generalize hv : s.data.toList.getD k 0 = v at hc HD hall
      have HV := Aside0.mk hv
      have HA := Aside0.mk hall
      clear hv hall
      generalize hn : v.toNat = n at hc HD
      clear hn
      by_cases h1 : n < 48
      · go_wp2
        go_ret2
        have hb := HA.out (HD.out.trans (decide_eq_false (by omega)))
        exact ⟨ret2_int (hbad.out hb).1.symm (hbad.out hb).2.symm, hBB.out⟩
      · by_cases h2 : 57 < n
        · go_wp2
          go_ret2
          have hb := HA.out (HD.out.trans (decide_eq_false (by omega)))
          exact ⟨ret2_int (hbad.out hb).1.symm (hbad.out hb).2.symm, hBB.out⟩
        · have h48 : 48 ≤ n := by omega
          have h57 : n ≤ 57 := by omega
          go_wp2
          go_round
          case rel =>
            refine ⟨k + 1, by omega, by go_num, ⟨fun j hj => ?_⟩⟩
            by_cases hjk : j < k
            · exact hdig.out j hjk
            · obtain rfl : j = k := by omega
              rw [HV.out]
              exact HD.out.trans (decide_eq_true ⟨h48, h57⟩)
          case measure => simp [intOf]; omega
    · obtain rfl : k = s.size := by omega
      have hall := all_of hdig.out
      have HT := Aside0.mk (hgood.out hall)
      have HS := hsyn.out hall
      have hx : s.size ≤ 9223372036854775806 := by omega
      have hy : s.size ≤ 281474976710656 := by omega
      clear hall hbad hgood hsyn hdig hk hlt kb
      cases hend : Lib.atoiAll s.data.toList with
      | ok v =>
        have HE := Aside0.mk hend
        clear hend HS
        have HP := HT.out
        rw [HE.out] at HP
        clear HT
        by_cases hf1 : -4611686018427387903 ≤ v
        · by_cases hf2 : v ≤ 4611686018427387903
          · rw [told_fits hf1 hf2] at HP
            obtain ⟨rfl, rfl⟩ := Prod.mk.inj HP
            clear HP
            go_wp2_with (first | (go_at_call 36; refine (Tryd.strconv_Atoi_ok s hx R1 HE.out _).mono ?_; rintro e w1 ⟨rfl, hw⟩; have hb1 : Aside0 (Below w.heap.size w w1) := ⟨by rcases hw with rfl | ⟨t, rfl⟩; exact hBB.out; exact below_then hBB.out (below_size hBB.out) (bytes_below (Below.refl _ _) (Nat.le_refl _) _ _)⟩; clear hw) | (go_at_call 37; go_in))
            go_ret2
            exact ⟨rfl, hb1.out⟩
          · have hf3 : 4611686018427387903 < v := by omega
            rw [told_not (.inr hf3)] at HP
            have hfd : decide (v ≤ 4611686018427387903) = false := decide_eq_false hf2
            clear hf2
            obtain ⟨rfl, rfl⟩ := Prod.mk.inj HP
            clear HP
            go_wp2_with (first | (go_at_call 36; refine (Tryd.strconv_Atoi_ok s hx v HE.out _).mono ?_; rintro e w1 ⟨rfl, hw⟩; have hb1 : Aside0 (Below w.heap.size w w1) := ⟨by rcases hw with rfl | ⟨t, rfl⟩; exact hBB.out; exact below_then hBB.out (below_size hBB.out) (bytes_below (Below.refl _ _) (Nat.le_refl _) _ _)⟩; clear hw) | (go_at_call 37; go_in))
            go_ret2
            exact ⟨rfl, hb1.out⟩
        · have hf3 : v < -4611686018427387903 := by omega
          rw [told_not (.inl hf3)] at HP
          have hfd : decide (-4611686018427387903 ≤ v) = false := decide_eq_false hf1
          clear hf1
          obtain ⟨rfl, rfl⟩ := Prod.mk.inj HP
          clear HP
          go_wp2_with (first | (go_at_call 36; refine (Tryd.strconv_Atoi_ok s hx v HE.out _).mono ?_; rintro e w1 ⟨rfl, hw⟩; have hb1 : Aside0 (Below w.heap.size w w1) := ⟨by rcases hw with rfl | ⟨t, rfl⟩; exact hBB.out; exact below_then hBB.out (below_size hBB.out) (bytes_below (Below.refl _ _) (Nat.le_refl _) _ _)⟩; clear hw) | (go_at_call 37; go_in))
          go_ret2
          exact ⟨rfl, hb1.out⟩
      | range =>
        have HE := Aside0.mk hend
        clear hend HS
        have HP := HT.out
        rw [HE.out] at HP
        clear HT
        obtain ⟨rfl, rfl⟩ := Prod.mk.inj HP
        clear HP
        obtain ⟨_, _, tp, p, hvar⟩ := hGB.out
        have HVar := Aside0.mk hvar
        clear hvar
        go_wp2_with (go_at_call 36; refine (Tryd.strconv_Atoi_range_var s hy HE.out tp p _ HVar.out).mono ?_; rintro e w1 ⟨N, rfl, hN, hcell, hb⟩; have hb1 : Aside0 (Below w.heap.size w w1) := ⟨below_then hBB.out (below_size hBB.out) hb⟩; clear hN hcell hb)
        go_ret2
        exact ⟨rfl, hb1.out⟩
      | _ => rw [hend] at HS; cases HS


set_option maxHeartbeats 400000 in
theorem parse_empty (w : World) :
    Calls Tryd.prog 30 #[.string ⟨#[]⟩] w fun e w' => e = .returned (.tuple #[.int .i64 0, .int .i64 11]) ∧ Below w.heap.size w w' := by
  have hB := Aside0.mk (Below.refl w.heap.size w)
  go_enter Tryd.func30, Tryd.ntmps30
  go_wp2
  go_ret2
  exact ⟨rfl, hB.out⟩
set_option maxHeartbeats 400000 in
theorem parse_minus (s : ByteArray) (w : World) (hs : 0 < s.size) (h0 : ((s[0].toNat : Int) == 45) = true) (hne : (s.toList.isEmpty) = false) (hD : Aside0 (s.extract 1 s.size = ⟨#[]⟩)) :
    Calls Tryd.prog 30 #[.string s] w fun e w' => e = .returned (.tuple #[.int .i64 0, .int .i64 11]) ∧ Below w.heap.size w w' := by
  have hB := Aside0.mk (Below.refl w.heap.size w)
  go_enter Tryd.func30, Tryd.ntmps30
  go_upto_region 4 with (fail)
  rw [hD.out]
  go_wp2
  go_ret2
  exact ⟨rfl, hB.out⟩
set_option maxHeartbeats 400000 in
theorem parse_minus_zero (s D : ByteArray) (w : World) (hs : 0 < s.size) (h0 : ((s[0].toNat : Int) == 45) = true) (hne : (s.toList.isEmpty) = false) (hD : Aside0 (s.extract 1 s.size = D)) (hD0 : 0 < D.size) (hDn : (D.toList.isEmpty) = false) (h48 : ((D[0].toNat : Int) == 48) = true) (hz : (!s.toList == [48]) = true) :
    Calls Tryd.prog 30 #[.string s] w fun e w' => e = .returned (.tuple #[.int .i64 0, .int .i64 11]) ∧ Below w.heap.size w w' := by
  have hB := Aside0.mk (Below.refl w.heap.size w)
  go_enter Tryd.func30, Tryd.ntmps30
  go_upto_region 4 with (fail)
  rw [hD.out]
  go_wp2
  go_ret2
  exact ⟨rfl, hB.out⟩
set_option maxHeartbeats 400000 in
theorem parse_zeros (s : ByteArray) (w : World) (hs : 0 < s.size) (h0 : ((s[0].toNat : Int) == 45) = false) (hne : (s.toList.isEmpty) = false) (h48 : ((s[0].toNat : Int) == 48) = true) (hz : (!s.toList == [48]) = true) :
    Calls Tryd.prog 30 #[.string s] w fun e w' => e = .returned (.tuple #[.int .i64 0, .int .i64 11]) ∧ Below w.heap.size w w' := by
  have hB := Aside0.mk (Below.refl w.heap.size w)
  go_enter Tryd.func30, Tryd.ntmps30
  go_wp2
  go_ret2
  exact ⟨rfl, hB.out⟩

/-! The plain side: bytes as a list. -/
theorem digits_spelt : ∀ (l : List UInt8) (acc : Nat), l.all dig = true → (∃ u, Lib.parseUint10 acc l = .ok u) ∨ Lib.parseUint10 acc l = .range
  | [], acc, _ => .inl ⟨acc, rfl⟩
  | c :: r, acc, h => by
    rw [List.all_cons, Bool.and_eq_true] at h
    have hc : 48 ≤ c.toNat ∧ c.toNat ≤ 57 := of_decide_eq_true h.1
    unfold Lib.parseUint10
    rw [if_pos hc]
    split
    · exact .inr rfl
    · split
      · exact .inr rfl
      · exact digits_spelt r _ h.2
theorem bare_spelt {l : List UInt8} (hne : bare l ≠ []) (h : (bare l).all dig = true) : spelt (Lib.atoiAll l) = true := by
  cases l with
  | nil => exact absurd rfl hne
  | cons c r =>
    unfold Lib.atoiAll
    simp only
    have hb : bare (c :: r) = if c.toNat = 43 ∨ c.toNat = 45 then r else c :: r := by
      unfold bare at h ⊢
      by_cases h45 : c = 45
      · subst h45; simp
      · have e : ¬ (c :: r).head? = some 45 := by simp [h45]
        rw [if_neg e] at h ⊢
        rw [List.all_cons, Bool.and_eq_true] at h
        have hc : 48 ≤ c.toNat ∧ c.toNat ≤ 57 := of_decide_eq_true h.1
        rw [if_neg (by omega)]
    rw [hb] at h hne
    have hp : Lib.parseMag (if c.toNat = 43 ∨ c.toNat = 45 then r else c :: r) = Lib.parseUint10 0 (if c.toNat = 43 ∨ c.toNat = 45 then r else c :: r) := by
      unfold Lib.parseMag
      rw [if_neg hne]
    rw [hp]
    rcases digits_spelt _ 0 h with ⟨u, hu⟩ | hu
    · rw [hu]
      simp only
      split
      · rfl
      · split <;> rfl
    · rw [hu]; rfl

theorem size_eq (s : ByteArray) : s.data.toList.length = s.size := data_length s
theorem get_zero (s : ByteArray) (h : 0 < s.size) : s.data.toList.head? = some s[0] := by
  rw [List.head?_eq_getElem?, List.getElem?_eq_getElem (by rw [size_eq]; exact h)]
  rfl
theorem empty_of (s : ByteArray) (h : s.size = 0) : s = ⟨#[]⟩ := by
  cases s with
  | mk d => congr 1; exact Array.eq_empty_of_size_eq_zero h
theorem isEmpty_false (s : ByteArray) (h : 0 < s.size) : s.toList.isEmpty = false := by
  rw [Lib.toList_data]
  cases hl : s.data.toList with
  | nil => have := size_eq s; rw [hl] at this; simp at this; omega
  | cons a b => rfl
theorem byte_45 (b : UInt8) : ((b.toNat : Int) == 45) = decide (b = 45) := by
  rw [Bool.eq_iff_iff, beq_iff_eq, decide_eq_true_iff]
  constructor
  · intro h; apply UInt8.toNat_inj.1; show b.toNat = 45; omega
  · intro h; subst h; rfl
theorem byte_48 (b : UInt8) : ((b.toNat : Int) == 48) = decide (b = 48) := by
  rw [Bool.eq_iff_iff, beq_iff_eq, decide_eq_true_iff]
  constructor
  · intro h; apply UInt8.toNat_inj.1; show b.toNat = 48; omega
  · intro h; subst h; rfl

def num_Parse.f (a0 : ByteArray) : Option (Int × Int) := if a0.size ≤ 140737488351232 then some (parseG a0.data.toList) else none
theorem num_Parse.calls (a0 : ByteArray) (r1 : Int) (r2 : Int) (w : World) (hG : Aside0 (GlobN w)) (h : num_Parse.f a0 = some (r1, r2)) :
    Calls Tryd.prog 30 #[.string a0] w fun e w' => e = .returned (.tuple #[.int .i64 r1, .int .i64 r2]) ∧ Below w.heap.size w w' := by
  unfold num_Parse.f at h
  by_cases hm : a0.size ≤ 140737488351232
  · rw [if_pos hm] at h
    have h := Option.some.inj h
    rcases Nat.eq_zero_or_pos a0.size with hs | hs
    · obtain rfl := empty_of a0 hs
      obtain ⟨rfl, rfl⟩ := Prod.mk.inj h
      exact parse_empty w
    · have hne := isEmpty_false a0 hs
      have hh := get_zero a0 hs
      have hlist : (!a0.toList == [48]) = !decide (a0.data.toList = [48]) := by
        rw [Lib.toList_data]
        congr 1
        rw [Bool.eq_iff_iff, beq_iff_eq, decide_eq_true_iff]
      unfold parseG at h
      by_cases h45 : a0[0] = 45
      · have hb : bare a0.data.toList = a0.data.toList.tail := by unfold bare; rw [if_pos (by rw [hh, h45])]
        have hnot : a0.data.toList ≠ [48] := fun e => by
          rw [e] at hh
          simp [h45] at hh
        have hx : (a0.extract 1 a0.size).data.toList = a0.data.toList.tail := by
          rw [Lib.extract_to_end]
          exact List.drop_one
        obtain ⟨D, hD⟩ : ∃ D, a0.extract 1 a0.size = D := ⟨_, rfl⟩
        rw [hD] at hx
        rw [hb, ← hx] at h
        have hDm : D.size ≤ 140737488351232 := by
          have := size_eq D
          rw [hx, List.length_tail, size_eq] at this
          omega
        rcases Nat.eq_zero_or_pos D.size with hD0 | hD0
        · obtain rfl := empty_of D hD0
          obtain ⟨rfl, rfl⟩ := Prod.mk.inj h
          exact parse_minus a0 w hs (by rw [byte_45, decide_eq_true h45]) hne ⟨hD⟩
        · have hDh := get_zero D hD0
          have hDne : D.data.toList ≠ [] := fun e => by rw [e] at hDh; cases hDh
          rw [if_neg hDne] at h
          by_cases h48 : D[0] = 48
          · rw [if_pos ⟨by rw [hDh, h48], hnot⟩] at h
            obtain ⟨rfl, rfl⟩ := Prod.mk.inj h
            exact parse_minus_zero a0 D w hs (by rw [byte_45, decide_eq_true h45]) hne ⟨hD⟩ hD0 (isEmpty_false D hD0) (by rw [byte_48, decide_eq_true h48]) (by rw [hlist, decide_eq_false hnot]; rfl)
          · rw [if_neg (fun e => h48 (by have := e.1; rw [hDh] at this; exact Option.some.inj this))] at h
            refine parse_neg a0 D r1 r2 w hG hs hm (by rw [byte_45, decide_eq_true h45]) hne ⟨hD⟩ hDm hD0 (isEmpty_false D hD0) (by rw [byte_48, decide_eq_false h48]) ⟨fun e => ?_⟩ ⟨fun e => ?_⟩ ⟨fun e => ?_⟩
            · rw [if_neg (by rw [e]; decide)] at h
              obtain ⟨rfl, rfl⟩ := Prod.mk.inj h
              exact ⟨rfl, rfl⟩
            · rw [if_pos e] at h
              exact h.symm
            · exact bare_spelt (by rw [hb, ← hx]; exact hDne) (by rw [hb, ← hx]; exact e)
      · have hb : bare a0.data.toList = a0.data.toList := by unfold bare; rw [if_neg (by rw [hh]; simpa using h45)]
        have hne2 : a0.data.toList ≠ [] := fun e => by rw [e] at hh; cases hh
        rw [hb, if_neg hne2] at h
        by_cases h48 : a0[0] = 48
        · by_cases hz : a0.data.toList = [48]
          · rw [if_neg (fun e => e.2 hz)] at h
            refine parse_zero a0 r1 r2 w hG hs hm (by rw [byte_45, decide_eq_false h45]) hne (by rw [byte_48, decide_eq_true h48]) (by rw [hlist, decide_eq_true hz]; rfl) ⟨fun e => ?_⟩ ⟨fun e => ?_⟩ ⟨fun e => ?_⟩
            · rw [if_neg (by rw [e]; decide)] at h
              obtain ⟨rfl, rfl⟩ := Prod.mk.inj h
              exact ⟨rfl, rfl⟩
            · rw [if_pos e] at h
              exact h.symm
            · exact bare_spelt (by rw [hb]; exact hne2) (by rw [hb]; exact e)
          · rw [if_pos ⟨by rw [hh, h48], hz⟩] at h
            obtain ⟨rfl, rfl⟩ := Prod.mk.inj h
            exact parse_zeros a0 w hs (by rw [byte_45, decide_eq_false h45]) hne (by rw [byte_48, decide_eq_true h48]) (by rw [hlist, decide_eq_false hz]; rfl)
        · rw [if_neg (fun e => h48 (by have := e.1; rw [hh] at this; exact Option.some.inj this))] at h
          refine parse_pos a0 r1 r2 w hG hs hm (by rw [byte_45, decide_eq_false h45]) hne (by rw [byte_48, decide_eq_false h48]) ⟨fun e => ?_⟩ ⟨fun e => ?_⟩ ⟨fun e => ?_⟩
          · rw [if_neg (by rw [e]; decide)] at h
            obtain ⟨rfl, rfl⟩ := Prod.mk.inj h
            exact ⟨rfl, rfl⟩
          · rw [if_pos e] at h
            exact h.symm
          · exact bare_spelt (by rw [hb]; exact hne2) (by rw [hb]; exact e)
  · rw [if_neg hm] at h
    cases h

end Go.Proofs.YtipbcdjnemdciaaDoor.Np
