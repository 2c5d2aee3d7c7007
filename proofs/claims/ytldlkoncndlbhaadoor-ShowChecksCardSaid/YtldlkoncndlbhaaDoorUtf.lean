/- The document's 'UTF', walked by hand: whether a text is UTF-8. -/
import Derived.Test.YtldlkoncndlbhaaDoorRune
import Derived.Deep.CutBlock
import Derived.Lib.IndexBytes
namespace Go.Proofs.YtldlkoncndlbhaaDoor.PRa
open Go.RowKit Go.Proofs.YtldlkoncndlbhaaDoorW.PrintWords Go.Proofs.YtldlkoncndlbhaaDoorW.PrintLast Go.Proofs.YtldlkoncndlbhaaDoorW.PrintMore Go.Proofs.YtldlkoncndlbhaaDoor.Utf

theorem bytes_map (s : ByteArray) : bytesOf s = s.data.toList.map fun b => (b.toNat : Int) := rfl
/-- A tail of the bytes that '[]byte(s)' made, as a slice that is read. -/
theorem tail_reads (W : World) (s : ByteArray) (i : Nat) (hi : i ≤ s.size) (hs : s.size ≤ 140737488351232) (e : TypeId) :
    Kd.C (Kd.int .u8) (Lib.bytesWorld W e s) (some ⟨W.heap.size, i, none⟩) (s.data.toList.drop i).length ((s.data.toList.drop i).map fun b => (b.toNat : Int)) := by
  refine Kd.C_of_reads (d := (0 : Int)) (h1 := fun _ => rfl) ?_
  refine ⟨by rw [List.length_map], by rw [List.length_drop, data_length]; omega, fun _ => ⟨_, rfl, fun j hj => ?_⟩⟩
  rw [List.length_drop, data_length] at hj
  have ha : (⟨W.heap.size, i, none⟩ : Addr).add j = ⟨W.heap.size, i + j, none⟩ := by unfold Addr.add; split <;> simp_all
  rw [ha, Lib.bytesWorld_cell W e s (i + j) (by omega)]
  congr 2
  have hij : i + j < s.data.toList.length := by rw [data_length]; omega
  rw [List.getD_eq_getElem?_getD, List.getD_eq_getElem?_getD, List.getElem?_map, List.getElem?_drop, List.getElem?_eq_getElem hij]
  rfl

theorem tail_drewN (W : World) (s : ByteArray) (i : Nat) (hi : i ≤ s.size) (hs : s.size ≤ 140737488351232) (e : TypeId) (n : Nat) :
    Kd.C (Kd.int .u8) ((Lib.bytesWorld W e s).drewN n) (some ⟨W.heap.size, i, none⟩) (s.data.toList.drop i).length ((s.data.toList.drop i).map fun b => (b.toNat : Int)) := by
  exact Kd.C_below (tail_reads W s i hi hs e) (pw_below_drewN (Below.refl _ _) n)
/-- The document's 'Rune' at a tail of a text's bytes. -/
theorem rune_call (w : World) (hG : Aside0 (Glob w)) (s : ByteArray) (k cp nd r : Nat) (hk : k < s.size) (hs : s.size ≤ 140737488351232) (hc : s.size ≤ cp) (hr : wid (s.data.toList.drop k) = r) :
    Calls Tryd.prog 36 #[.slice (some ⟨w.heap.size, k, none⟩) (s.size - k) (cp - k)] ((Lib.bytesWorld w 5 s).drewN nd) fun e w' => e = .returned (.int .i64 r) ∧ Drawn0 ((Lib.bytesWorld w 5 s).drewN nd) w' := by
  have hlen : (s.data.toList.drop k).length = s.size - k := by rw [List.length_drop, data_length]
  have hne : s.data.toList.drop k ≠ [] := fun e => by
    have := congrArg List.length e
    rw [hlen] at this
    simp at this
    omega
  have hf := rune_tells (s.data.toList.drop k) hne (by omega)
  rw [hr] at hf
  have hGB : Glob (Lib.bytesWorld w 5 s) := hG.out.below (bytes_below (Below.refl _ _) (Nat.le_refl _) _ _)
  have hT := tail_drewN w s k (by omega) hs 5 nd
  have hl2 : ((s.data.toList.drop k).map fun b => (b.toNat : Int)).length = s.size - k := by rw [List.length_map, hlen]
  have h := haulierref02_Rune.calls 10 (some ⟨w.heap.size, k, none⟩) (cp - k) ((s.data.toList.drop k).map fun b => (b.toNat : Int)) (r : Int) ((Lib.bytesWorld w 5 s).drewN nd) ⟨hGB.drewN nd⟩ (by rw [List.length_map]; exact hT) (by rw [hl2]; omega) hf
  rw [hl2] at h
  exact h

set_option maxHeartbeats 2000000 in
set_option maxRecDepth 100000 in
theorem utf_walk (s : ByteArray) (w : World) (hG : Aside0 (Glob w)) (hm : s.size ≤ 140737488351232) :
    Calls Tryd.prog 20 #[.string s] w fun e w' => e = .returned (.bool (utf s.data.toList)) ∧ Below w.heap.size w w' := by
  have kb := fun W => print_bytes (P := Tryd.prog) 9 30 5 Tryd.underlying9 Tryd.underlying30 Tryd.underlying5 s W
  have hGB : Aside0 (Glob (Lib.bytesWorld w 5 s)) := ⟨hG.out.below (bytes_below (Below.refl _ _) (Nat.le_refl _) _ _)⟩
  have hBB : Aside0 (Below w.heap.size w (Lib.bytesWorld w 5 s)) := ⟨bytes_below (Below.refl _ _) (Nat.le_refl _) _ _⟩
  go_enter Tryd.func20, Tryd.ntmps20
  go_wp2_with fail
  clear kb
  have hcap := grownCap_ge w s.size 0 5
  generalize grownCap w s.size 0 5 = cp at *
  go_loopw [4] (fun i wr => ∃ k : Nat, k ≤ s.size ∧ i = .int .i64 k ∧ Aside0 (utf s.data.toList = utf (s.data.toList.drop k)) ∧ Drawn0 (Lib.bytesWorld w 5 s) wr) (fun i _ => s.size - (intOf i).toNat)
  case atStart => exact ⟨0, Nat.zero_le _, rfl, ⟨by rw [List.drop_zero]⟩, Drawn0.refl _⟩
  case round =>
    obtain ⟨k, hk, rfl, hu, hd⟩ := hrel
    obtain ⟨nd, rfl⟩ := hd.out
    clear hd
    by_cases hlt : k < s.size
    · have hne : s.data.toList.drop k ≠ [] := fun e => by
        have := congrArg List.length e
        rw [List.length_drop, data_length] at this
        simp at this
        omega
      have hwl := wid_le (s.data.toList.drop k)
      rw [List.length_drop, data_length] at hwl
      have HN := Aside0.mk hne
      clear hne
      generalize hwd : wid (s.data.toList.drop k) = n at *
      have HC := Aside0.mk (rune_call w hG s k cp nd n hlt hm hcap hwd)
      have HW := Aside0.mk hwd
      clear hwd
      have hlt2 : k < cp := by omega
      by_cases hn0 : n = 0
      · subst hn0
        have hfin := Aside0.mk (show utf s.data.toList = false from by rw [hu.out]; unfold utf; rw [dif_neg HN.out, dif_pos HW.out])
        go_wp2_with (go_at_call 36; refine HC.out.mono ?_; rintro e w1 ⟨rfl, hd⟩; obtain ⟨nd2, rfl⟩ := hd.out; clear hd)
        go_ret
        exact ⟨by rw [hfin.out]; first | done | rfl, pw_below_drewN hBB.out _⟩
      · have hfin := Aside0.mk (show utf s.data.toList = utf (s.data.toList.drop (k + n)) from by rw [hu.out]; conv => lhs; unfold utf; rw [dif_neg HN.out, dif_neg (by rw [HW.out]; exact hn0), HW.out, List.drop_drop])
        have hn1 : 0 < n := by omega
        have hb0 : ((n : Int) == 0) = false := by rw [beq_eq_false_iff_ne]; omega
        clear hn0
        go_wp2_with (go_at_call 36; refine HC.out.mono ?_; rintro e w1 ⟨rfl, hd⟩; obtain ⟨nd2, rfl⟩ := hd.out; clear hd)
        go_roundw
        case rel => exact ⟨k + n, by omega, by go_num, hfin, Drawn0.step (Drawn0.refl _) _⟩
        case measure => simp [intOf]; omega
    · obtain rfl : k = s.size := by omega
      have hfin := Aside0.mk (show utf s.data.toList = true from by rw [hu.out, List.drop_of_length_le (by rw [data_length]; omega)]; unfold utf; rw [dif_pos rfl])
      go_wp2
      go_ret
      exact ⟨by rw [hfin.out]; first | done | rfl, pw_below_drewN hBB.out _⟩

end Go.Proofs.YtldlkoncndlbhaaDoor.PRa
