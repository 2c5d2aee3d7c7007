/- YtldlkoncndlbhaaDoorZB5: this session's texts Fit, one behind the other (a claim holds at most 60 files). The last of them states what is proved; its conditions stand there. -/
import Derived.Test.YtldlkoncndlbhaaDoorZB4

/- What a bounded cost of a tree gives for the walks: sizes, and how long its text may be; both Prints answer 'given'. -/
namespace Go.Proofs.YtldlkoncndlbhaaDoor.Pure
open Go.RowKit Go.Proofs.YtldlkoncndlbhaaDoor.Utf Go.Proofs.YtldlkoncndlbhaaDoor.Pl Go.Proofs.YtldlkoncndlbhaaDoor.Tx Go.Proofs.YtldlkoncndlbhaaDoor.Wr Go.Proofs.YtldlkoncndlbhaaDoor.Rd Go.Proofs.YtldlkoncndlbhaaDoor.PSh Go.Proofs.YtldlkoncndlbhaaDoorW.PrintWords Go.Proofs.YtldlkoncndlbhaaDoorW.PrintLast Go.Proofs.YtldlkoncndlbhaaDoorW.PrintMore
set_option linter.unusedSimpArgs false
set_option linter.unusedVariables false

/-- Of a bounded cost. -/
def Small (l : List S39) : Prop := (l.map cost).sum ≤ 4194304 ∧ l.length ≤ 1048576
theorem Small.of {l : List S39} (h : (l.map cost).sum ≤ 1048576) : Small l := ⟨by omega, Nat.le_trans (len_cost l) h⟩
theorem at_mem {l : List S39} {a : Int} (h0 : 0 ≤ a) (h1 : a < l.length) : rd_T39 l a ∈ l := by
  have hl : a.toNat < l.length := by omega
  unfold rd_T39
  rw [List.getD_eq_getElem?_getD, List.getElem?_eq_getElem hl]
  exact List.getElem_mem hl
theorem Small.at_ {l : List S39} (h : Small l) {a : Int} (h0 : 0 ≤ a) (h1 : a < l.length) :
    (rd_T39 l a).f3.size ≤ 4194304 ∧ (rd_T39 l a).f4.length ≤ 4194304 ∧ (rd_T39 l a).f5.length ≤ 4194304 ∧ ∀ s ∈ (rd_T39 l a).f4, s.size ≤ 4194304 := by
  have h2 := sum_mem l _ (at_mem h0 h1)
  have h3 := h.1
  generalize rd_T39 l a = v at *
  have h4 := names_len v.f4
  have h5 : cost v = 1 + v.f3.size + (v.f4.map fun s => s.size + 1).sum + v.f5.length := rfl
  refine ⟨by omega, by omega, by omega, fun s hs => ?_⟩
  have := name_le v.f4 s hs
  omega
theorem Small.sz {l : List S39} (h : Small l) : Sz l := fun a h0 h1 => by
  obtain ⟨g3, g4, g5, gn⟩ := h.at_ h0 h1
  exact ⟨⟨fun s hs => Nat.le_trans (gn s hs) (by decide), by omega, by omega⟩, by omega⟩
theorem Small.sized {l : List S39} (h : Small l) : Sized l := fun a h0 h1 => by
  obtain ⟨g3, g4, g5, gn⟩ := h.at_ h0 h1
  refine ⟨by omega, by omega, fun i hi => ?_⟩
  have hm : rdOf ByteArray.empty (rd_T39 l a).f4 (i : Int) ∈ (rd_T39 l a).f4 := by
    unfold rdOf
    rw [Int.toNat_natCast, List.getD_eq_getElem?_getD, List.getElem?_eq_getElem hi]
    exact List.getElem_mem hi
  have := gn _ hm
  omega
theorem Small.slots {l : List S39} (h : Small l) : ∀ a : Int, 0 ≤ a → a < l.length → (rd_T39 l a).f4.length * 16 ≤ 140737488355328 ∧ (rd_T39 l a).f5.length * 8 ≤ 140737488355328 := fun a h0 h1 => by
  obtain ⟨g3, g4, g5, gn⟩ := h.at_ h0 h1
  exact ⟨by omega, by omega⟩
theorem sumN_names (ss : List ByteArray) : ∀ m, m ≤ ss.length → sumN (fun i => 6 * (rdOf ByteArray.empty ss (i : Int)).size + 3) m ≤ 6 * ((ss.take m).map fun s => s.size + 1).sum
  | 0, _ => Nat.zero_le _
  | m + 1, h => by
    have ih := sumN_names ss m (by omega)
    rw [sumN, List.take_succ_eq_append_getElem (by omega), List.map_append, List.sum_append]
    have e : rdOf ByteArray.empty ss (m : Int) = ss[m] := by
      unfold rdOf
      rw [Int.toNat_natCast, List.getD_eq_getElem?_getD, List.getElem?_eq_getElem (by omega)]
      rfl
    have e2 : (List.map (fun s : ByteArray => s.size + 1) [ss[m]]).sum = ss[m].size + 1 := by simp
    rw [e, e2]
    omega
theorem own_cost (v : S39) : ownLen v ≤ 32 * cost v := by
  have h := sumN_names v.f4 v.f4.length (Nat.le_refl _)
  rw [List.take_length] at h
  unfold ownLen cost
  omega
theorem sumN_list (l : List S39) : ∀ m, m ≤ l.length → sumN (fun j => ownLen (rd_T39 l (j : Int))) m ≤ 32 * ((l.take m).map cost).sum
  | 0, _ => Nat.zero_le _
  | m + 1, h => by
    have ih := sumN_list l m (by omega)
    rw [sumN, List.take_succ_eq_append_getElem (by omega), List.map_append, List.sum_append]
    have e : rd_T39 l (m : Int) = l[m] := by
      unfold rd_T39
      rw [Int.toNat_natCast, List.getD_eq_getElem?_getD, List.getElem?_eq_getElem (by omega)]
      rfl
    have e2 : (List.map cost [l[m]]).sum = cost l[m] := by simp
    have := own_cost l[m]
    rw [e, e2]
    omega
theorem Small.text {l : List S39} (h : Small l) (hc : checkOf l = 0) : (textOf l).length ≤ 134217728 := by
  have h1 := text_len l hc
  have h2 := sumN_list l l.length (Nat.le_refl _)
  rw [List.take_length] at h2
  have := h.1
  omega
theorem Small.ok {l : List S39} (h : Small l) (hc : checkOf l = 0) : 0 < l.length ∧ Tree l ∧ Sized l ∧ (textOf l).length ≤ 140737488355328 :=
  ⟨(check_nodes l hc).1, check_tree l hc, h.sized, Nat.le_trans (h.text hc) (by decide)⟩

/-- What both Prints leave. -/
def Printed (w : World) (l : List S39) : Ending → World → Prop := fun e w' => ∃ (A' : Option Addr) (c' : Nat) (t : List UInt8), e = .returned (.tuple #[.slice A' t.length c', .int .i64 (checkOf l)]) ∧ ReadsInt w' .u8 A' t.length (numsOf t) ∧ Below w.heap.size w w' ∧ t = given (checkOf l) l
theorem print_tells {l : List S39} {w : World} {A : Option Addr} {cp : Nat} (hG : Aside0 (Glob w)) (hr : Kd.C k39 w A l.length l) (hc : l.length ≤ cp) (hs : Small l) :
    Calls Tryd.prog 14 #[.slice A l.length cp] w (Printed w l) := by
  obtain ⟨K, hK⟩ := check_tells l hs.sz
  exact (print_walk K l A cp (checkOf l) w hG hr hc hs.2 (hK K (Nat.le_refl _)) hs.ok).mono fun e w' h => h
theorem refprint_tells {l : List S39} {w : World} {A : Option Addr} {cp : Nat} (hG : Aside0 (Glob w)) (hr : Kd.C k39 w A l.length l) (hc : l.length ≤ cp) (hs : Small l) :
    Calls Tryd.prog 15 #[.slice A l.length cp] w (Printed w l) := by
  obtain ⟨K, hK⟩ := refcheck_tells l hs.sz
  exact (Rq.refprint_walk K l A cp (checkOf l) w hG hr hc hs.2 (hK K (Nat.le_refl _)) hs.ok).mono fun e w' h => h
/-- A text as a string. -/
theorem as_string {w : World} {A : Option Addr} {c : Nat} {t : List UInt8} (hrd : ReadsInt w .u8 A t.length (numsOf t)) : (convert 30 9 (.slice A t.length c)).run Tryd.prog w = .ok (.string ⟨t.toArray⟩) w := by
  have h := string_of_reads (P := Tryd.prog) (src := 30) (dst := 9) (e := 5) (c := c) Tryd.underlying30 Tryd.underlying5 Tryd.underlying9 hrd
  exact h.trans (by rw [Aw.str_nums])

end Go.Proofs.YtldlkoncndlbhaaDoor.Pure
