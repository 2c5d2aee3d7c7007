/- YtldlkoncndlbhaaDoorZSj8: texts of the seat (PlainLaw), one behind the other, without what this claim's theorem does not rest on. -/
import Derived.Test.YtldlkoncndlbhaaDoorZSj7

namespace Go.Proofs.YtldlkoncndlbhaaDoor.Pure
open Go.RowKit Go.Proofs.YtldlkoncndlbhaaDoor.Utf Go.Proofs.YtldlkoncndlbhaaDoor.Mb Go.Proofs.YtldlkoncndlbhaaDoor.Pl Go.Proofs.YtldlkoncndlbhaaDoor.Tx Go.Proofs.YtldlkoncndlbhaaDoor.PSh Go.Proofs.YtldlkoncndlbhaaDoorW.PrintWords Go.Proofs.YtldlkoncndlbhaaDoorW.PrintLast Go.Proofs.YtldlkoncndlbhaaDoorW.PrintMore
set_option linter.unusedSimpArgs false
set_option linter.unusedVariables false
/-- From some number of rounds on. -/
def Ev {α : Type} (f : Nat → Option α) (v : α) : Prop := ∃ K, ∀ k, K ≤ k → f k = some v
theorem Ev.const {α : Type} (v : α) : Ev (fun _ => some v) v := ⟨0, fun _ _ => rfl⟩
theorem Ev.of_eq {α : Type} {f g : Nat → Option α} {v : α} (h : Ev g v) (e : ∀ k, f k = g k) : Ev f v := by
  obtain ⟨K, hK⟩ := h
  exact ⟨K, fun k hk => (e k).trans (hK k hk)⟩
theorem Ev.succ {α : Type} {f g : Nat → Option α} {v : α} (h : Ev g v) (e : ∀ k, f (k + 1) = g k) : Ev f v := by
  obtain ⟨K, hK⟩ := h
  refine ⟨K + 1, fun k hk => ?_⟩
  obtain ⟨m, rfl⟩ : ∃ m, k = m + 1 := ⟨k - 1, by omega⟩
  exact (e m).trans (hK m (by omega))
theorem Ev.bind {α β : Type} {f : Nat → Option α} {a : α} {g : Nat → α → Option β} {v : β} (h : Ev f a) (k : Ev (fun n => g n a) v) : Ev (fun n => (f n).bind (g n)) v := by
  obtain ⟨K, hK⟩ := h
  obtain ⟨L, hL⟩ := k
  refine ⟨max K L, fun n hn => ?_⟩
  show (f n).bind (g n) = some v
  rw [hK n (by omega)]
  exact hL n (by omega)
theorem wrap_succ (i n : Nat) (h : i < n) (hn : n ≤ 140737488355328) : wrap64 ((i : Int) + 1) = ((i + 1 : Nat) : Int) := by unfold wrap64; omega
theorem rdB_elem (l : List ByteArray) (i : Nat) (h : i < l.length) : rdOf ByteArray.empty l (i : Int) = l[i] := by unfold rdOf; simp [List.getD, h]
theorem toList_data (s : ByteArray) : s.toList = s.data.toList := ByteArray.toList_eq s
theorem hasName_snoc (s x : ByteArray) (l : List ByteArray) : hasName s (l ++ [x]) = (hasName s l || (x.data.toList == s.data.toList)) := by
  unfold hasName
  rw [List.any_append]
  simp
section
variable (a0 : Int) (a1 : Bool) (a2 : Int) (a3 : ByteArray) (l4 : List ByteArray) (l5 : List Int)
/-- One name beside those ahead of it. -/
theorem dup_loop (hl : l4.length ≤ 140737488355328) (i : Nat) (hi : i < l4.length) (v : Bool) (hv : Ev (fun k => haulierref03_plain.l0 k ((i + 1 : Nat) : Int) a0 a1 a2 a3 l4 l5) v) :
    ∀ (d j : Nat), j + d = i → hasName l4[i] (l4.take j) = false → Ev (fun k => haulierref03_plain.l1 k (i : Int) (j : Int) a0 a1 a2 a3 l4 l5) (if hasName l4[i] (l4.take i) = true then false else v) := by
  intro d
  induction d with
  | zero =>
    intro j hj hn
    obtain rfl : j = i := by omega
    rw [hn, if_neg (by decide)]
    refine hv.succ fun k => ?_
    simp only [haulierref03_plain.l1]
    rw [if_neg (by omega), wrap_succ j _ hi hl]
  | succ d ih =>
    intro j hj hn
    have hji : j < i := by omega
    have hjl : j < l4.length := by omega
    have hs := hasName_snoc l4[i] l4[j] (l4.take j)
    rw [← List.take_succ_eq_append_getElem hjl, hn, Bool.false_or] at hs
    by_cases he : (l4[j]).toList = (l4[i]).toList
    · have hT : hasName l4[i] (l4.take i) = true := by
        rw [hasName_iff]
        have e : l4[j] = l4[i] := ByteArray.ext (Array.toList_inj.1 (by rw [← toList_data, ← toList_data]; exact he))
        rw [← e, List.mem_take_iff_getElem]
        exact ⟨j, by omega, rfl⟩
      rw [if_pos hT]
      refine (Ev.const false).succ fun k => ?_
      simp only [haulierref03_plain.l1]
      rw [if_pos (by omega), if_pos (by omega), if_pos (by omega), if_pos (by omega), if_pos (by omega), rdB_elem l4 j hjl, rdB_elem l4 i hi, if_pos he]
    · have hs' : hasName l4[i] (l4.take (j + 1)) = false := by
        rw [hs, beq_eq_false_iff_ne]
        exact fun e => he (by rw [toList_data, toList_data]; exact e)
      refine (ih (j + 1) (by omega) hs').succ fun k => ?_
      simp only [haulierref03_plain.l1]
      rw [if_pos (by omega), if_pos (by omega), if_pos (by omega), if_pos (by omega), if_pos (by omega), rdB_elem l4 j hjl, rdB_elem l4 i hi, if_neg he, wrap_succ j _ hjl hl]
/-- The names, from the i-th on. -/
theorem names_loop (hl : l4.length ≤ 140737488355328) (hs : ∀ s ∈ l4, s.size ≤ 140737488351232) :
    ∀ (d i : Nat), i + d = l4.length → Ev (fun k => haulierref03_plain.l0 k (i : Int) a0 a1 a2 a3 l4 l5) (namesGo (l4.take i) (l4.drop i) && (l4.length == l5.length)) := by
  intro d
  induction d with
  | zero =>
    intro i hi
    rw [List.drop_of_length_le (by omega), namesGo, Bool.true_and]
    refine (Ev.const _).succ fun k => ?_
    simp only [haulierref03_plain.l0]
    rw [if_neg (by omega)]
    congr 1
    by_cases e : l4.length = l5.length
    · rw [e]; simp
    · rw [beq_eq_false_iff_ne.2 e, beq_eq_false_iff_ne]; omega
  | succ d ih =>
    intro i hi
    have hlt : i < l4.length := by omega
    have h1 := ih (i + 1) (by omega)
    rw [namesGo_step l4 i l4[i] (List.getElem?_eq_getElem hlt)]
    have hu : haulierref03_UTF.f l4[i] = some (utf l4[i].data.toList) := if_pos (hs _ (List.getElem_mem hlt))
    by_cases hut : utf l4[i].data.toList = true
    · have h2 := dup_loop a0 a1 a2 a3 l4 l5 hl i hlt _ h1 i 0 (by omega) (by rw [List.take_zero]; rfl)
      have e2 : ((if hasName l4[i] (l4.take i) = true then false else if utf l4[i].data.toList = true then namesGo (l4.take (i + 1)) (l4.drop (i + 1)) else false) && (l4.length == l5.length)) = (if hasName l4[i] (l4.take i) = true then false else (namesGo (l4.take (i + 1)) (l4.drop (i + 1)) && (l4.length == l5.length))) := by
        rw [if_pos hut]
        split <;> simp
      rw [e2]
      refine h2.succ fun k => ?_
      simp only [haulierref03_plain.l0]
      rw [if_pos (by omega), if_pos (by omega), rdB_elem l4 i hlt, hu]
      simp only [Option.bind_some]
      rw [if_pos hut]
      rfl
    · have e2 : ((if hasName l4[i] (l4.take i) = true then false else if utf l4[i].data.toList = true then namesGo (l4.take (i + 1)) (l4.drop (i + 1)) else false) && (l4.length == l5.length)) = false := by
        rw [if_neg hut]
        split <;> rfl
      rw [e2]
      refine (Ev.const false).succ fun k => ?_
      simp only [haulierref03_plain.l0]
      rw [if_pos (by omega), if_pos (by omega), rdB_elem l4 i hlt, hu]
      simp only [Option.bind_some]
      rw [if_neg hut]
/-- What rules a value out at once. -/
def bad : Bool := (a1 && !(a0 == 2)) || (!(a2 == 0) && !(a0 == 3)) || (!a3.toList.isEmpty && !(a0 == 4)) || (!(l5.length == 0) && !(a0 == 5) && !(a0 == 6))
def fitsB (a : Int) : Bool := decide (-4611686018427387903 ≤ a ∧ a ≤ 4611686018427387903)
theorem utf_nil : utf [] = true := by unfold utf; rw [dif_pos rfl]
theorem plainB_alt : plainB a0 a1 a2 a3 l4 l5 = (!bad a0 a1 a2 a3 l5 && decide (1 ≤ a0 ∧ a0 ≤ 6) && fitsB a2 && utf a3.data.toList && (if a0 = 6 then namesGo [] l4 && (l4.length == l5.length) else l4.length == 0)) := by
  have hz : (a2 == 0) = true → fitsB a2 = true := fun e => by rw [eq_of_beq e]; decide
  have hfit : decide (-4611686018427387903 ≤ a2 ∧ a2 ≤ 4611686018427387903) = fitsB a2 := rfl
  have h3 : a3.toList.isEmpty = true → utf a3.data.toList = true := fun e => by
    rw [toList_data, List.isEmpty_iff] at e
    rw [e, utf_nil]
  have h4 : (l4.length == 0) = true → namesGo [] l4 = true := fun e => by
    have : l4 = [] := List.eq_nil_of_length_eq_zero (eq_of_beq e)
    rw [this, namesGo]
  have h6 : namesGo [] l4 = false → (l4.length == 0) = false := fun e => by
    cases h : (l4.length == 0)
    · rfl
    · rw [h4 h] at e; cases e
  unfold plainB bad
  rw [hfit]
  generalize (l4.length == 0) = q4 at *
  generalize (l5.length == 0) = q5 at *
  generalize (l4.length == l5.length) = q6 at *
  generalize (a2 == 0) = z2 at *
  generalize fitsB a2 = ft at *
  generalize utf a3.data.toList = u at *
  generalize a3.toList.isEmpty = em at *
  generalize namesGo [] l4 = nm at *
  clear hfit
  by_cases k1 : a0 = 1
  · subst k1
    cases a1 <;> cases q4 <;> cases nm <;> cases q5 <;> cases z2 <;> cases ft <;> cases u <;> cases em <;> simp at h3 h4 h6 hz ⊢
  by_cases k2 : a0 = 2
  · subst k2
    cases a1 <;> cases q4 <;> cases nm <;> cases q5 <;> cases z2 <;> cases ft <;> cases u <;> cases em <;> simp at h3 h4 h6 hz ⊢
  by_cases k3 : a0 = 3
  · subst k3
    cases a1 <;> cases q4 <;> cases nm <;> cases q5 <;> cases z2 <;> cases ft <;> cases u <;> cases em <;> simp at h3 h4 h6 hz ⊢
  by_cases k4 : a0 = 4
  · subst k4
    cases a1 <;> cases q4 <;> cases nm <;> cases q5 <;> cases z2 <;> cases ft <;> cases u <;> cases em <;> simp at h3 h4 h6 hz ⊢
  by_cases k5 : a0 = 5
  · subst k5
    cases a1 <;> cases q4 <;> cases nm <;> cases q5 <;> cases z2 <;> cases ft <;> cases u <;> cases em <;> simp at h3 h4 h6 hz ⊢
  by_cases k6 : a0 = 6
  · subst k6
    cases a1 <;> cases q4 <;> cases nm <;> cases q5 <;> cases z2 <;> cases ft <;> cases u <;> cases em <;> simp at h3 h4 h6 hz ⊢
  have : decide (1 ≤ a0 ∧ a0 ≤ 6) = false := by rw [decide_eq_false_iff_not]; omega
  rw [this, if_neg k1, if_neg k2, if_neg k3, if_neg k4, if_neg k5, if_neg k6]
  simp
theorem f_bad (k : Nat) : haulierref03_plain.f k a0 a1 a2 a3 l4 l5 = haulierref03_plain.j0 k (bad a0 a1 a2 a3 l5) a0 a1 a2 a3 l4 l5 := by
  have e2 : (a2 == 0) = decide (a2 = 0) := rfl
  have e3 : a3.toList.isEmpty = decide (a3.toList = []) := by cases a3.toList <;> rfl
  have e5 : (l5.length == 0) = decide (l5 = []) := by cases l5 <;> rfl
  have d : ∀ n : Int, (a0 == n) = decide (a0 = n) := fun _ => rfl
  have d6 : (a0 != 6) = !decide (a0 = 6) := rfl
  unfold haulierref03_plain.f bad
  rw [e2, e3, e5]
  simp only [d, d6]
  cases a1 <;> by_cases k2 : a0 = 2 <;> by_cases h2 : a2 = 0 <;> by_cases k3 : a0 = 3 <;> by_cases h3 : a3.toList = [] <;> by_cases k4 : a0 = 4 <;> by_cases h5 : l5 = [] <;> by_cases k5 : a0 = 5 <;> by_cases k6 : a0 = 6 <;> simp_all [List.length_pos_iff]
/-- The document's answer. -/
theorem plain_tells (hl : l4.length ≤ 140737488355328) (hs : ∀ s ∈ l4, s.size ≤ 140737488351232) (h3 : a3.size ≤ 140737488351232) : Ev (fun k => haulierref03_plain.f k a0 a1 a2 a3 l4 l5) (plainB a0 a1 a2 a3 l4 l5) := by
  rw [plainB_alt]
  refine Ev.of_eq ?_ (f_bad a0 a1 a2 a3 l4 l5)
  cases hb : bad a0 a1 a2 a3 l5
  · have j1t : Ev (fun k => haulierref03_plain.j1 k true a0 a1 a2 a3 l4 l5) false := by
      refine (Ev.const _).succ fun k => ?_
      simp only [haulierref03_plain.j1]
      rw [if_pos trivial]
    by_cases c1 : a0 < 1
    · rw [show decide (1 ≤ a0 ∧ a0 ≤ 6) = false by rw [decide_eq_false_iff_not]; omega]
      simp only [Bool.and_false, Bool.false_and, Bool.not_false]
      refine j1t.succ fun k => ?_
      simp only [haulierref03_plain.j0]
      rw [if_neg (by decide), if_pos c1]
    by_cases c2 : a0 > 6
    · rw [show decide (1 ≤ a0 ∧ a0 ≤ 6) = false by rw [decide_eq_false_iff_not]; omega]
      simp only [Bool.and_false, Bool.false_and, Bool.not_false]
      refine j1t.succ fun k => ?_
      simp only [haulierref03_plain.j0]
      rw [if_neg (by decide), if_neg c1, if_pos c2]
    rw [show decide (1 ≤ a0 ∧ a0 ≤ 6) = true by rw [decide_eq_true_iff]; omega]
    have hf : haulierref01_Fits.f a2 = some (fitsB a2) := by
      unfold haulierref01_Fits.f fitsB
      by_cases h : a2 ≥ -4611686018427387903
      · rw [if_pos h]
        congr 1
        by_cases h2 : a2 ≤ 4611686018427387903
        · rw [decide_eq_true h2, decide_eq_true ⟨h, h2⟩]
        · rw [decide_eq_false h2, decide_eq_false (fun e => h2 e.2)]
      · rw [if_neg h, decide_eq_false (fun e => h e.1)]
    cases hft : fitsB a2
    · rw [hft] at hf
      simp only [Bool.and_false, Bool.false_and, Bool.not_false]
      refine j1t.succ fun k => ?_
      simp only [haulierref03_plain.j0]
      rw [if_neg (by decide), if_neg c1, if_neg c2, hf]
      rfl
    rw [hft] at hf
    have hu : haulierref03_UTF.f a3 = some (utf a3.data.toList) := if_pos h3
    cases hut : utf a3.data.toList
    · rw [hut] at hu
      simp only [Bool.and_false, Bool.false_and, Bool.not_false]
      refine j1t.succ fun k => ?_
      simp only [haulierref03_plain.j0]
      rw [if_neg (by decide), if_neg c1, if_neg c2, hf, hu]
      rfl
    rw [hut] at hu
    simp only [Bool.not_false, Bool.true_and]
    have j1f : Ev (fun k => haulierref03_plain.j1 k false a0 a1 a2 a3 l4 l5) (if a0 = 6 then namesGo [] l4 && (l4.length == l5.length) else l4.length == 0) := by
      by_cases k6 : a0 = 6
      · rw [if_pos k6]
        refine (names_loop a0 a1 a2 a3 l4 l5 hl hs l4.length 0 (by omega)).succ fun k => ?_
        simp only [haulierref03_plain.j1]
        rw [if_neg (by decide), if_pos k6]
        rfl
      · rw [if_neg k6]
        refine (Ev.const _).succ fun k => ?_
        simp only [haulierref03_plain.j1]
        rw [if_neg (by decide), if_neg k6]
        congr 1
        cases l4
        · rfl
        · simp only [List.length_cons]
          rw [beq_eq_false_iff_ne.2 (Nat.succ_ne_zero _), beq_eq_false_iff_ne]
          omega
    refine j1f.succ fun k => ?_
    simp only [haulierref03_plain.j0]
    rw [if_neg (by decide), if_neg c1, if_neg c2, hf, hu]
    rfl
  · refine (Ev.const _).succ fun k => ?_
    simp only [haulierref03_plain.j0]
    simp
end
end Go.Proofs.YtldlkoncndlbhaaDoor.Pure
