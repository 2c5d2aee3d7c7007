/- YtldlkoncndlbhaaDoorZB3: this session's texts PlainLaw, PShx5, CheckLaw, RefCheck, Awake, one behind the other (a claim holds at most 60 files). The last of them states what is proved; its conditions stand there. -/
import Derived.Test.YtldlkoncndlbhaaDoorZB2

/- The document's 'plain' answers as the program's does: the plain law. -/
namespace Go.Proofs.YtldlkoncndlbhaaDoor.Pure
open Go.RowKit Go.Proofs.YtldlkoncndlbhaaDoor.Utf Go.Proofs.YtldlkoncndlbhaaDoor.Mb Go.Proofs.YtldlkoncndlbhaaDoor.Pl Go.Proofs.YtldlkoncndlbhaaDoor.Tx Go.Proofs.YtldlkoncndlbhaaDoor.PSh Go.Proofs.YtldlkoncndlbhaaDoorW.PrintWords Go.Proofs.YtldlkoncndlbhaaDoorW.PrintLast Go.Proofs.YtldlkoncndlbhaaDoorW.PrintMore
set_option linter.unusedSimpArgs false
set_option linter.unusedVariables false

/-- From some number of rounds on. -/
def Ev {α : Type} (f : Nat → Option α) (v : α) : Prop := ∃ K, ∀ k, K ≤ k → f k = some v
theorem Ev.const {α : Type} (v : α) : Ev (fun _ => some v) v := ⟨0, fun _ _ => rfl⟩
theorem Ev.of_eq {α : Type} {f g : Nat → Option α} {v : α} (h : Ev g v) (e : ∀ k, f k = g k) : Ev f v := by
  obtain ⟨K, hK⟩ := h
  exact ⟨K, fun k hk => (e k).trans (hK k hk)⟩
theorem Ev.succ {α : Type} {f g : Nat → Option α} {v : α} (h : Ev g v) (e : ∀ k, f (k + 1) = g k) : Ev f v := by
  obtain ⟨K, hK⟩ := h
  refine ⟨K + 1, fun k hk => ?_⟩
  obtain ⟨m, rfl⟩ : ∃ m, k = m + 1 := ⟨k - 1, by omega⟩
  exact (e m).trans (hK m (by omega))
theorem Ev.bind {α β : Type} {f : Nat → Option α} {a : α} {g : Nat → α → Option β} {v : β} (h : Ev f a) (k : Ev (fun n => g n a) v) : Ev (fun n => (f n).bind (g n)) v := by
  obtain ⟨K, hK⟩ := h
  obtain ⟨L, hL⟩ := k
  refine ⟨max K L, fun n hn => ?_⟩
  show (f n).bind (g n) = some v
  rw [hK n (by omega)]
  exact hL n (by omega)

theorem wrap_succ (i n : Nat) (h : i < n) (hn : n ≤ 140737488355328) : wrap64 ((i : Int) + 1) = ((i + 1 : Nat) : Int) := by unfold wrap64; omega
theorem rdB_elem (l : List ByteArray) (i : Nat) (h : i < l.length) : rdOf ByteArray.empty l (i : Int) = l[i] := by unfold rdOf; simp [List.getD, h]
theorem toList_data (s : ByteArray) : s.toList = s.data.toList := ByteArray.toList_eq s
theorem hasName_snoc (s x : ByteArray) (l : List ByteArray) : hasName s (l ++ [x]) = (hasName s l || (x.data.toList == s.data.toList)) := by
  unfold hasName
  rw [List.any_append]
  simp

section
variable (a0 : Int) (a1 : Bool) (a2 : Int) (a3 : ByteArray) (l4 : List ByteArray) (l5 : List Int)
/-- One name beside those ahead of it. -/
theorem dup_loop (hl : l4.length ≤ 140737488355328) (i : Nat) (hi : i < l4.length) (v : Bool) (hv : Ev (fun k => haulierref03_plain.l0 k ((i + 1 : Nat) : Int) a0 a1 a2 a3 l4 l5) v) :
    ∀ (d j : Nat), j + d = i → hasName l4[i] (l4.take j) = false → Ev (fun k => haulierref03_plain.l1 k (i : Int) (j : Int) a0 a1 a2 a3 l4 l5) (if hasName l4[i] (l4.take i) = true then false else v) := by
  intro d
  induction d with
  | zero =>
    intro j hj hn
    obtain rfl : j = i := by omega
    rw [hn, if_neg (by decide)]
    refine hv.succ fun k => ?_
    simp only [haulierref03_plain.l1]
    rw [if_neg (by omega), wrap_succ j _ hi hl]
  | succ d ih =>
    intro j hj hn
    have hji : j < i := by omega
    have hjl : j < l4.length := by omega
    have hs := hasName_snoc l4[i] l4[j] (l4.take j)
    rw [← List.take_succ_eq_append_getElem hjl, hn, Bool.false_or] at hs
    by_cases he : (l4[j]).toList = (l4[i]).toList
    · have hT : hasName l4[i] (l4.take i) = true := by
        rw [hasName_iff]
        have e : l4[j] = l4[i] := ByteArray.ext (Array.toList_inj.1 (by rw [← toList_data, ← toList_data]; exact he))
        rw [← e, List.mem_take_iff_getElem]
        exact ⟨j, by omega, rfl⟩
      rw [if_pos hT]
      refine (Ev.const false).succ fun k => ?_
      simp only [haulierref03_plain.l1]
      rw [if_pos (by omega), if_pos (by omega), if_pos (by omega), if_pos (by omega), if_pos (by omega), rdB_elem l4 j hjl, rdB_elem l4 i hi, if_pos he]
    · have hs' : hasName l4[i] (l4.take (j + 1)) = false := by
        rw [hs, beq_eq_false_iff_ne]
        exact fun e => he (by rw [toList_data, toList_data]; exact e)
      refine (ih (j + 1) (by omega) hs').succ fun k => ?_
      simp only [haulierref03_plain.l1]
      rw [if_pos (by omega), if_pos (by omega), if_pos (by omega), if_pos (by omega), if_pos (by omega), rdB_elem l4 j hjl, rdB_elem l4 i hi, if_neg he, wrap_succ j _ hjl hl]
/-- The names, from the i-th on. -/
theorem names_loop (hl : l4.length ≤ 140737488355328) (hs : ∀ s ∈ l4, s.size ≤ 140737488351232) :
    ∀ (d i : Nat), i + d = l4.length → Ev (fun k => haulierref03_plain.l0 k (i : Int) a0 a1 a2 a3 l4 l5) (namesGo (l4.take i) (l4.drop i) && (l4.length == l5.length)) := by
  intro d
  induction d with
  | zero =>
    intro i hi
    rw [List.drop_of_length_le (by omega), namesGo, Bool.true_and]
    refine (Ev.const _).succ fun k => ?_
    simp only [haulierref03_plain.l0]
    rw [if_neg (by omega)]
    congr 1
    by_cases e : l4.length = l5.length
    · rw [e]; simp
    · rw [beq_eq_false_iff_ne.2 e, beq_eq_false_iff_ne]; omega
  | succ d ih =>
    intro i hi
    have hlt : i < l4.length := by omega
    have h1 := ih (i + 1) (by omega)
    rw [namesGo_step l4 i l4[i] (List.getElem?_eq_getElem hlt)]
    have hu : haulierref03_UTF.f l4[i] = some (utf l4[i].data.toList) := if_pos (hs _ (List.getElem_mem hlt))
    by_cases hut : utf l4[i].data.toList = true
    · have h2 := dup_loop a0 a1 a2 a3 l4 l5 hl i hlt _ h1 i 0 (by omega) (by rw [List.take_zero]; rfl)
      have e2 : ((if hasName l4[i] (l4.take i) = true then false else if utf l4[i].data.toList = true then namesGo (l4.take (i + 1)) (l4.drop (i + 1)) else false) && (l4.length == l5.length)) = (if hasName l4[i] (l4.take i) = true then false else (namesGo (l4.take (i + 1)) (l4.drop (i + 1)) && (l4.length == l5.length))) := by
        rw [if_pos hut]
        split <;> simp
      rw [e2]
      refine h2.succ fun k => ?_
      simp only [haulierref03_plain.l0]
      rw [if_pos (by omega), if_pos (by omega), rdB_elem l4 i hlt, hu]
      simp only [Option.bind_some]
      rw [if_pos hut]
      rfl
    · have e2 : ((if hasName l4[i] (l4.take i) = true then false else if utf l4[i].data.toList = true then namesGo (l4.take (i + 1)) (l4.drop (i + 1)) else false) && (l4.length == l5.length)) = false := by
        rw [if_neg hut]
        split <;> rfl
      rw [e2]
      refine (Ev.const false).succ fun k => ?_
      simp only [haulierref03_plain.l0]
      rw [if_pos (by omega), if_pos (by omega), rdB_elem l4 i hlt, hu]
      simp only [Option.bind_some]
      rw [if_neg hut]

/-- What rules a value out at once. -/
def bad : Bool := (a1 && !(a0 == 2)) || (!(a2 == 0) && !(a0 == 3)) || (!a3.toList.isEmpty && !(a0 == 4)) || (!(l5.length == 0) && !(a0 == 5) && !(a0 == 6))
def fitsB (a : Int) : Bool := decide (-4611686018427387903 ≤ a ∧ a ≤ 4611686018427387903)
theorem utf_nil : utf [] = true := by unfold utf; rw [dif_pos rfl]
theorem plainB_alt : plainB a0 a1 a2 a3 l4 l5 = (!bad a0 a1 a2 a3 l5 && decide (1 ≤ a0 ∧ a0 ≤ 6) && fitsB a2 && utf a3.data.toList && (if a0 = 6 then namesGo [] l4 && (l4.length == l5.length) else l4.length == 0)) := by
  have hz : (a2 == 0) = true → fitsB a2 = true := fun e => by rw [eq_of_beq e]; decide
  have hfit : decide (-4611686018427387903 ≤ a2 ∧ a2 ≤ 4611686018427387903) = fitsB a2 := rfl
  have h3 : a3.toList.isEmpty = true → utf a3.data.toList = true := fun e => by
    rw [toList_data, List.isEmpty_iff] at e
    rw [e, utf_nil]
  have h4 : (l4.length == 0) = true → namesGo [] l4 = true := fun e => by
    have : l4 = [] := List.eq_nil_of_length_eq_zero (eq_of_beq e)
    rw [this, namesGo]
  have h6 : namesGo [] l4 = false → (l4.length == 0) = false := fun e => by
    cases h : (l4.length == 0)
    · rfl
    · rw [h4 h] at e; cases e
  unfold plainB bad
  rw [hfit]
  generalize (l4.length == 0) = q4 at *
  generalize (l5.length == 0) = q5 at *
  generalize (l4.length == l5.length) = q6 at *
  generalize (a2 == 0) = z2 at *
  generalize fitsB a2 = ft at *
  generalize utf a3.data.toList = u at *
  generalize a3.toList.isEmpty = em at *
  generalize namesGo [] l4 = nm at *
  clear hfit
  by_cases k1 : a0 = 1
  · subst k1
    cases a1 <;> cases q4 <;> cases nm <;> cases q5 <;> cases z2 <;> cases ft <;> cases u <;> cases em <;> simp at h3 h4 h6 hz ⊢
  by_cases k2 : a0 = 2
  · subst k2
    cases a1 <;> cases q4 <;> cases nm <;> cases q5 <;> cases z2 <;> cases ft <;> cases u <;> cases em <;> simp at h3 h4 h6 hz ⊢
  by_cases k3 : a0 = 3
  · subst k3
    cases a1 <;> cases q4 <;> cases nm <;> cases q5 <;> cases z2 <;> cases ft <;> cases u <;> cases em <;> simp at h3 h4 h6 hz ⊢
  by_cases k4 : a0 = 4
  · subst k4
    cases a1 <;> cases q4 <;> cases nm <;> cases q5 <;> cases z2 <;> cases ft <;> cases u <;> cases em <;> simp at h3 h4 h6 hz ⊢
  by_cases k5 : a0 = 5
  · subst k5
    cases a1 <;> cases q4 <;> cases nm <;> cases q5 <;> cases z2 <;> cases ft <;> cases u <;> cases em <;> simp at h3 h4 h6 hz ⊢
  by_cases k6 : a0 = 6
  · subst k6
    cases a1 <;> cases q4 <;> cases nm <;> cases q5 <;> cases z2 <;> cases ft <;> cases u <;> cases em <;> simp at h3 h4 h6 hz ⊢
  have : decide (1 ≤ a0 ∧ a0 ≤ 6) = false := by rw [decide_eq_false_iff_not]; omega
  rw [this, if_neg k1, if_neg k2, if_neg k3, if_neg k4, if_neg k5, if_neg k6]
  simp
theorem f_bad (k : Nat) : haulierref03_plain.f k a0 a1 a2 a3 l4 l5 = haulierref03_plain.j0 k (bad a0 a1 a2 a3 l5) a0 a1 a2 a3 l4 l5 := by
  have e2 : (a2 == 0) = decide (a2 = 0) := rfl
  have e3 : a3.toList.isEmpty = decide (a3.toList = []) := by cases a3.toList <;> rfl
  have e5 : (l5.length == 0) = decide (l5 = []) := by cases l5 <;> rfl
  have d : ∀ n : Int, (a0 == n) = decide (a0 = n) := fun _ => rfl
  have d6 : (a0 != 6) = !decide (a0 = 6) := rfl
  unfold haulierref03_plain.f bad
  rw [e2, e3, e5]
  simp only [d, d6]
  cases a1 <;> by_cases k2 : a0 = 2 <;> by_cases h2 : a2 = 0 <;> by_cases k3 : a0 = 3 <;> by_cases h3 : a3.toList = [] <;> by_cases k4 : a0 = 4 <;> by_cases h5 : l5 = [] <;> by_cases k5 : a0 = 5 <;> by_cases k6 : a0 = 6 <;> simp_all [List.length_pos_iff]
/-- The document's answer. -/
theorem plain_tells (hl : l4.length ≤ 140737488355328) (hs : ∀ s ∈ l4, s.size ≤ 140737488351232) (h3 : a3.size ≤ 140737488351232) : Ev (fun k => haulierref03_plain.f k a0 a1 a2 a3 l4 l5) (plainB a0 a1 a2 a3 l4 l5) := by
  rw [plainB_alt]
  refine Ev.of_eq ?_ (f_bad a0 a1 a2 a3 l4 l5)
  cases hb : bad a0 a1 a2 a3 l5
  · have j1t : Ev (fun k => haulierref03_plain.j1 k true a0 a1 a2 a3 l4 l5) false := by
      refine (Ev.const _).succ fun k => ?_
      simp only [haulierref03_plain.j1]
      rw [if_pos trivial]
    by_cases c1 : a0 < 1
    · rw [show decide (1 ≤ a0 ∧ a0 ≤ 6) = false by rw [decide_eq_false_iff_not]; omega]
      simp only [Bool.and_false, Bool.false_and, Bool.not_false]
      refine j1t.succ fun k => ?_
      simp only [haulierref03_plain.j0]
      rw [if_neg (by decide), if_pos c1]
    by_cases c2 : a0 > 6
    · rw [show decide (1 ≤ a0 ∧ a0 ≤ 6) = false by rw [decide_eq_false_iff_not]; omega]
      simp only [Bool.and_false, Bool.false_and, Bool.not_false]
      refine j1t.succ fun k => ?_
      simp only [haulierref03_plain.j0]
      rw [if_neg (by decide), if_neg c1, if_pos c2]
    rw [show decide (1 ≤ a0 ∧ a0 ≤ 6) = true by rw [decide_eq_true_iff]; omega]
    have hf : haulierref01_Fits.f a2 = some (fitsB a2) := by
      unfold haulierref01_Fits.f fitsB
      by_cases h : a2 ≥ -4611686018427387903
      · rw [if_pos h]
        congr 1
        by_cases h2 : a2 ≤ 4611686018427387903
        · rw [decide_eq_true h2, decide_eq_true ⟨h, h2⟩]
        · rw [decide_eq_false h2, decide_eq_false (fun e => h2 e.2)]
      · rw [if_neg h, decide_eq_false (fun e => h e.1)]
    cases hft : fitsB a2
    · rw [hft] at hf
      simp only [Bool.and_false, Bool.false_and, Bool.not_false]
      refine j1t.succ fun k => ?_
      simp only [haulierref03_plain.j0]
      rw [if_neg (by decide), if_neg c1, if_neg c2, hf]
      rfl
    rw [hft] at hf
    have hu : haulierref03_UTF.f a3 = some (utf a3.data.toList) := if_pos h3
    cases hut : utf a3.data.toList
    · rw [hut] at hu
      simp only [Bool.and_false, Bool.false_and, Bool.not_false]
      refine j1t.succ fun k => ?_
      simp only [haulierref03_plain.j0]
      rw [if_neg (by decide), if_neg c1, if_neg c2, hf, hu]
      rfl
    rw [hut] at hu
    simp only [Bool.not_false, Bool.true_and]
    have j1f : Ev (fun k => haulierref03_plain.j1 k false a0 a1 a2 a3 l4 l5) (if a0 = 6 then namesGo [] l4 && (l4.length == l5.length) else l4.length == 0) := by
      by_cases k6 : a0 = 6
      · rw [if_pos k6]
        refine (names_loop a0 a1 a2 a3 l4 l5 hl hs l4.length 0 (by omega)).succ fun k => ?_
        simp only [haulierref03_plain.j1]
        rw [if_neg (by decide), if_pos k6]
        rfl
      · rw [if_neg k6]
        refine (Ev.const _).succ fun k => ?_
        simp only [haulierref03_plain.j1]
        rw [if_neg (by decide), if_neg k6]
        congr 1
        cases l4
        · rfl
        · simp only [List.length_cons]
          rw [beq_eq_false_iff_ne.2 (Nat.succ_ne_zero _), beq_eq_false_iff_ne]
          omega
    refine j1f.succ fun k => ?_
    simp only [haulierref03_plain.j0]
    rw [if_neg (by decide), if_neg c1, if_neg c2, hf, hu]
    rfl
  · refine (Ev.const _).succ fun k => ?_
    simp only [haulierref03_plain.j0]
    simp
end

end Go.Proofs.YtldlkoncndlbhaaDoor.Pure

-- Laid by wip/mk/mk.py of this session (the kit's printer with this session's contracts for library functions).
namespace Go.Proofs.YtldlkoncndlbhaaDoor.PSh
open Go.RowKit Go.Proofs.YtldlkoncndlbhaaDoorW.PrintWords Go.Proofs.YtldlkoncndlbhaaDoorW.PrintLast Go.Proofs.YtldlkoncndlbhaaDoorW.PrintMore
attribute [local go_sem] max2_int min2_int max_two min_two max_three min_three max_four min_four   -- for this text's walks alone
set_option linter.unusedVariables false
set_option linter.unusedSimpArgs false

/-! ### haulierref03_Check: function 13 -/
mutual
def haulierref03_Check.l0 : Nat → List (S39) → List Int → List Int → Int → Option (Int)
  | 0, _, _, _, _ => none
  | k + 1, x0, x3, x4, x5 => if x5 < (x0.length : Int) then (if 0 ≤ x5 then ((haulierref03_plain.f k ((rd_T39 x0 x5).f0) ((rd_T39 x0 x5).f1) ((rd_T39 x0 x5).f2) ((rd_T39 x0 x5).f3) ((rd_T39 x0 x5).f4) ((rd_T39 x0 x5).f5)).bind fun t142 => (if t142 = true then (haulierref03_Check.l1 k x0 x3 x4 x5 0 0) else (some 29))) else (none)) else (haulierref03_Check.l2 k x0 x3 x4 0)
def haulierref03_Check.l1 : Nat → List (S39) → List Int → List Int → Int → Int → Int → Option (Int)
  | 0, _, _, _, _, _, _ => none
  | k + 1, x0, x3, x4, x5, x6, x7 => if 0 ≤ x5 then (if x5 < (x0.length : Int) then (if x7 < (((rd_T39 x0 x5).f5).length : Int) then (if 0 ≤ x7 then (if (rd ((rd_T39 x0 x5).f5) x7) < 0 then (haulierref03_Check.j2 k x0 x3 x4 x5 x6 x7 (rd ((rd_T39 x0 x5).f5) x7) true) else (haulierref03_Check.j2 k x0 x3 x4 x5 x6 x7 (rd ((rd_T39 x0 x5).f5) x7) (decide ((rd ((rd_T39 x0 x5).f5) x7) ≥ x5)))) else (none)) else (if ((rd_T39 x0 x5).f0) ≥ 5 then (if x5 < (x4.length : Int) then (haulierref03_Check.l0 k x0 x3 (x4.set (x5 : Int).toNat (wrap64 (x6 + 1))) (wrap64 (x5 + 1))) else (none)) else (if x5 < (x4.length : Int) then (haulierref03_Check.l0 k x0 x3 (x4.set (x5 : Int).toNat x6) (wrap64 (x5 + 1))) else (none)))) else (none)) else (none)
def haulierref03_Check.j2 : Nat → List (S39) → List Int → List Int → Int → Int → Int → Int → Bool → Option (Int)
  | 0, _, _, _, _, _, _, _, _ => none
  | k + 1, x0, x3, x4, x5, x6, x7, x8, x58 => if x58 = true then (some 29) else (if 0 ≤ x8 then (if x8 < (x3.length : Int) then ((some (x3.set (x8 : Int).toNat (wrap64 ((rd x3 x8) + 1)) : List Int)).bind fun y150 => (if x8 < (x4.length : Int) then (if (rd x4 x8) > x6 then (haulierref03_Check.l1 k x0 y150 x4 x5 (rd x4 x8) (wrap64 (x7 + 1))) else (haulierref03_Check.l1 k x0 y150 x4 x5 x6 (wrap64 (x7 + 1)))) else (none))) else (none)) else (none))
def haulierref03_Check.l2 : Nat → List (S39) → List Int → List Int → Int → Option (Int)
  | 0, _, _, _, _ => none
  | k + 1, x0, x3, x4, x9 => if x9 < (wrap64 ((x0.length : Int) - 1)) then (if 0 ≤ x9 then (if x9 < (x3.length : Int) then (if (rd x3 x9) = 1 then (haulierref03_Check.l2 k x0 x3 x4 (wrap64 (x9 + 1))) else (some 29)) else (none)) else (none)) else (if 0 ≤ (wrap64 ((x0.length : Int) - 1)) then (if (wrap64 ((x0.length : Int) - 1)) < (x4.length : Int) then (if (rd x4 (wrap64 ((x0.length : Int) - 1))) > 16 then (some 26) else (some 0)) else (none)) else (none))
end
def haulierref03_Check.f (k : Nat) (l0 : List (S39)) : Option (Int) := if (l0.length : Int) = 0 then (some 29) else (if (l0.length : Int) > 8192 then (some 27) else (if 0 ≤ (l0.length : Int) then (if ((l0.length : Int) : Int).toNat ≤ 35184372088832 then (haulierref03_Check.l0 k l0 (List.replicate ((l0.length : Int) : Int).toNat 0) (List.replicate ((l0.length : Int) : Int).toNat 0) 0) else (none)) else (none)))
theorem haulierref03_Check.mono_l : ∀ k, (∀ y0 y1 y2 y3, LeO (haulierref03_Check.l0 k y0 y1 y2 y3) (haulierref03_Check.l0 (k + 1) y0 y1 y2 y3)) ∧ (∀ y0 y1 y2 y3 y4 y5, LeO (haulierref03_Check.l1 k y0 y1 y2 y3 y4 y5) (haulierref03_Check.l1 (k + 1) y0 y1 y2 y3 y4 y5)) ∧ (∀ y0 y1 y2 y3 y4 y5 y6 y7, LeO (haulierref03_Check.j2 k y0 y1 y2 y3 y4 y5 y6 y7) (haulierref03_Check.j2 (k + 1) y0 y1 y2 y3 y4 y5 y6 y7)) ∧ (∀ y0 y1 y2 y3, LeO (haulierref03_Check.l2 k y0 y1 y2 y3) (haulierref03_Check.l2 (k + 1) y0 y1 y2 y3))
  | 0 => ⟨fun _ _ _ _ r h => by simp [haulierref03_Check.l0] at h, fun _ _ _ _ _ _ r h => by simp [haulierref03_Check.l1] at h, fun _ _ _ _ _ _ _ _ r h => by simp [haulierref03_Check.j2] at h, fun _ _ _ _ r h => by simp [haulierref03_Check.l2] at h⟩
  | k + 1 => by
    obtain ⟨ih0, ih1, ih2, ih3⟩ := haulierref03_Check.mono_l k
    refine ⟨?_, ?_, ?_, ?_⟩
    · intro y0 y1 y2 y3
      unfold haulierref03_Check.l0
      repeat' first
      | (with_reducible exact ih0 _ _ _ _)
      | (with_reducible exact ih1 _ _ _ _ _ _)
      | (with_reducible exact ih2 _ _ _ _ _ _ _ _)
      | (with_reducible exact ih3 _ _ _ _)
      | (with_reducible exact haulierref03_plain.mono _ _ _ _ _ _ _)
      | (with_reducible exact LeO.refl _)
      | (with_reducible exact LeO.none _)
      | (with_reducible refine LeO.ite ?_ ?_)
      | (with_reducible refine LeO.bind ?_ (fun _ => ?_))
      | exact ih0 _ _ _ _
      | exact ih1 _ _ _ _ _ _
      | exact ih2 _ _ _ _ _ _ _ _
      | exact ih3 _ _ _ _
      | exact haulierref03_plain.mono _ _ _ _ _ _ _
      | exact LeO.none _
      | refine LeO.ite ?_ ?_
      | refine LeO.bind ?_ (fun _ => ?_)
    · intro y0 y1 y2 y3 y4 y5
      unfold haulierref03_Check.l1
      repeat' first
      | (with_reducible exact ih0 _ _ _ _)
      | (with_reducible exact ih1 _ _ _ _ _ _)
      | (with_reducible exact ih2 _ _ _ _ _ _ _ _)
      | (with_reducible exact ih3 _ _ _ _)
      | (with_reducible exact haulierref03_plain.mono _ _ _ _ _ _ _)
      | (with_reducible exact LeO.refl _)
      | (with_reducible exact LeO.none _)
      | (with_reducible refine LeO.ite ?_ ?_)
      | (with_reducible refine LeO.bind ?_ (fun _ => ?_))
      | exact ih0 _ _ _ _
      | exact ih1 _ _ _ _ _ _
      | exact ih2 _ _ _ _ _ _ _ _
      | exact ih3 _ _ _ _
      | exact haulierref03_plain.mono _ _ _ _ _ _ _
      | exact LeO.none _
      | refine LeO.ite ?_ ?_
      | refine LeO.bind ?_ (fun _ => ?_)
    · intro y0 y1 y2 y3 y4 y5 y6 y7
      unfold haulierref03_Check.j2
      repeat' first
      | (with_reducible exact ih0 _ _ _ _)
      | (with_reducible exact ih1 _ _ _ _ _ _)
      | (with_reducible exact ih2 _ _ _ _ _ _ _ _)
      | (with_reducible exact ih3 _ _ _ _)
      | (with_reducible exact haulierref03_plain.mono _ _ _ _ _ _ _)
      | (with_reducible exact LeO.refl _)
      | (with_reducible exact LeO.none _)
      | (with_reducible refine LeO.ite ?_ ?_)
      | (with_reducible refine LeO.bind ?_ (fun _ => ?_))
      | exact ih0 _ _ _ _
      | exact ih1 _ _ _ _ _ _
      | exact ih2 _ _ _ _ _ _ _ _
      | exact ih3 _ _ _ _
      | exact haulierref03_plain.mono _ _ _ _ _ _ _
      | exact LeO.none _
      | refine LeO.ite ?_ ?_
      | refine LeO.bind ?_ (fun _ => ?_)
    · intro y0 y1 y2 y3
      unfold haulierref03_Check.l2
      repeat' first
      | (with_reducible exact ih0 _ _ _ _)
      | (with_reducible exact ih1 _ _ _ _ _ _)
      | (with_reducible exact ih2 _ _ _ _ _ _ _ _)
      | (with_reducible exact ih3 _ _ _ _)
      | (with_reducible exact haulierref03_plain.mono _ _ _ _ _ _ _)
      | (with_reducible exact LeO.refl _)
      | (with_reducible exact LeO.none _)
      | (with_reducible refine LeO.ite ?_ ?_)
      | (with_reducible refine LeO.bind ?_ (fun _ => ?_))
      | exact ih0 _ _ _ _
      | exact ih1 _ _ _ _ _ _
      | exact ih2 _ _ _ _ _ _ _ _
      | exact ih3 _ _ _ _
      | exact haulierref03_plain.mono _ _ _ _ _ _ _
      | exact LeO.none _
      | refine LeO.ite ?_ ?_
      | refine LeO.bind ?_ (fun _ => ?_)
theorem haulierref03_Check.mono : ∀ a0 k, LeO (haulierref03_Check.f k a0) (haulierref03_Check.f (k + 1) a0) := by
  intro a0 k
  obtain ⟨ih0, ih1, ih2, ih3⟩ := haulierref03_Check.mono_l k
  unfold haulierref03_Check.f
  repeat' first
      | (with_reducible exact ih0 _ _ _ _)
      | (with_reducible exact ih1 _ _ _ _ _ _)
      | (with_reducible exact ih2 _ _ _ _ _ _ _ _)
      | (with_reducible exact ih3 _ _ _ _)
      | (with_reducible exact haulierref03_plain.mono _ _ _ _ _ _ _)
      | (with_reducible exact LeO.refl _)
      | (with_reducible exact LeO.none _)
      | (with_reducible refine LeO.ite ?_ ?_)
      | (with_reducible refine LeO.bind ?_ (fun _ => ?_))
      | exact ih0 _ _ _ _
      | exact ih1 _ _ _ _ _ _
      | exact ih2 _ _ _ _ _ _ _ _
      | exact ih3 _ _ _ _
      | exact haulierref03_plain.mono _ _ _ _ _ _ _
      | exact LeO.none _
      | refine LeO.ite ?_ ?_
      | refine LeO.bind ?_ (fun _ => ?_)
set_option maxHeartbeats 8000000 in
set_option maxRecDepth 100000 in
theorem haulierref03_Check.calls (k : Nat) (A0 : Option Addr) (c0 : Nat) (l0 : List (S39)) (r : Int) (w : World) (hG : Aside0 (Glob w)) (hr0 : Kd.C k39 w A0 l0.length l0) (hc0 : l0.length ≤ c0) (h : haulierref03_Check.f k l0 = some r) :
    Calls Tryd.prog 13 #[.slice A0 l0.length c0] w fun e w' => e = .returned (.int .i64 r) ∧ Below w.heap.size w w' := by
  have hu39 := Tryd.underlying39
  have HR0 := Aside0.mk hr0
  have HC0 := Aside0.mk hc0
  clear hr0 hc0
  have HB := Aside0.mk (Below.refl w.heap.size w)
  have H : (if (l0.length : Int) = 0 then (some 29) else (if (l0.length : Int) > 8192 then (some 27) else (if 0 ≤ (l0.length : Int) then (if ((l0.length : Int) : Int).toNat ≤ 35184372088832 then (haulierref03_Check.l0 k l0 (List.replicate ((l0.length : Int) : Int).toNat 0) (List.replicate ((l0.length : Int) : Int).toNat 0) 0) else (none)) else (none)))) = some r := h
  clear h
  by_cases c2 : (l0.length : Int) = 0
  · rw [if_pos c2] at H
    have c2b0 : ((l0.length : Int) == 0) = true := beq_iff_eq.mpr c2
    have c2b1 : ((l0.length : Int) != 0) = false := bne_eq_false_iff_eq.mpr c2
    clear c2
    obtain rfl := Option.some.inj H
    go_enter Tryd.func13, Tryd.ntmps13
    go_wp2
    go_ret
    exact ⟨by first | rfl | (simp [errW_none, errW_some] <;> rfl) | (simp [*, errW_none, errW_some] <;> rfl), by repeat (first | (with_reducible first | exact HB.out | apply below_alloc | apply pw_below_drewN | apply below_drew1) | exact HB.out)⟩
  · rw [if_neg c2] at H
    have c2b0 : ((l0.length : Int) == 0) = false := beq_eq_false_iff_ne.mpr c2
    have c2b1 : ((l0.length : Int) != 0) = true := bne_iff_ne.mpr c2
    have c2b2 : ¬ (l0 = []) := fun h_ => c2 (by rw [h_]; rfl)
    by_cases c3 : (l0.length : Int) > 8192
    · rw [if_pos c3] at H
      have c3b0 : decide (8192 < (l0.length : Int)) = true := decide_eq_true c3
      have c3b1 : decide (8192 < l0.length) = true := decide_eq_true (by omega)
      clear c3
      obtain rfl := Option.some.inj H
      go_enter Tryd.func13, Tryd.ntmps13
      go_wp2
      go_ret
      exact ⟨by first | rfl | (simp [errW_none, errW_some] <;> rfl) | (simp [*, errW_none, errW_some] <;> rfl), by repeat (first | (with_reducible first | exact HB.out | apply below_alloc | apply pw_below_drewN | apply below_drew1) | exact HB.out)⟩
    · rw [if_neg c3] at H
      have c3b0 : decide (8192 < (l0.length : Int)) = false := decide_eq_false c3
      have c3b1 : decide (8192 < l0.length) = false := decide_eq_false (by omega)
      clear c3
      by_cases c4 : 0 ≤ (l0.length : Int)
      · rw [if_pos c4] at H
        have c4b0 := eq_true c4
        have c4b1 : decide (0 ≤ (l0.length : Int)) = true := decide_eq_true c4
        clear c4
        by_cases c5 : ((l0.length : Int) : Int).toNat ≤ 35184372088832
        · rw [if_pos c5] at H
          have c5b0 := eq_true c5
          have c5b1 : decide (((l0.length : Int) : Int).toNat ≤ 35184372088832) = true := decide_eq_true c5
          clear c5
          obtain ⟨y135, hy135⟩ : ∃ y_ : List Int, y_ = (List.replicate ((l0.length : Int) : Int).toNat 0) := ⟨_, rfl⟩
          replace H : (haulierref03_Check.l0 k l0 y135 (List.replicate ((l0.length : Int) : Int).toNat 0) 0) = some r := by first | (rw [hy135]; with_reducible exact H) | (have H2_ := (Option.bind_some _ _).symm.trans H; rw [hy135]; with_reducible exact H2_) | (have H2_ := (Option.bind_some _ _).symm.trans H; with_reducible exact H2_) | with_reducible exact H | (rw [hy135]; exact H) | exact H
          have Ny135 := Aside0.mk hy135
          clear hy135
          obtain ⟨y138, hy138⟩ : ∃ y_ : List Int, y_ = (List.replicate ((l0.length : Int) : Int).toNat 0) := ⟨_, rfl⟩
          replace H : (haulierref03_Check.l0 k l0 y135 y138 0) = some r := by first | (rw [hy138]; with_reducible exact H) | (have H2_ := (Option.bind_some _ _).symm.trans H; rw [hy138]; with_reducible exact H2_) | (have H2_ := (Option.bind_some _ _).symm.trans H; with_reducible exact H2_) | with_reducible exact H | (rw [hy138]; exact H) | exact H
          have Ny138 := Aside0.mk hy138
          clear hy138
          have H' := Aside0.mk H
          clear H
          go_enter Tryd.func13, Tryd.ntmps13
          go_wp2_with (first | ((with_reducible refine gate_dst (N := 18) rfl ?_); refine Kd.R_make (Kd.int .i64) _ 3 rfl (N := 18) rfl 37 _ _ rfl (l0.length : Int) rfl rfl Tryd.underlying37 (.int .i64 0) 8 info3 rfl (by decide) (by omega) 0 (ok := fun _ => True) (okp := fun _ => True) rfl (fun _ hk => hk) trivial (of_decide_eq_true (by first | (with_reducible assumption) | assumption)) (Nat.le_trans (Nat.mul_le_mul_right _ (of_decide_eq_true (by first | (with_reducible assumption) | assumption) : (l0.length : Int).toNat ≤ 35184372088832)) (by omega)) (Below.refl _ _) (Nat.le_refl _) ?_; intro v136 w6 ho7 hb hg_ hnew_; clear hg_ hnew_; (first | rw [← Ny135.out] at ho7 | (simp only [Int.reduceToNat] at ho7; rw [← Ny135.out] at ho7)); have n0_ := Aside0.mk (Kd.R_lower ho7 (below_size (by repeat (first | (with_reducible first | exact HB.out | apply below_alloc | apply pw_below_drewN | apply below_drew1) | exact HB.out)))); have n1_ := Aside0.mk (below_step (by repeat (first | (with_reducible first | exact HB.out | apply below_alloc | apply pw_below_drewN | apply below_drew1) | exact HB.out)) hb); clear HB; have HO137 := n0_; have HB := n1_; clear n0_ n1_; clear hb ho7) | ((with_reducible refine gate_dst (N := 21) rfl ?_); refine Kd.R_make (Kd.int .i64) _ 3 rfl (N := 21) rfl 37 _ _ rfl (l0.length : Int) rfl rfl Tryd.underlying37 (.int .i64 0) 8 info3 rfl (by decide) (by omega) 0 (ok := fun _ => True) (okp := fun _ => True) rfl (fun _ hk => hk) trivial (of_decide_eq_true (by first | (with_reducible assumption) | assumption)) (Nat.le_trans (Nat.mul_le_mul_right _ (of_decide_eq_true (by first | (with_reducible assumption) | assumption) : (l0.length : Int).toNat ≤ 35184372088832)) (by omega)) (Below.refl _ _) (Nat.le_refl _) ?_; intro v139 w8 ho9 hb hg_ hnew_; clear hg_ hnew_; (first | rw [← Ny138.out] at ho9 | (simp only [Int.reduceToNat] at ho9; rw [← Ny138.out] at ho9)); have n0_ := Aside0.mk (Kd.R_elder' (by (with_reducible repeat (first | apply Kd.R_alloc | apply Kd.R_drewN | apply Kd.R_drew)); exact HO137.out) (Kd.R_base ho9) hb); have n1_ := Aside0.mk (Kd.R_lower (Kd.R_new' ho9 (Kd.R_lt (by (with_reducible repeat (first | apply Kd.R_alloc | apply Kd.R_drewN | apply Kd.R_drew)); exact HO137.out))) (below_size (by repeat (first | (with_reducible first | exact HB.out | apply below_alloc | apply pw_below_drewN | apply below_drew1) | exact HB.out)))); have n2_ := Aside0.mk (below_step (by repeat (first | (with_reducible first | exact HB.out | apply below_alloc | apply pw_below_drewN | apply below_drew1) | exact HB.out)) hb); clear HO137; clear HB; have HO137 := n0_; have HO140 := n1_; have HB := n2_; clear n0_ n1_ n2_; clear hb ho9))
          go_loopg [5] k (fun kq v5 w' => ∃ (x3_1 : List Int) (x4_1 : List Int) (x5_1 : Int), v5 = .int .i64 x5_1 ∧ Aside0 (haulierref03_Check.l0 kq l0 x3_1 x4_1 x5_1 = some r) ∧ Aside0 (kq ≤ k) ∧ Aside0 (Kd.R (Kd.int .i64) 3 w' w.heap.size (fun k_ => some k_ ≠ (v139 : Value).ownBlock) v136 x3_1) ∧ Aside0 (Kd.R (Kd.int .i64) 3 w' w.heap.size (fun k_ => some k_ ≠ (v136 : Value).ownBlock) v139 x4_1) ∧ Aside0 (Below w.heap.size w w'))
          case atStart => exact ⟨(y135), (y138), (0), (by first | rfl | (simp; done) | (simp [*]; done)), H', ⟨Nat.le_refl _⟩, ⟨by (with_reducible repeat (first | apply Kd.R_alloc | apply Kd.R_drewN | apply Kd.R_drew)); exact Kd.R_mono HO137.out (fun _ hk => hk.2)⟩, ⟨by (with_reducible repeat (first | apply Kd.R_alloc | apply Kd.R_drewN | apply Kd.R_drew)); exact Kd.R_mono HO140.out (fun _ hk => hk.2)⟩, ⟨by repeat (first | (with_reducible first | exact HB.out | apply below_alloc | apply pw_below_drewN | apply below_drew1) | exact HB.out)⟩⟩
          case round =>
            clear H'
            try clear c1
            try clear c2
            try clear c2b0
            try clear c2b1
            try clear c2b2
            try clear p2
            try clear c3
            try clear c3b0
            try clear c3b1
            try clear c4
            try clear c4b0
            try clear c4b1
            try clear c5
            try clear c5b0
            try clear c5b1
            obtain ⟨x3_1, x4_1, x5_1, rfl, HA, HK1, HO_3, HO_4, HB⟩ := hrel
            cases gk with
            | zero => exact absurd HA.out (by simp [haulierref03_Check.l0])
            | succ k1 =>
              have H := HA.out
              clear HA
              simp only [haulierref03_Check.l0] at H
              by_cases c10 : x5_1 < (l0.length : Int)
              · rw [if_pos c10] at H
                have c10b0 : decide (x5_1 < (l0.length : Int)) = true := decide_eq_true c10
                clear c10
                by_cases c11 : 0 ≤ x5_1
                · rw [if_pos c11] at H
                  have c11b0 : decide (0 ≤ x5_1) = true := decide_eq_true c11
                  clear c11
                  replace H := Option.bind_eq_some_iff.mp H
                  obtain ⟨t142, A120, H⟩ := H
                  replace H : (if t142 = true then (haulierref03_Check.l1 k1 l0 x3_1 x4_1 x5_1 0 0) else (some 29)) = some r := H
                  have A12 := Aside0.mk A120
                  clear A120
                  by_cases c13 : t142 = true
                  · subst c13
                    have H1 : (haulierref03_Check.l1 k1 l0 x3_1 x4_1 x5_1 0 0) = some r := by rw [if_pos rfl] at H; exact H
                    clear H
                    have H := H1
                    clear H1
                    have H' := Aside0.mk H
                    clear H
                    have p141 : 0 ≤ (x5_1 : Int) := of_decide_eq_true (by first | (with_reducible assumption) | assumption)
                    have q141 : x5_1 < (l0.length : Int) := of_decide_eq_true (by first | (with_reducible assumption) | assumption)
                    obtain ⟨ad141, A141_4, c141_4, A141_5, c141_5, e141, hx141_0, hx141_1, hx141_2, hx141_3, hx141_4, hx141_5, hl141_4, hi141_4, hl141_5, hi141_5⟩ := at_T39 HR0.out x5_1 p141 q141
                    cases e141
                    replace hx141_0 := (HB.out.cell (World.block_lt_of_cell? w _ hx141_0)).trans hx141_0
                    replace hx141_1 := (HB.out.cell (World.block_lt_of_cell? w _ hx141_1)).trans hx141_1
                    replace hx141_2 := (HB.out.cell (World.block_lt_of_cell? w _ hx141_2)).trans hx141_2
                    replace hx141_3 := (HB.out.cell (World.block_lt_of_cell? w _ hx141_3)).trans hx141_3
                    replace hx141_4 := (HB.out.cell (World.block_lt_of_cell? w _ hx141_4)).trans hx141_4
                    replace hx141_5 := (HB.out.cell (World.block_lt_of_cell? w _ hx141_5)).trans hx141_5
                    have HR141_4 := Aside0.mk hi141_4
                    have HC141_4 := Aside0.mk hl141_4
                    clear hi141_4 hl141_4
                    have HR141_5 := Aside0.mk hi141_5
                    have HC141_5 := Aside0.mk hl141_5
                    clear hi141_5 hl141_5
                    replace p141 := eq_true p141
                    replace q141 := eq_true q141
                    go_wp2_with (first | ((with_reducible refine gate_callee (f := 24) rfl ?_); refine goesL_ (some 32) rfl rfl Tryd.func24 (by kernel_rfl) rfl #[.agg #[.int .i64 ((rd_T39 l0 x5_1).f0), .bool ((rd_T39 l0 x5_1).f1), .int .i64 ((rd_T39 l0 x5_1).f2), .string ((rd_T39 l0 x5_1).f3), .slice A141_4 ((rd_T39 l0 x5_1).f4).length c141_4, .slice A141_5 ((rd_T39 l0 x5_1).f5).length c141_5]] rfl (by (try simp only [List.map_toArray, List.map_cons, List.map_nil]); first | done | rfl | (simp only [List.length_drop, List.length_take]; rfl)) ?_; (with_reducible refine (haulierref03_plain.calls k1 ((rd_T39 l0 x5_1).f0) ((rd_T39 l0 x5_1).f1) ((rd_T39 l0 x5_1).f2) ((rd_T39 l0 x5_1).f3) _ _ ((rd_T39 l0 x5_1).f4) _ _ ((rd_T39 l0 x5_1).f5) true _ ⟨by repeat (first | exact hG.out | exact hG.out.below (by repeat (first | (with_reducible first | exact HB.out | apply below_alloc | apply pw_below_drewN | apply below_drew1) | exact HB.out | exact Below.refl _ _)) | apply Glob.drewN | apply Glob.drew)⟩ ?side1 ?side2 ?side3 ?side4 A12.out).mono ?_); (case side1 => repeat (first | exact (Kd.C_below HR141_4.out HB.out) | (with_reducible refine Kd.C_alloc ?_ _) | (with_reducible refine Kd.C_drewN ?_ _) | (with_reducible refine Kd.C_drew ?_))); (case side2 => exact HC141_4.out); (case side3 => repeat (first | exact (Kd.C_below HR141_5.out HB.out) | (with_reducible refine Kd.C_alloc ?_ _) | (with_reducible refine Kd.C_drewN ?_ _) | (with_reducible refine Kd.C_drew ?_))); (case side4 => exact HC141_5.out); rintro e w14 ⟨rfl, hb⟩; refine ⟨_, rfl, ?_⟩; have n0_ := Aside0.mk (Kd.R_below (by (with_reducible repeat (first | apply Kd.R_alloc | apply Kd.R_drewN | apply Kd.R_drew)); exact HO_3.out) hb); have n1_ := Aside0.mk (Kd.R_below (by (with_reducible repeat (first | apply Kd.R_alloc | apply Kd.R_drewN | apply Kd.R_drew)); exact HO_4.out) hb); have n2_ := Aside0.mk (below_step (by repeat (first | (with_reducible first | exact HB.out | apply below_alloc | apply pw_below_drewN | apply below_drew1) | exact HB.out)) hb); clear HO_3; clear HO_4; clear HB; have HO_3 := n0_; have HO_4 := n1_; have HB := n2_; clear n0_ n1_ n2_; (try clear hb); (try clear hb2); (try clear hk); (try clear hi)))
                    go_loopg [6, 7] k1 (fun kq v6 v7 w' => ∃ (x3_2 : List Int) (x6_2 : Int) (x7_2 : Int), v6 = .int .i64 x6_2 ∧ v7 = .int .i64 x7_2 ∧ Aside0 (haulierref03_Check.l1 kq l0 x3_2 x4_1 x5_1 x6_2 x7_2 = some r) ∧ Aside0 (kq ≤ k1) ∧ Aside0 (Kd.R (Kd.int .i64) 3 w' w.heap.size (fun k_ => some k_ ≠ (v139 : Value).ownBlock) v136 x3_2) ∧ Aside0 (Kd.R (Kd.int .i64) 3 w' w.heap.size (fun k_ => some k_ ≠ (v136 : Value).ownBlock) v139 x4_1) ∧ Aside0 (Below w.heap.size w w'))
                    case atStart => exact ⟨(x3_1), (0), (0), (by first | rfl | (simp; done) | (simp [*]; done)), (by first | rfl | (simp; done) | (simp [*]; done)), H', ⟨Nat.le_refl _⟩, ⟨by (with_reducible repeat (first | apply Kd.R_alloc | apply Kd.R_drewN | apply Kd.R_drew)); exact HO_3.out⟩, ⟨by (with_reducible repeat (first | apply Kd.R_alloc | apply Kd.R_drewN | apply Kd.R_drew)); exact HO_4.out⟩, ⟨by repeat (first | (with_reducible first | exact HB.out | apply below_alloc | apply pw_below_drewN | apply below_drew1) | exact HB.out)⟩⟩
                    case round =>
                      clear H'
                      try clear c1
                      try clear p1
                      try clear q1
                      try clear hx1
                      try clear c2
                      try clear c2b0
                      try clear c2b1
                      try clear c2b2
                      try clear p2
                      try clear c3
                      try clear c3b0
                      try clear c3b1
                      try clear c4
                      try clear c4b0
                      try clear c4b1
                      try clear c5
                      try clear c5b0
                      try clear c5b1
                      try clear c10
                      try clear c10b0
                      try clear c11
                      try clear c11b0
                      try clear c13
                      try clear c14
                      try clear p14
                      try clear q14
                      try clear hx14
                      try clear hx141_0
                      try clear hx141_1
                      try clear hx141_2
                      try clear hx141_3
                      try clear hx141_4
                      try clear hx141_5
                      try clear p141
                      try clear p2
                      try clear q141
                      obtain ⟨x3_2, x6_2, x7_2, rfl, rfl, HA, HK2, HO_3, HO_4, HB⟩ := hrel
                      cases gk with
                      | zero => exact absurd HA.out (by simp [haulierref03_Check.l1])
                      | succ k2 =>
                        have H := HA.out
                        clear HA
                        simp only [haulierref03_Check.l1] at H
                        by_cases c15 : 0 ≤ x5_1
                        · rw [if_pos c15] at H
                          have c15b0 : decide (0 ≤ x5_1) = true := decide_eq_true c15
                          clear c15
                          by_cases c16 : x5_1 < (l0.length : Int)
                          · rw [if_pos c16] at H
                            have c16b0 : decide (x5_1 < (l0.length : Int)) = true := decide_eq_true c16
                            clear c16
                            by_cases c17 : x7_2 < (((rd_T39 l0 x5_1).f5).length : Int)
                            · rw [if_pos c17] at H
                              have c17b0 : decide (x7_2 < (((rd_T39 l0 x5_1).f5).length : Int)) = true := decide_eq_true c17
                              clear c17
                              by_cases c18 : 0 ≤ x7_2
                              · rw [if_pos c18] at H
                                have c18b0 : decide (0 ≤ x7_2) = true := decide_eq_true c18
                                clear c18
                                have HC19 := Aside0.mk H
                                clear H
                                have p143 : 0 ≤ (x5_1 : Int) := of_decide_eq_true (by first | (with_reducible assumption) | assumption)
                                have q143 : x5_1 < (l0.length : Int) := of_decide_eq_true (by first | (with_reducible assumption) | assumption)
                                obtain ⟨ad143, A143_4, c143_4, A143_5, c143_5, e143, hx143_0, hx143_1, hx143_2, hx143_3, hx143_4, hx143_5, hl143_4, hi143_4, hl143_5, hi143_5⟩ := at_T39 HR0.out x5_1 p143 q143
                                obtain rfl : ad141 = ad143 := (by injection e143)
                                replace hx143_0 := (HB.out.cell (World.block_lt_of_cell? w _ hx143_0)).trans hx143_0
                                replace hx143_1 := (HB.out.cell (World.block_lt_of_cell? w _ hx143_1)).trans hx143_1
                                replace hx143_2 := (HB.out.cell (World.block_lt_of_cell? w _ hx143_2)).trans hx143_2
                                replace hx143_3 := (HB.out.cell (World.block_lt_of_cell? w _ hx143_3)).trans hx143_3
                                replace hx143_4 := (HB.out.cell (World.block_lt_of_cell? w _ hx143_4)).trans hx143_4
                                replace hx143_5 := (HB.out.cell (World.block_lt_of_cell? w _ hx143_5)).trans hx143_5
                                have HR143_4 := Aside0.mk hi143_4
                                have HC143_4 := Aside0.mk hl143_4
                                clear hi143_4 hl143_4
                                have HR143_5 := Aside0.mk hi143_5
                                have HC143_5 := Aside0.mk hl143_5
                                clear hi143_5 hl143_5
                                replace p143 := eq_true p143
                                replace q143 := eq_true q143
                                have p147 : 0 ≤ (x5_1 : Int) := of_decide_eq_true (by first | (with_reducible assumption) | assumption)
                                have q147 : x5_1 < (l0.length : Int) := of_decide_eq_true (by first | (with_reducible assumption) | assumption)
                                obtain ⟨ad147, A147_4, c147_4, A147_5, c147_5, e147, hx147_0, hx147_1, hx147_2, hx147_3, hx147_4, hx147_5, hl147_4, hi147_4, hl147_5, hi147_5⟩ := at_T39 HR0.out x5_1 p147 q147
                                obtain rfl : ad141 = ad147 := (by injection e147)
                                replace hx147_0 := (HB.out.cell (World.block_lt_of_cell? w _ hx147_0)).trans hx147_0
                                replace hx147_1 := (HB.out.cell (World.block_lt_of_cell? w _ hx147_1)).trans hx147_1
                                replace hx147_2 := (HB.out.cell (World.block_lt_of_cell? w _ hx147_2)).trans hx147_2
                                replace hx147_3 := (HB.out.cell (World.block_lt_of_cell? w _ hx147_3)).trans hx147_3
                                replace hx147_4 := (HB.out.cell (World.block_lt_of_cell? w _ hx147_4)).trans hx147_4
                                replace hx147_5 := (HB.out.cell (World.block_lt_of_cell? w _ hx147_5)).trans hx147_5
                                have HR147_4 := Aside0.mk hi147_4
                                have HC147_4 := Aside0.mk hl147_4
                                clear hi147_4 hl147_4
                                have HR147_5 := Aside0.mk hi147_5
                                have HC147_5 := Aside0.mk hl147_5
                                clear hi147_5 hl147_5
                                replace p147 := eq_true p147
                                replace q147 := eq_true q147
                                have ea_ := Option.some.inj (hx143_4.symm.trans hx147_4)
                                injection ea_ with ea_ en_ ec_
                                subst ea_
                                subst ec_
                                clear en_
                                have ea_ := Option.some.inj (hx143_5.symm.trans hx147_5)
                                injection ea_ with ea_ en_ ec_
                                subst ea_
                                subst ec_
                                clear en_
                                have p148 : 0 ≤ (x7_2 : Int) := of_decide_eq_true (by first | (with_reducible assumption) | assumption)
                                have q148 : x7_2 < (((rd_T39 l0 x5_1).f5).length : Int) := of_decide_eq_true (by first | (with_reducible assumption) | assumption)
                                obtain ⟨ad148, e148, hx148_0⟩ := Kd.at_int HR147_5.out x7_2 p148 q148
                                cases e148
                                replace hx148_0 := (HB.out.cell (World.block_lt_of_cell? w _ hx148_0)).trans hx148_0
                                replace p148 := eq_true p148
                                replace q148 := eq_true q148
                                go_upto_region 17 with (fail)
                                go_cut [58] (fun v58 wc => ∃ (kq : Nat) (x58_18 : Bool), v58 = .bool x58_18 ∧ Aside0 (haulierref03_Check.j2 kq l0 x3_2 x4_1 x5_1 x6_2 x7_2 (rd ((rd_T39 l0 x5_1).f5) x7_2) x58_18 = some r) ∧ Aside0 (kq ≤ k2) ∧ Aside0 (Kd.R (Kd.int .i64) 3 wc w.heap.size (fun k_ => some k_ ≠ (v139 : Value).ownBlock) v136 x3_2) ∧ Aside0 (Kd.R (Kd.int .i64) 3 wc w.heap.size (fun k_ => some k_ ≠ (v136 : Value).ownBlock) v139 x4_1) ∧ Aside0 (Below w.heap.size w wc))
                                case first =>
                                  have H := HC19.out
                                  clear HC19
                                  by_cases c20 : (rd ((rd_T39 l0 x5_1).f5) x7_2) < 0
                                  · rw [if_pos c20] at H
                                    have c20b0 : decide ((rd ((rd_T39 l0 x5_1).f5) x7_2) < 0) = true := decide_eq_true c20
                                    clear c20
                                    (first | rw [c20b0] | (simp only [i64_w, i32_w]; rw [c20b0]) | skip)
                                    have H' := Aside0.mk H
                                    clear H
                                    go_wp2
                                    go_meet
                                    case rel => exact ⟨_, (true), (by first | rfl | (simp; done) | (simp [*]; done)), H', ⟨by have := HK1.out; have := HK2.out; first | omega | exact Nat.le_refl _⟩, ⟨by (with_reducible repeat (first | apply Kd.R_alloc | apply Kd.R_drewN | apply Kd.R_drew)); exact HO_3.out⟩, ⟨by (with_reducible repeat (first | apply Kd.R_alloc | apply Kd.R_drewN | apply Kd.R_drew)); exact HO_4.out⟩, ⟨by repeat (first | (with_reducible first | exact HB.out | apply below_alloc | apply pw_below_drewN | apply below_drew1) | exact HB.out)⟩⟩
                                  · rw [if_neg c20] at H
                                    have c20b0 : decide ((rd ((rd_T39 l0 x5_1).f5) x7_2) < 0) = false := decide_eq_false c20
                                    clear c20
                                    (first | rw [c20b0] | (simp only [i64_w, i32_w]; rw [c20b0]) | skip)
                                    have H' := Aside0.mk H
                                    clear H
                                    go_wp2
                                    go_meet
                                    case rel => exact ⟨_, (decide ((rd ((rd_T39 l0 x5_1).f5) x7_2) ≥ x5_1)), (by first | rfl | (simp; done) | (simp [*]; done)), H', ⟨by have := HK1.out; have := HK2.out; first | omega | exact Nat.le_refl _⟩, ⟨by (with_reducible repeat (first | apply Kd.R_alloc | apply Kd.R_drewN | apply Kd.R_drew)); exact HO_3.out⟩, ⟨by (with_reducible repeat (first | apply Kd.R_alloc | apply Kd.R_drewN | apply Kd.R_drew)); exact HO_4.out⟩, ⟨by repeat (first | (with_reducible first | exact HB.out | apply below_alloc | apply pw_below_drewN | apply below_drew1) | exact HB.out)⟩⟩
                                case rest =>
                                  clear HC19
                                  try clear c1
                                  try clear p1
                                  try clear q1
                                  try clear hx1
                                  try clear c2
                                  try clear c2b0
                                  try clear c2b1
                                  try clear c2b2
                                  try clear p2
                                  try clear c3
                                  try clear c3b0
                                  try clear c3b1
                                  try clear c4
                                  try clear c4b0
                                  try clear c4b1
                                  try clear c5
                                  try clear c5b0
                                  try clear c5b1
                                  try clear c10
                                  try clear c10b0
                                  try clear c11
                                  try clear c11b0
                                  try clear c13
                                  try clear c14
                                  try clear p14
                                  try clear q14
                                  try clear hx14
                                  try clear c15
                                  try clear c15b0
                                  try clear c16
                                  try clear c16b0
                                  try clear c17
                                  try clear c17b0
                                  try clear c18
                                  try clear c18b0
                                  try clear c20
                                  try clear c20b0
                                  try clear hx141_0
                                  try clear hx141_1
                                  try clear hx141_2
                                  try clear hx141_3
                                  try clear hx141_4
                                  try clear hx141_5
                                  try clear hx143_0
                                  try clear hx143_1
                                  try clear hx143_2
                                  try clear hx143_3
                                  try clear hx143_4
                                  try clear hx143_5
                                  try clear hx147_0
                                  try clear hx147_1
                                  try clear hx147_2
                                  try clear hx147_3
                                  try clear hx147_4
                                  try clear hx147_5
                                  try clear hx148_0
                                  try clear p1
                                  try clear p14
                                  try clear p141
                                  try clear p143
                                  try clear p147
                                  try clear p148
                                  try clear p2
                                  try clear q1
                                  try clear q14
                                  try clear q141
                                  try clear q143
                                  try clear q147
                                  try clear q148
                                  obtain ⟨kq, x58_18, rfl, HA, HJ18, HO_3, HO_4, HB⟩ := hcut
                                  cases kq with
                                  | zero => exact absurd HA.out (by simp [haulierref03_Check.j2])
                                  | succ kj18 =>
                                    have H := HA.out
                                    clear HA
                                    simp only [haulierref03_Check.j2] at H
                                    by_cases c21 : x58_18 = true
                                    · subst c21
                                      have H1 : (some 29) = some r := by rw [if_pos rfl] at H; exact H
                                      clear H
                                      have H := H1
                                      clear H1
                                      obtain rfl := Option.some.inj H
                                      go_wp2
                                      go_ret
                                      exact ⟨by first | rfl | (simp [errW_none, errW_some] <;> rfl) | (simp [*, errW_none, errW_some] <;> rfl), by repeat (first | (with_reducible first | exact HB.out | apply below_alloc | apply pw_below_drewN | apply below_drew1) | exact HB.out)⟩
                                    · replace c21 := Bool.eq_false_iff.mpr c21
                                      subst c21
                                      have H1 : (if 0 ≤ (rd ((rd_T39 l0 x5_1).f5) x7_2) then (if (rd ((rd_T39 l0 x5_1).f5) x7_2) < (x3_2.length : Int) then ((some (x3_2.set ((rd ((rd_T39 l0 x5_1).f5) x7_2) : Int).toNat (wrap64 ((rd x3_2 (rd ((rd_T39 l0 x5_1).f5) x7_2)) + 1)) : List Int)).bind fun y150 => (if (rd ((rd_T39 l0 x5_1).f5) x7_2) < (x4_1.length : Int) then (if (rd x4_1 (rd ((rd_T39 l0 x5_1).f5) x7_2)) > x6_2 then (haulierref03_Check.l1 kj18 l0 y150 x4_1 x5_1 (rd x4_1 (rd ((rd_T39 l0 x5_1).f5) x7_2)) (wrap64 (x7_2 + 1))) else (haulierref03_Check.l1 kj18 l0 y150 x4_1 x5_1 x6_2 (wrap64 (x7_2 + 1)))) else (none))) else (none)) else (none)) = some r := by rw [if_neg (show ¬ (false = true) by decide)] at H; exact H
                                      clear H
                                      have H := H1
                                      clear H1
                                      by_cases c22 : 0 ≤ (rd ((rd_T39 l0 x5_1).f5) x7_2)
                                      · rw [if_pos c22] at H
                                        have c22b0 : decide (0 ≤ (rd ((rd_T39 l0 x5_1).f5) x7_2)) = true := decide_eq_true c22
                                        clear c22
                                        by_cases c23 : (rd ((rd_T39 l0 x5_1).f5) x7_2) < (x3_2.length : Int)
                                        · rw [if_pos c23] at H
                                          have c23b0 : decide ((rd ((rd_T39 l0 x5_1).f5) x7_2) < (x3_2.length : Int)) = true := decide_eq_true c23
                                          clear c23
                                          obtain ⟨y150, hy150⟩ : ∃ y_ : List Int, y_ = (x3_2.set ((rd ((rd_T39 l0 x5_1).f5) x7_2) : Int).toNat (wrap64 ((rd x3_2 (rd ((rd_T39 l0 x5_1).f5) x7_2)) + 1))) := ⟨_, rfl⟩
                                          replace H : (if (rd ((rd_T39 l0 x5_1).f5) x7_2) < (x4_1.length : Int) then (if (rd x4_1 (rd ((rd_T39 l0 x5_1).f5) x7_2)) > x6_2 then (haulierref03_Check.l1 kj18 l0 y150 x4_1 x5_1 (rd x4_1 (rd ((rd_T39 l0 x5_1).f5) x7_2)) (wrap64 (x7_2 + 1))) else (haulierref03_Check.l1 kj18 l0 y150 x4_1 x5_1 x6_2 (wrap64 (x7_2 + 1)))) else (none)) = some r := by first | (rw [hy150]; with_reducible exact H) | (have H2_ := (Option.bind_some _ _).symm.trans H; rw [hy150]; with_reducible exact H2_) | (have H2_ := (Option.bind_some _ _).symm.trans H; with_reducible exact H2_) | with_reducible exact H | (rw [hy150]; exact H) | exact H
                                          have Ny150 := Aside0.mk hy150
                                          clear hy150
                                          by_cases c25 : (rd ((rd_T39 l0 x5_1).f5) x7_2) < (x4_1.length : Int)
                                          · rw [if_pos c25] at H
                                            have c25b0 : decide ((rd ((rd_T39 l0 x5_1).f5) x7_2) < (x4_1.length : Int)) = true := decide_eq_true c25
                                            clear c25
                                            by_cases c26 : (rd x4_1 (rd ((rd_T39 l0 x5_1).f5) x7_2)) > x6_2
                                            · rw [if_pos c26] at H
                                              have c26b0 : decide (x6_2 < (rd x4_1 (rd ((rd_T39 l0 x5_1).f5) x7_2))) = true := decide_eq_true c26
                                              clear c26
                                              have H' := Aside0.mk H
                                              clear H
                                              obtain ⟨Ao27, co27, eo27⟩ := Kd.R_slice HO_3.out
                                              subst eo27
                                              have p149 : 0 ≤ ((rd ((rd_T39 l0 x5_1).f5) x7_2) : Int) := of_decide_eq_true (by first | (with_reducible assumption) | assumption)
                                              have q149 : (rd ((rd_T39 l0 x5_1).f5) x7_2) < (x3_2.length : Int) := of_decide_eq_true (by first | (with_reducible assumption) | assumption)
                                              obtain ⟨ad149, e149, hx149_0⟩ := Kd.at_int (Kd.R_reads' HO_3.out).2.2 (rd ((rd_T39 l0 x5_1).f5) x7_2) p149 q149
                                              cases e149
                                              replace p149 := eq_true p149
                                              replace q149 := eq_true q149
                                              have p24 : 0 ≤ ((rd ((rd_T39 l0 x5_1).f5) x7_2) : Int) := of_decide_eq_true (by first | (with_reducible assumption) | assumption)
                                              have q24 : ((rd ((rd_T39 l0 x5_1).f5) x7_2) : Int) < ((x3_2.length : Int) : Int) := of_decide_eq_true (by first | (with_reducible assumption) | assumption)
                                              obtain ⟨go24, co24, eo24, gb24, gl24, cl24, HG24⟩ := Kd.R_form HO_3.out (by omega)
                                              (first | cases eo24 | (injection eo24 with ea_ en_ ec_; (first | subst ea_ | (injection ea_ with ea_; subst ea_)); subst ec_; clear en_))
                                              have GB24 := Aside0.mk gb24
                                              have GG24 := Aside0.mk HG24
                                              clear gb24 gl24 HG24
                                              (first | simp only [add_plain] at hx149_0 | skip)
                                              obtain ⟨hx24_0, hf24_0⟩ := Kd.R_celln 0 HO_3.out ((rd ((rd_T39 l0 x5_1).f5) x7_2) : Int) p24 q24
                                              replace p24 := eq_true p24
                                              replace q24 := eq_true q24
                                              have HP28 := Kd.R_putg HO_3.out ((rd ((rd_T39 l0 x5_1).f5) x7_2) : Int) (wrap64 ((rd x3_2 (rd ((rd_T39 l0 x5_1).f5) x7_2)) + 1))
                                              go_wp2_with (first | ((with_reducible refine gate_store (t := 3) (p := 66) rfl ?_); refine store_event (t := 3) (p := 66) (v := ?vo_w29) (w1 := (wc.setCell ⟨go24, ((rd ((rd_T39 l0 x5_1).f5) x7_2) : Int).toNat, none⟩ (.int .i64 (wrap64 ((rd x3_2 (rd ((rd_T39 l0 x5_1).f5) x7_2)) + 1))))) ?hg ?ho ?hn ?hr ?_; (case ho => rfl); (case hg => rfl); (case hn => rfl); (case hr => first | (go_simp; done) | (go_simp; rfl)); intro w29 hw; have hg : wc.grownBy w29 (some go24) := (by rw [hw]; exact HP28.2); have hp_ : Kd.R (Kd.int .i64) 3 w29 w.heap.size (fun k_ => some k_ ≠ (v139 : Value).ownBlock) (.slice (some ⟨go24, 0, none⟩) x3_2.length co27) y150 := (by rw [hw, Ny150.out]; exact HP28.1); clear HP28; have n0_ := Aside0.mk (hp_); have n1_ := Aside0.mk (Kd.R_after (v := (.slice (some ⟨go24, 0, none⟩) x3_2.length co27)) (v1 := (.slice (some ⟨go24, 0, none⟩) x3_2.length co27)) (ok := (fun _ => True)) (by (with_reducible repeat (first | apply Kd.R_alloc | apply Kd.R_drewN | apply Kd.R_drew)); exact Kd.R_mono HO_4.out (fun _ hk => ⟨trivial, hk⟩)) hg (.inl rfl)); have n2_ := Aside0.mk ((by rw [hw]; exact below_set (HB.out) GB24.out : Below w.heap.size w w29)); clear HO_3; clear HO_4; clear HB; have HO_3 := n0_; have HO_4 := n1_; have HB := n2_; clear n0_ n1_ n2_; clear hg hw hp_; obtain ⟨Ao30, co30, eo30⟩ := Kd.R_slice HO_4.out; subst eo30; have p151 : 0 ≤ ((rd ((rd_T39 l0 x5_1).f5) x7_2) : Int) := of_decide_eq_true (by first | (with_reducible assumption) | assumption); have q151 : (rd ((rd_T39 l0 x5_1).f5) x7_2) < (x4_1.length : Int) := of_decide_eq_true (by first | (with_reducible assumption) | assumption); obtain ⟨ad151, e151, hx151_0⟩ := Kd.at_int (Kd.R_reads' HO_4.out).2.2 (rd ((rd_T39 l0 x5_1).f5) x7_2) p151 q151; cases e151; replace p151 := eq_true p151; replace q151 := eq_true q151; have p152 : 0 ≤ ((rd ((rd_T39 l0 x5_1).f5) x7_2) : Int) := of_decide_eq_true (by first | (with_reducible assumption) | assumption); have q152 : (rd ((rd_T39 l0 x5_1).f5) x7_2) < (x4_1.length : Int) := of_decide_eq_true (by first | (with_reducible assumption) | assumption); obtain ⟨ad152, e152, hx152_0⟩ := Kd.at_int (Kd.R_reads' HO_4.out).2.2 (rd ((rd_T39 l0 x5_1).f5) x7_2) p152 q152; obtain rfl : ad151 = ad152 := (by injection e152); replace p152 := eq_true p152; replace q152 := eq_true q152))
                                              go_roundg kj18
                                              case measure => have := HK1.out; have := HK2.out; have := HJ18.out; omega
                                              case rel => exact ⟨(y150), (rd x4_1 (rd ((rd_T39 l0 x5_1).f5) x7_2)), (wrap64 (x7_2 + 1)), (by first | rfl | (simp; done) | (simp [*]; done)), (by first | rfl | (simp; done) | (simp [*]; done)), H', ⟨by have := HK1.out; have := HK2.out; have := HJ18.out; omega⟩, ⟨by (with_reducible repeat (first | apply Kd.R_alloc | apply Kd.R_drewN | apply Kd.R_drew)); exact HO_3.out⟩, ⟨by (with_reducible repeat (first | apply Kd.R_alloc | apply Kd.R_drewN | apply Kd.R_drew)); exact Kd.R_mono HO_4.out (fun _ hk => hk.2)⟩, ⟨by repeat (first | (with_reducible first | exact HB.out | apply below_alloc | apply pw_below_drewN | apply below_drew1) | exact HB.out)⟩⟩
                                            · rw [if_neg c26] at H
                                              have c26b0 : decide (x6_2 < (rd x4_1 (rd ((rd_T39 l0 x5_1).f5) x7_2))) = false := decide_eq_false c26
                                              clear c26
                                              have H' := Aside0.mk H
                                              clear H
                                              obtain ⟨Ao31, co31, eo31⟩ := Kd.R_slice HO_3.out
                                              subst eo31
                                              have p149 : 0 ≤ ((rd ((rd_T39 l0 x5_1).f5) x7_2) : Int) := of_decide_eq_true (by first | (with_reducible assumption) | assumption)
                                              have q149 : (rd ((rd_T39 l0 x5_1).f5) x7_2) < (x3_2.length : Int) := of_decide_eq_true (by first | (with_reducible assumption) | assumption)
                                              obtain ⟨ad149, e149, hx149_0⟩ := Kd.at_int (Kd.R_reads' HO_3.out).2.2 (rd ((rd_T39 l0 x5_1).f5) x7_2) p149 q149
                                              cases e149
                                              replace p149 := eq_true p149
                                              replace q149 := eq_true q149
                                              have p24 : 0 ≤ ((rd ((rd_T39 l0 x5_1).f5) x7_2) : Int) := of_decide_eq_true (by first | (with_reducible assumption) | assumption)
                                              have q24 : ((rd ((rd_T39 l0 x5_1).f5) x7_2) : Int) < ((x3_2.length : Int) : Int) := of_decide_eq_true (by first | (with_reducible assumption) | assumption)
                                              obtain ⟨go24, co24, eo24, gb24, gl24, cl24, HG24⟩ := Kd.R_form HO_3.out (by omega)
                                              (first | cases eo24 | (injection eo24 with ea_ en_ ec_; (first | subst ea_ | (injection ea_ with ea_; subst ea_)); subst ec_; clear en_))
                                              have GB24 := Aside0.mk gb24
                                              have GG24 := Aside0.mk HG24
                                              clear gb24 gl24 HG24
                                              (first | simp only [add_plain] at hx149_0 | skip)
                                              obtain ⟨hx24_0, hf24_0⟩ := Kd.R_celln 0 HO_3.out ((rd ((rd_T39 l0 x5_1).f5) x7_2) : Int) p24 q24
                                              replace p24 := eq_true p24
                                              replace q24 := eq_true q24
                                              have HP32 := Kd.R_putg HO_3.out ((rd ((rd_T39 l0 x5_1).f5) x7_2) : Int) (wrap64 ((rd x3_2 (rd ((rd_T39 l0 x5_1).f5) x7_2)) + 1))
                                              go_wp2_with (first | ((with_reducible refine gate_store (t := 3) (p := 66) rfl ?_); refine store_event (t := 3) (p := 66) (v := ?vo_w33) (w1 := (wc.setCell ⟨go24, ((rd ((rd_T39 l0 x5_1).f5) x7_2) : Int).toNat, none⟩ (.int .i64 (wrap64 ((rd x3_2 (rd ((rd_T39 l0 x5_1).f5) x7_2)) + 1))))) ?hg ?ho ?hn ?hr ?_; (case ho => rfl); (case hg => rfl); (case hn => rfl); (case hr => first | (go_simp; done) | (go_simp; rfl)); intro w33 hw; have hg : wc.grownBy w33 (some go24) := (by rw [hw]; exact HP32.2); have hp_ : Kd.R (Kd.int .i64) 3 w33 w.heap.size (fun k_ => some k_ ≠ (v139 : Value).ownBlock) (.slice (some ⟨go24, 0, none⟩) x3_2.length co31) y150 := (by rw [hw, Ny150.out]; exact HP32.1); clear HP32; have n0_ := Aside0.mk (hp_); have n1_ := Aside0.mk (Kd.R_after (v := (.slice (some ⟨go24, 0, none⟩) x3_2.length co31)) (v1 := (.slice (some ⟨go24, 0, none⟩) x3_2.length co31)) (ok := (fun _ => True)) (by (with_reducible repeat (first | apply Kd.R_alloc | apply Kd.R_drewN | apply Kd.R_drew)); exact Kd.R_mono HO_4.out (fun _ hk => ⟨trivial, hk⟩)) hg (.inl rfl)); have n2_ := Aside0.mk ((by rw [hw]; exact below_set (HB.out) GB24.out : Below w.heap.size w w33)); clear HO_3; clear HO_4; clear HB; have HO_3 := n0_; have HO_4 := n1_; have HB := n2_; clear n0_ n1_ n2_; clear hg hw hp_; obtain ⟨Ao34, co34, eo34⟩ := Kd.R_slice HO_4.out; subst eo34; have p151 : 0 ≤ ((rd ((rd_T39 l0 x5_1).f5) x7_2) : Int) := of_decide_eq_true (by first | (with_reducible assumption) | assumption); have q151 : (rd ((rd_T39 l0 x5_1).f5) x7_2) < (x4_1.length : Int) := of_decide_eq_true (by first | (with_reducible assumption) | assumption); obtain ⟨ad151, e151, hx151_0⟩ := Kd.at_int (Kd.R_reads' HO_4.out).2.2 (rd ((rd_T39 l0 x5_1).f5) x7_2) p151 q151; cases e151; replace p151 := eq_true p151; replace q151 := eq_true q151))
                                              go_roundg kj18
                                              case measure => have := HK1.out; have := HK2.out; have := HJ18.out; omega
                                              case rel => exact ⟨(y150), (x6_2), (wrap64 (x7_2 + 1)), (by first | rfl | (simp; done) | (simp [*]; done)), (by first | rfl | (simp; done) | (simp [*]; done)), H', ⟨by have := HK1.out; have := HK2.out; have := HJ18.out; omega⟩, ⟨by (with_reducible repeat (first | apply Kd.R_alloc | apply Kd.R_drewN | apply Kd.R_drew)); exact HO_3.out⟩, ⟨by (with_reducible repeat (first | apply Kd.R_alloc | apply Kd.R_drewN | apply Kd.R_drew)); exact Kd.R_mono HO_4.out (fun _ hk => hk.2)⟩, ⟨by repeat (first | (with_reducible first | exact HB.out | apply below_alloc | apply pw_below_drewN | apply below_drew1) | exact HB.out)⟩⟩
                                          · rw [if_neg c25] at H
                                            exact absurd H (by simp)
                                        · rw [if_neg c23] at H
                                          exact absurd H (by simp)
                                      · rw [if_neg c22] at H
                                        exact absurd H (by simp)
                              · rw [if_neg c18] at H
                                exact absurd H (by simp)
                            · rw [if_neg c17] at H
                              have c17b0 : decide (x7_2 < (((rd_T39 l0 x5_1).f5).length : Int)) = false := decide_eq_false c17
                              clear c17
                              by_cases c35 : ((rd_T39 l0 x5_1).f0) ≥ 5
                              · rw [if_pos c35] at H
                                have c35b0 : decide (5 ≤ ((rd_T39 l0 x5_1).f0)) = true := decide_eq_true c35
                                clear c35
                                by_cases c36 : x5_1 < (x4_1.length : Int)
                                · rw [if_pos c36] at H
                                  have c36b0 : decide (x5_1 < (x4_1.length : Int)) = true := decide_eq_true c36
                                  clear c36
                                  obtain ⟨y145, hy145⟩ : ∃ y_ : List Int, y_ = (x4_1.set (x5_1 : Int).toNat (wrap64 (x6_2 + 1))) := ⟨_, rfl⟩
                                  replace H : (haulierref03_Check.l0 k2 l0 x3_2 y145 (wrap64 (x5_1 + 1))) = some r := by first | (rw [hy145]; with_reducible exact H) | (have H2_ := (Option.bind_some _ _).symm.trans H; rw [hy145]; with_reducible exact H2_) | (have H2_ := (Option.bind_some _ _).symm.trans H; with_reducible exact H2_) | with_reducible exact H | (rw [hy145]; exact H) | exact H
                                  have Ny145 := Aside0.mk hy145
                                  clear hy145
                                  have H' := Aside0.mk H
                                  clear H
                                  have p143 : 0 ≤ (x5_1 : Int) := of_decide_eq_true (by first | (with_reducible assumption) | assumption)
                                  have q143 : x5_1 < (l0.length : Int) := of_decide_eq_true (by first | (with_reducible assumption) | assumption)
                                  obtain ⟨ad143, A143_4, c143_4, A143_5, c143_5, e143, hx143_0, hx143_1, hx143_2, hx143_3, hx143_4, hx143_5, hl143_4, hi143_4, hl143_5, hi143_5⟩ := at_T39 HR0.out x5_1 p143 q143
                                  obtain rfl : ad141 = ad143 := (by injection e143)
                                  replace hx143_0 := (HB.out.cell (World.block_lt_of_cell? w _ hx143_0)).trans hx143_0
                                  replace hx143_1 := (HB.out.cell (World.block_lt_of_cell? w _ hx143_1)).trans hx143_1
                                  replace hx143_2 := (HB.out.cell (World.block_lt_of_cell? w _ hx143_2)).trans hx143_2
                                  replace hx143_3 := (HB.out.cell (World.block_lt_of_cell? w _ hx143_3)).trans hx143_3
                                  replace hx143_4 := (HB.out.cell (World.block_lt_of_cell? w _ hx143_4)).trans hx143_4
                                  replace hx143_5 := (HB.out.cell (World.block_lt_of_cell? w _ hx143_5)).trans hx143_5
                                  have HR143_4 := Aside0.mk hi143_4
                                  have HC143_4 := Aside0.mk hl143_4
                                  clear hi143_4 hl143_4
                                  have HR143_5 := Aside0.mk hi143_5
                                  have HC143_5 := Aside0.mk hl143_5
                                  clear hi143_5 hl143_5
                                  replace p143 := eq_true p143
                                  replace q143 := eq_true q143
                                  have p144 : 0 ≤ (x5_1 : Int) := of_decide_eq_true (by first | (with_reducible assumption) | assumption)
                                  have q144 : x5_1 < (l0.length : Int) := of_decide_eq_true (by first | (with_reducible assumption) | assumption)
                                  obtain ⟨ad144, A144_4, c144_4, A144_5, c144_5, e144, hx144_0, hx144_1, hx144_2, hx144_3, hx144_4, hx144_5, hl144_4, hi144_4, hl144_5, hi144_5⟩ := at_T39 HR0.out x5_1 p144 q144
                                  obtain rfl : ad141 = ad144 := (by injection e144)
                                  replace hx144_0 := (HB.out.cell (World.block_lt_of_cell? w _ hx144_0)).trans hx144_0
                                  replace hx144_1 := (HB.out.cell (World.block_lt_of_cell? w _ hx144_1)).trans hx144_1
                                  replace hx144_2 := (HB.out.cell (World.block_lt_of_cell? w _ hx144_2)).trans hx144_2
                                  replace hx144_3 := (HB.out.cell (World.block_lt_of_cell? w _ hx144_3)).trans hx144_3
                                  replace hx144_4 := (HB.out.cell (World.block_lt_of_cell? w _ hx144_4)).trans hx144_4
                                  replace hx144_5 := (HB.out.cell (World.block_lt_of_cell? w _ hx144_5)).trans hx144_5
                                  have HR144_4 := Aside0.mk hi144_4
                                  have HC144_4 := Aside0.mk hl144_4
                                  clear hi144_4 hl144_4
                                  have HR144_5 := Aside0.mk hi144_5
                                  have HC144_5 := Aside0.mk hl144_5
                                  clear hi144_5 hl144_5
                                  replace p144 := eq_true p144
                                  replace q144 := eq_true q144
                                  have ea_ := Option.some.inj (hx143_4.symm.trans hx144_4)
                                  injection ea_ with ea_ en_ ec_
                                  subst ea_
                                  subst ec_
                                  clear en_
                                  have ea_ := Option.some.inj (hx143_5.symm.trans hx144_5)
                                  injection ea_ with ea_ en_ ec_
                                  subst ea_
                                  subst ec_
                                  clear en_
                                  have p37 : 0 ≤ (x5_1 : Int) := of_decide_eq_true (by first | (with_reducible assumption) | assumption)
                                  have q37 : (x5_1 : Int) < ((x4_1.length : Int) : Int) := of_decide_eq_true (by first | (with_reducible assumption) | assumption)
                                  obtain ⟨go37, co37, eo37, gb37, gl37, cl37, HG37⟩ := Kd.R_form HO_4.out (by omega)
                                  (first | cases eo37 | (injection eo37 with ea_ en_ ec_; (first | subst ea_ | (injection ea_ with ea_; subst ea_)); subst ec_; clear en_))
                                  have GB37 := Aside0.mk gb37
                                  have GG37 := Aside0.mk HG37
                                  clear gb37 gl37 HG37
                                  obtain ⟨hx37_0, hf37_0⟩ := Kd.R_celln 0 HO_4.out (x5_1 : Int) p37 q37
                                  replace p37 := eq_true p37
                                  replace q37 := eq_true q37
                                  have HP38 := Kd.R_putg HO_4.out (x5_1 : Int) (wrap64 (x6_2 + 1))
                                  go_wp2_with (first | ((with_reducible refine gate_store (t := 3) (p := 88) rfl ?_); refine store_event (t := 3) (p := 88) (v := ?vo_w39) (w1 := (wr.setCell ⟨go37, (x5_1 : Int).toNat, none⟩ (.int .i64 (wrap64 (x6_2 + 1))))) ?hg ?ho ?hn ?hr ?_; (case ho => rfl); (case hg => rfl); (case hn => rfl); (case hr => first | (go_simp; done) | (go_simp; rfl)); intro w39 hw; have hg : wr.grownBy w39 (some go37) := (by rw [hw]; exact HP38.2); have hp_ : Kd.R (Kd.int .i64) 3 w39 w.heap.size (fun k_ => some k_ ≠ (v136 : Value).ownBlock) (.slice (some ⟨go37, 0, none⟩) x4_1.length co37) y145 := (by rw [hw, Ny145.out]; exact HP38.1); clear HP38; have n0_ := Aside0.mk (Kd.R_after (v := (.slice (some ⟨go37, 0, none⟩) x4_1.length co37)) (v1 := (.slice (some ⟨go37, 0, none⟩) x4_1.length co37)) (ok := (fun _ => True)) (by (with_reducible repeat (first | apply Kd.R_alloc | apply Kd.R_drewN | apply Kd.R_drew)); exact Kd.R_mono HO_3.out (fun _ hk => ⟨trivial, hk⟩)) hg (.inl rfl)); have n1_ := Aside0.mk (hp_); have n2_ := Aside0.mk ((by rw [hw]; exact below_set (HB.out) GB37.out : Below w.heap.size w w39)); clear HO_3; clear HO_4; clear HB; have HO_3 := n0_; have HO_4 := n1_; have HB := n2_; clear n0_ n1_ n2_; clear hg hw hp_))
                                  go_roundg k2
                                  case measure => have := HK1.out; have := HK2.out; omega
                                  case rel => exact ⟨(x3_2), (y145), (wrap64 (x5_1 + 1)), (by first | rfl | (simp; done) | (simp [*]; done)), H', ⟨by have := HK1.out; have := HK2.out; omega⟩, ⟨by (with_reducible repeat (first | apply Kd.R_alloc | apply Kd.R_drewN | apply Kd.R_drew)); exact Kd.R_mono HO_3.out (fun _ hk => hk.2)⟩, ⟨by (with_reducible repeat (first | apply Kd.R_alloc | apply Kd.R_drewN | apply Kd.R_drew)); exact HO_4.out⟩, ⟨by repeat (first | (with_reducible first | exact HB.out | apply below_alloc | apply pw_below_drewN | apply below_drew1) | exact HB.out)⟩⟩
                                · rw [if_neg c36] at H
                                  exact absurd H (by simp)
                              · rw [if_neg c35] at H
                                have c35b0 : decide (5 ≤ ((rd_T39 l0 x5_1).f0)) = false := decide_eq_false c35
                                clear c35
                                by_cases c40 : x5_1 < (x4_1.length : Int)
                                · rw [if_pos c40] at H
                                  have c40b0 : decide (x5_1 < (x4_1.length : Int)) = true := decide_eq_true c40
                                  clear c40
                                  obtain ⟨y146, hy146⟩ : ∃ y_ : List Int, y_ = (x4_1.set (x5_1 : Int).toNat x6_2) := ⟨_, rfl⟩
                                  replace H : (haulierref03_Check.l0 k2 l0 x3_2 y146 (wrap64 (x5_1 + 1))) = some r := by first | (rw [hy146]; with_reducible exact H) | (have H2_ := (Option.bind_some _ _).symm.trans H; rw [hy146]; with_reducible exact H2_) | (have H2_ := (Option.bind_some _ _).symm.trans H; with_reducible exact H2_) | with_reducible exact H | (rw [hy146]; exact H) | exact H
                                  have Ny146 := Aside0.mk hy146
                                  clear hy146
                                  have H' := Aside0.mk H
                                  clear H
                                  have p143 : 0 ≤ (x5_1 : Int) := of_decide_eq_true (by first | (with_reducible assumption) | assumption)
                                  have q143 : x5_1 < (l0.length : Int) := of_decide_eq_true (by first | (with_reducible assumption) | assumption)
                                  obtain ⟨ad143, A143_4, c143_4, A143_5, c143_5, e143, hx143_0, hx143_1, hx143_2, hx143_3, hx143_4, hx143_5, hl143_4, hi143_4, hl143_5, hi143_5⟩ := at_T39 HR0.out x5_1 p143 q143
                                  obtain rfl : ad141 = ad143 := (by injection e143)
                                  replace hx143_0 := (HB.out.cell (World.block_lt_of_cell? w _ hx143_0)).trans hx143_0
                                  replace hx143_1 := (HB.out.cell (World.block_lt_of_cell? w _ hx143_1)).trans hx143_1
                                  replace hx143_2 := (HB.out.cell (World.block_lt_of_cell? w _ hx143_2)).trans hx143_2
                                  replace hx143_3 := (HB.out.cell (World.block_lt_of_cell? w _ hx143_3)).trans hx143_3
                                  replace hx143_4 := (HB.out.cell (World.block_lt_of_cell? w _ hx143_4)).trans hx143_4
                                  replace hx143_5 := (HB.out.cell (World.block_lt_of_cell? w _ hx143_5)).trans hx143_5
                                  have HR143_4 := Aside0.mk hi143_4
                                  have HC143_4 := Aside0.mk hl143_4
                                  clear hi143_4 hl143_4
                                  have HR143_5 := Aside0.mk hi143_5
                                  have HC143_5 := Aside0.mk hl143_5
                                  clear hi143_5 hl143_5
                                  replace p143 := eq_true p143
                                  replace q143 := eq_true q143
                                  have p144 : 0 ≤ (x5_1 : Int) := of_decide_eq_true (by first | (with_reducible assumption) | assumption)
                                  have q144 : x5_1 < (l0.length : Int) := of_decide_eq_true (by first | (with_reducible assumption) | assumption)
                                  obtain ⟨ad144, A144_4, c144_4, A144_5, c144_5, e144, hx144_0, hx144_1, hx144_2, hx144_3, hx144_4, hx144_5, hl144_4, hi144_4, hl144_5, hi144_5⟩ := at_T39 HR0.out x5_1 p144 q144
                                  obtain rfl : ad141 = ad144 := (by injection e144)
                                  replace hx144_0 := (HB.out.cell (World.block_lt_of_cell? w _ hx144_0)).trans hx144_0
                                  replace hx144_1 := (HB.out.cell (World.block_lt_of_cell? w _ hx144_1)).trans hx144_1
                                  replace hx144_2 := (HB.out.cell (World.block_lt_of_cell? w _ hx144_2)).trans hx144_2
                                  replace hx144_3 := (HB.out.cell (World.block_lt_of_cell? w _ hx144_3)).trans hx144_3
                                  replace hx144_4 := (HB.out.cell (World.block_lt_of_cell? w _ hx144_4)).trans hx144_4
                                  replace hx144_5 := (HB.out.cell (World.block_lt_of_cell? w _ hx144_5)).trans hx144_5
                                  have HR144_4 := Aside0.mk hi144_4
                                  have HC144_4 := Aside0.mk hl144_4
                                  clear hi144_4 hl144_4
                                  have HR144_5 := Aside0.mk hi144_5
                                  have HC144_5 := Aside0.mk hl144_5
                                  clear hi144_5 hl144_5
                                  replace p144 := eq_true p144
                                  replace q144 := eq_true q144
                                  have ea_ := Option.some.inj (hx143_4.symm.trans hx144_4)
                                  injection ea_ with ea_ en_ ec_
                                  subst ea_
                                  subst ec_
                                  clear en_
                                  have ea_ := Option.some.inj (hx143_5.symm.trans hx144_5)
                                  injection ea_ with ea_ en_ ec_
                                  subst ea_
                                  subst ec_
                                  clear en_
                                  have p41 : 0 ≤ (x5_1 : Int) := of_decide_eq_true (by first | (with_reducible assumption) | assumption)
                                  have q41 : (x5_1 : Int) < ((x4_1.length : Int) : Int) := of_decide_eq_true (by first | (with_reducible assumption) | assumption)
                                  obtain ⟨go41, co41, eo41, gb41, gl41, cl41, HG41⟩ := Kd.R_form HO_4.out (by omega)
                                  (first | cases eo41 | (injection eo41 with ea_ en_ ec_; (first | subst ea_ | (injection ea_ with ea_; subst ea_)); subst ec_; clear en_))
                                  have GB41 := Aside0.mk gb41
                                  have GG41 := Aside0.mk HG41
                                  clear gb41 gl41 HG41
                                  obtain ⟨hx41_0, hf41_0⟩ := Kd.R_celln 0 HO_4.out (x5_1 : Int) p41 q41
                                  replace p41 := eq_true p41
                                  replace q41 := eq_true q41
                                  have HP42 := Kd.R_putg HO_4.out (x5_1 : Int) x6_2
                                  go_wp2_with (first | ((with_reducible refine gate_store (t := 3) (p := 88) rfl ?_); refine store_event (t := 3) (p := 88) (v := ?vo_w43) (w1 := (wr.setCell ⟨go41, (x5_1 : Int).toNat, none⟩ (.int .i64 x6_2))) ?hg ?ho ?hn ?hr ?_; (case ho => rfl); (case hg => rfl); (case hn => rfl); (case hr => first | (go_simp; done) | (go_simp; rfl)); intro w43 hw; have hg : wr.grownBy w43 (some go41) := (by rw [hw]; exact HP42.2); have hp_ : Kd.R (Kd.int .i64) 3 w43 w.heap.size (fun k_ => some k_ ≠ (v136 : Value).ownBlock) (.slice (some ⟨go41, 0, none⟩) x4_1.length co41) y146 := (by rw [hw, Ny146.out]; exact HP42.1); clear HP42; have n0_ := Aside0.mk (Kd.R_after (v := (.slice (some ⟨go41, 0, none⟩) x4_1.length co41)) (v1 := (.slice (some ⟨go41, 0, none⟩) x4_1.length co41)) (ok := (fun _ => True)) (by (with_reducible repeat (first | apply Kd.R_alloc | apply Kd.R_drewN | apply Kd.R_drew)); exact Kd.R_mono HO_3.out (fun _ hk => ⟨trivial, hk⟩)) hg (.inl rfl)); have n1_ := Aside0.mk (hp_); have n2_ := Aside0.mk ((by rw [hw]; exact below_set (HB.out) GB41.out : Below w.heap.size w w43)); clear HO_3; clear HO_4; clear HB; have HO_3 := n0_; have HO_4 := n1_; have HB := n2_; clear n0_ n1_ n2_; clear hg hw hp_))
                                  go_roundg k2
                                  case measure => have := HK1.out; have := HK2.out; omega
                                  case rel => exact ⟨(x3_2), (y146), (wrap64 (x5_1 + 1)), (by first | rfl | (simp; done) | (simp [*]; done)), H', ⟨by have := HK1.out; have := HK2.out; omega⟩, ⟨by (with_reducible repeat (first | apply Kd.R_alloc | apply Kd.R_drewN | apply Kd.R_drew)); exact Kd.R_mono HO_3.out (fun _ hk => hk.2)⟩, ⟨by (with_reducible repeat (first | apply Kd.R_alloc | apply Kd.R_drewN | apply Kd.R_drew)); exact HO_4.out⟩, ⟨by repeat (first | (with_reducible first | exact HB.out | apply below_alloc | apply pw_below_drewN | apply below_drew1) | exact HB.out)⟩⟩
                                · rw [if_neg c40] at H
                                  exact absurd H (by simp)
                          · rw [if_neg c16] at H
                            exact absurd H (by simp)
                        · rw [if_neg c15] at H
                          exact absurd H (by simp)
                  · replace c13 := Bool.eq_false_iff.mpr c13
                    subst c13
                    have H1 : (some 29) = some r := by rw [if_neg (show ¬ (false = true) by decide)] at H; exact H
                    clear H
                    have H := H1
                    clear H1
                    obtain rfl := Option.some.inj H
                    have p141 : 0 ≤ (x5_1 : Int) := of_decide_eq_true (by first | (with_reducible assumption) | assumption)
                    have q141 : x5_1 < (l0.length : Int) := of_decide_eq_true (by first | (with_reducible assumption) | assumption)
                    obtain ⟨ad141, A141_4, c141_4, A141_5, c141_5, e141, hx141_0, hx141_1, hx141_2, hx141_3, hx141_4, hx141_5, hl141_4, hi141_4, hl141_5, hi141_5⟩ := at_T39 HR0.out x5_1 p141 q141
                    cases e141
                    replace hx141_0 := (HB.out.cell (World.block_lt_of_cell? w _ hx141_0)).trans hx141_0
                    replace hx141_1 := (HB.out.cell (World.block_lt_of_cell? w _ hx141_1)).trans hx141_1
                    replace hx141_2 := (HB.out.cell (World.block_lt_of_cell? w _ hx141_2)).trans hx141_2
                    replace hx141_3 := (HB.out.cell (World.block_lt_of_cell? w _ hx141_3)).trans hx141_3
                    replace hx141_4 := (HB.out.cell (World.block_lt_of_cell? w _ hx141_4)).trans hx141_4
                    replace hx141_5 := (HB.out.cell (World.block_lt_of_cell? w _ hx141_5)).trans hx141_5
                    have HR141_4 := Aside0.mk hi141_4
                    have HC141_4 := Aside0.mk hl141_4
                    clear hi141_4 hl141_4
                    have HR141_5 := Aside0.mk hi141_5
                    have HC141_5 := Aside0.mk hl141_5
                    clear hi141_5 hl141_5
                    replace p141 := eq_true p141
                    replace q141 := eq_true q141
                    go_wp2_with (first | ((with_reducible refine gate_callee (f := 24) rfl ?_); refine goesL_ (some 32) rfl rfl Tryd.func24 (by kernel_rfl) rfl #[.agg #[.int .i64 ((rd_T39 l0 x5_1).f0), .bool ((rd_T39 l0 x5_1).f1), .int .i64 ((rd_T39 l0 x5_1).f2), .string ((rd_T39 l0 x5_1).f3), .slice A141_4 ((rd_T39 l0 x5_1).f4).length c141_4, .slice A141_5 ((rd_T39 l0 x5_1).f5).length c141_5]] rfl (by (try simp only [List.map_toArray, List.map_cons, List.map_nil]); first | done | rfl | (simp only [List.length_drop, List.length_take]; rfl)) ?_; (with_reducible refine (haulierref03_plain.calls k1 ((rd_T39 l0 x5_1).f0) ((rd_T39 l0 x5_1).f1) ((rd_T39 l0 x5_1).f2) ((rd_T39 l0 x5_1).f3) _ _ ((rd_T39 l0 x5_1).f4) _ _ ((rd_T39 l0 x5_1).f5) false _ ⟨by repeat (first | exact hG.out | exact hG.out.below (by repeat (first | (with_reducible first | exact HB.out | apply below_alloc | apply pw_below_drewN | apply below_drew1) | exact HB.out | exact Below.refl _ _)) | apply Glob.drewN | apply Glob.drew)⟩ ?side1 ?side2 ?side3 ?side4 A12.out).mono ?_); (case side1 => repeat (first | exact (Kd.C_below HR141_4.out HB.out) | (with_reducible refine Kd.C_alloc ?_ _) | (with_reducible refine Kd.C_drewN ?_ _) | (with_reducible refine Kd.C_drew ?_))); (case side2 => exact HC141_4.out); (case side3 => repeat (first | exact (Kd.C_below HR141_5.out HB.out) | (with_reducible refine Kd.C_alloc ?_ _) | (with_reducible refine Kd.C_drewN ?_ _) | (with_reducible refine Kd.C_drew ?_))); (case side4 => exact HC141_5.out); rintro e w44 ⟨rfl, hb⟩; refine ⟨_, rfl, ?_⟩; have n0_ := Aside0.mk (Kd.R_below (by (with_reducible repeat (first | apply Kd.R_alloc | apply Kd.R_drewN | apply Kd.R_drew)); exact HO_3.out) hb); have n1_ := Aside0.mk (Kd.R_below (by (with_reducible repeat (first | apply Kd.R_alloc | apply Kd.R_drewN | apply Kd.R_drew)); exact HO_4.out) hb); have n2_ := Aside0.mk (below_step (by repeat (first | (with_reducible first | exact HB.out | apply below_alloc | apply pw_below_drewN | apply below_drew1) | exact HB.out)) hb); clear HO_3; clear HO_4; clear HB; have HO_3 := n0_; have HO_4 := n1_; have HB := n2_; clear n0_ n1_ n2_; (try clear hb); (try clear hb2); (try clear hk); (try clear hi)))
                    go_ret
                    exact ⟨by first | rfl | (simp [errW_none, errW_some] <;> rfl) | (simp [*, errW_none, errW_some] <;> rfl), by repeat (first | (with_reducible first | exact HB.out | apply below_alloc | apply pw_below_drewN | apply below_drew1) | exact HB.out)⟩
                · rw [if_neg c11] at H
                  exact absurd H (by simp)
              · rw [if_neg c10] at H
                have c10b0 : decide (x5_1 < (l0.length : Int)) = false := decide_eq_false c10
                clear c10
                have H' := Aside0.mk H
                clear H
                go_wp2
                go_loopg [9] k1 (fun kq v9 w' => ∃ (x9_2 : Int), v9 = .int .i64 x9_2 ∧ Aside0 (haulierref03_Check.l2 kq l0 x3_1 x4_1 x9_2 = some r) ∧ Aside0 (kq ≤ k1) ∧ Aside0 (Kd.R (Kd.int .i64) 3 w' w.heap.size (fun k_ => some k_ ≠ (v139 : Value).ownBlock) v136 x3_1) ∧ Aside0 (Kd.R (Kd.int .i64) 3 w' w.heap.size (fun k_ => some k_ ≠ (v136 : Value).ownBlock) v139 x4_1) ∧ Aside0 (Below w.heap.size w w'))
                case atStart => exact ⟨(0), (by first | rfl | (simp; done) | (simp [*]; done)), H', ⟨Nat.le_refl _⟩, ⟨by (with_reducible repeat (first | apply Kd.R_alloc | apply Kd.R_drewN | apply Kd.R_drew)); exact HO_3.out⟩, ⟨by (with_reducible repeat (first | apply Kd.R_alloc | apply Kd.R_drewN | apply Kd.R_drew)); exact HO_4.out⟩, ⟨by repeat (first | (with_reducible first | exact HB.out | apply below_alloc | apply pw_below_drewN | apply below_drew1) | exact HB.out)⟩⟩
                case round =>
                  clear H'
                  try clear c1
                  try clear p1
                  try clear q1
                  try clear hx1
                  try clear c2
                  try clear c2b0
                  try clear c2b1
                  try clear c2b2
                  try clear p2
                  try clear q2
                  try clear hx2
                  try clear hf2
                  try clear c3
                  try clear c3b0
                  try clear c3b1
                  try clear p3
                  try clear q3
                  try clear hx3
                  try clear hf3
                  try clear c4
                  try clear c4b0
                  try clear c4b1
                  try clear p4
                  try clear q4
                  try clear hx4
                  try clear hf4
                  try clear c5
                  try clear c5b0
                  try clear c5b1
                  try clear p6
                  try clear c10
                  try clear c10b0
                  try clear c11
                  try clear c11b0
                  try clear c13
                  try clear c14
                  try clear p14
                  try clear q14
                  try clear hx14
                  try clear c15
                  try clear c15b0
                  try clear p15
                  try clear q15
                  try clear hx15
                  try clear c16
                  try clear c16b0
                  try clear c17
                  try clear c17b0
                  try clear c18
                  try clear c18b0
                  try clear c20
                  try clear c20b0
                  try clear c21
                  try clear c22
                  try clear c22b0
                  try clear c23
                  try clear c23b0
                  try clear c24
                  try clear p24
                  try clear q24
                  try clear hx24
                  try clear hf24
                  try clear c25
                  try clear c25b0
                  try clear c26
                  try clear c26b0
                  try clear c35
                  try clear c35b0
                  try clear c36
                  try clear c36b0
                  try clear p37
                  try clear q37
                  try clear hx37
                  try clear hf37
                  try clear c40
                  try clear c40b0
                  try clear p41
                  try clear q41
                  try clear hx41
                  try clear hf41
                  try clear hx141_0
                  try clear hx141_1
                  try clear hx141_2
                  try clear hx141_3
                  try clear hx141_4
                  try clear hx141_5
                  try clear hx143_0
                  try clear hx143_1
                  try clear hx143_2
                  try clear hx143_3
                  try clear hx143_4
                  try clear hx143_5
                  try clear hx144_0
                  try clear hx144_1
                  try clear hx144_2
                  try clear hx144_3
                  try clear hx144_4
                  try clear hx144_5
                  try clear hx147_0
                  try clear hx147_1
                  try clear hx147_2
                  try clear hx147_3
                  try clear hx147_4
                  try clear hx147_5
                  try clear hx148_0
                  try clear hx149_0
                  try clear hx151_0
                  try clear hx152_0
                  try clear hx24_0
                  try clear hx37_0
                  try clear hx41_0
                  try clear p1
                  try clear p14
                  try clear p141
                  try clear p143
                  try clear p144
                  try clear p147
                  try clear p148
                  try clear p149
                  try clear p151
                  try clear p152
                  try clear p2
                  try clear p24
                  try clear p37
                  try clear p41
                  try clear q1
                  try clear q14
                  try clear q141
                  try clear q143
                  try clear q144
                  try clear q147
                  try clear q148
                  try clear q149
                  try clear q151
                  try clear q152
                  try clear q24
                  try clear q37
                  try clear q41
                  obtain ⟨x9_2, rfl, HA, HK2, HO_3, HO_4, HB⟩ := hrel
                  cases gk with
                  | zero => exact absurd HA.out (by simp [haulierref03_Check.l2])
                  | succ k2 =>
                    have H := HA.out
                    clear HA
                    simp only [haulierref03_Check.l2] at H
                    by_cases c45 : x9_2 < (wrap64 ((l0.length : Int) - 1))
                    · rw [if_pos c45] at H
                      have c45b0 : decide (x9_2 < (wrap64 ((l0.length : Int) - 1))) = true := decide_eq_true c45
                      clear c45
                      by_cases c46 : 0 ≤ x9_2
                      · rw [if_pos c46] at H
                        have c46b0 : decide (0 ≤ x9_2) = true := decide_eq_true c46
                        clear c46
                        by_cases c47 : x9_2 < (x3_1.length : Int)
                        · rw [if_pos c47] at H
                          have c47b0 : decide (x9_2 < (x3_1.length : Int)) = true := decide_eq_true c47
                          clear c47
                          by_cases c48 : (rd x3_1 x9_2) = 1
                          · rw [if_pos c48] at H
                            have c48b0 : ((rd x3_1 x9_2) == 1) = true := beq_iff_eq.mpr c48
                            have c48b1 : ((rd x3_1 x9_2) != 1) = false := bne_eq_false_iff_eq.mpr c48
                            clear c48
                            have H' := Aside0.mk H
                            clear H
                            obtain ⟨Ao49, co49, eo49⟩ := Kd.R_slice HO_3.out
                            subst eo49
                            have p153 : 0 ≤ (x9_2 : Int) := of_decide_eq_true (by first | (with_reducible assumption) | assumption)
                            have q153 : x9_2 < (x3_1.length : Int) := of_decide_eq_true (by first | (with_reducible assumption) | assumption)
                            obtain ⟨ad153, e153, hx153_0⟩ := Kd.at_int (Kd.R_reads' HO_3.out).2.2 x9_2 p153 q153
                            cases e153
                            replace p153 := eq_true p153
                            replace q153 := eq_true q153
                            go_wp2
                            go_roundg k2
                            case measure => have := HK1.out; have := HK2.out; omega
                            case rel => exact ⟨(wrap64 (x9_2 + 1)), (by first | rfl | (simp; done) | (simp [*]; done)), H', ⟨by have := HK1.out; have := HK2.out; omega⟩, ⟨by (with_reducible repeat (first | apply Kd.R_alloc | apply Kd.R_drewN | apply Kd.R_drew)); exact HO_3.out⟩, ⟨by (with_reducible repeat (first | apply Kd.R_alloc | apply Kd.R_drewN | apply Kd.R_drew)); exact HO_4.out⟩, ⟨by repeat (first | (with_reducible first | exact HB.out | apply below_alloc | apply pw_below_drewN | apply below_drew1) | exact HB.out)⟩⟩
                          · rw [if_neg c48] at H
                            have c48b0 : ((rd x3_1 x9_2) == 1) = false := beq_eq_false_iff_ne.mpr c48
                            have c48b1 : ((rd x3_1 x9_2) != 1) = true := bne_iff_ne.mpr c48
                            obtain rfl := Option.some.inj H
                            obtain ⟨Ao50, co50, eo50⟩ := Kd.R_slice HO_3.out
                            subst eo50
                            have p153 : 0 ≤ (x9_2 : Int) := of_decide_eq_true (by first | (with_reducible assumption) | assumption)
                            have q153 : x9_2 < (x3_1.length : Int) := of_decide_eq_true (by first | (with_reducible assumption) | assumption)
                            obtain ⟨ad153, e153, hx153_0⟩ := Kd.at_int (Kd.R_reads' HO_3.out).2.2 x9_2 p153 q153
                            cases e153
                            replace p153 := eq_true p153
                            replace q153 := eq_true q153
                            go_wp2
                            go_ret
                            exact ⟨by first | rfl | (simp [errW_none, errW_some] <;> rfl) | (simp [*, errW_none, errW_some] <;> rfl), by repeat (first | (with_reducible first | exact HB.out | apply below_alloc | apply pw_below_drewN | apply below_drew1) | exact HB.out)⟩
                        · rw [if_neg c47] at H
                          exact absurd H (by simp)
                      · rw [if_neg c46] at H
                        exact absurd H (by simp)
                    · rw [if_neg c45] at H
                      have c45b0 : decide (x9_2 < (wrap64 ((l0.length : Int) - 1))) = false := decide_eq_false c45
                      clear c45
                      obtain ⟨ji51, hji51⟩ : ∃ j_ : Int, (wrap64 ((l0.length : Int) - 1)) = j_ := ⟨_, rfl⟩
                      replace H : (if 0 ≤ (ji51) then (if (ji51) < (x4_1.length : Int) then (if (rd x4_1 (ji51)) > 16 then (some 26) else (some 0)) else (none)) else (none)) = some r := by first | (rw [hji51] at H; exact H) | (simp only [hji51] at H ⊢; exact H)
                      (try rw [hji51] at c45b0)
                      have hji51w : (IntKind.i64.wrap ((l0.length : Int) - 1)) = ji51 := (i64_w _).trans hji51
                      by_cases c52 : 0 ≤ (ji51)
                      · rw [if_pos c52] at H
                        have c52b0 : decide (0 ≤ (ji51)) = true := decide_eq_true c52
                        clear c52
                        by_cases c53 : (ji51) < (x4_1.length : Int)
                        · rw [if_pos c53] at H
                          have c53b0 : decide ((ji51) < (x4_1.length : Int)) = true := decide_eq_true c53
                          clear c53
                          by_cases c54 : (rd x4_1 (ji51)) > 16
                          · rw [if_pos c54] at H
                            have c54b0 : decide (16 < (rd x4_1 (ji51))) = true := decide_eq_true c54
                            clear c54
                            obtain rfl := Option.some.inj H
                            obtain ⟨Ao55, co55, eo55⟩ := Kd.R_slice HO_4.out
                            subst eo55
                            have p154 : 0 ≤ ((ji51) : Int) := of_decide_eq_true (by first | (with_reducible assumption) | assumption)
                            have q154 : (ji51) < (x4_1.length : Int) := of_decide_eq_true (by first | (with_reducible assumption) | assumption)
                            obtain ⟨ad154, e154, hx154_0⟩ := Kd.at_int (Kd.R_reads' HO_4.out).2.2 (ji51) p154 q154
                            cases e154
                            replace p154 := eq_true p154
                            replace q154 := eq_true q154
                            go_wp2
                            go_ret
                            exact ⟨by first | rfl | (simp [errW_none, errW_some] <;> rfl) | (simp only [← hji51]; first | rfl | (simp [errW_none, errW_some] <;> rfl)) | (simp [*, errW_none, errW_some] <;> rfl), by repeat (first | (with_reducible first | exact HB.out | apply below_alloc | apply pw_below_drewN | apply below_drew1) | exact HB.out)⟩
                          · rw [if_neg c54] at H
                            have c54b0 : decide (16 < (rd x4_1 (ji51))) = false := decide_eq_false c54
                            clear c54
                            obtain rfl := Option.some.inj H
                            obtain ⟨Ao56, co56, eo56⟩ := Kd.R_slice HO_4.out
                            subst eo56
                            have p154 : 0 ≤ ((ji51) : Int) := of_decide_eq_true (by first | (with_reducible assumption) | assumption)
                            have q154 : (ji51) < (x4_1.length : Int) := of_decide_eq_true (by first | (with_reducible assumption) | assumption)
                            obtain ⟨ad154, e154, hx154_0⟩ := Kd.at_int (Kd.R_reads' HO_4.out).2.2 (ji51) p154 q154
                            cases e154
                            replace p154 := eq_true p154
                            replace q154 := eq_true q154
                            go_wp2
                            go_ret
                            exact ⟨by first | rfl | (simp [errW_none, errW_some] <;> rfl) | (simp only [← hji51]; first | rfl | (simp [errW_none, errW_some] <;> rfl)) | (simp [*, errW_none, errW_some] <;> rfl), by repeat (first | (with_reducible first | exact HB.out | apply below_alloc | apply pw_below_drewN | apply below_drew1) | exact HB.out)⟩
                        · rw [if_neg c53] at H
                          exact absurd H (by simp)
                      · rw [if_neg c52] at H
                        exact absurd H (by simp)
        · rw [if_neg c5] at H
          exact absurd H (by simp)
      · rw [if_neg c4] at H
        exact absurd H (by simp)

end Go.Proofs.YtldlkoncndlbhaaDoor.PSh

/- What 'Check' answers, in plain words; the program's and the document's answer it. -/
namespace Go.Proofs.YtldlkoncndlbhaaDoor.Pure
open Go.RowKit Go.Proofs.YtldlkoncndlbhaaDoor.Utf Go.Proofs.YtldlkoncndlbhaaDoor.Mb Go.Proofs.YtldlkoncndlbhaaDoor.Pl Go.Proofs.YtldlkoncndlbhaaDoor.Tx Go.Proofs.YtldlkoncndlbhaaDoor.PSh Go.Proofs.YtldlkoncndlbhaaDoorW.PrintWords Go.Proofs.YtldlkoncndlbhaaDoorW.PrintLast Go.Proofs.YtldlkoncndlbhaaDoorW.PrintMore
set_option linter.unusedSimpArgs false
set_option linter.unusedVariables false

/-- The kids of the value at place i: which places have a parent then, and how deep the deepest is. -/
def kidsGo (dp : List Int) (i : Nat) : List Bool → List Int → Int → Option (List Bool × Int)
  | fl, [], m => some (fl, m)
  | fl, k :: r, m => if 0 ≤ k ∧ k < i ∧ rdOf false fl k = false then kidsGo dp i (fl.set k.toNat true) r (mx m (rd dp k)) else none
/-- The values from place i on. -/
def nodesGo (l : List S39) : Nat → Nat → List Bool → List Int → Option (List Bool × List Int)
  | 0, _, fl, dp => some (fl, dp)
  | d + 1, i, fl, dp =>
    if plainOf (rd_T39 l (i : Int)) = true then
      match kidsGo dp i fl (rd_T39 l (i : Int)).f5 0 with
      | none => none
      | some (fl', m) => nodesGo l d (i + 1) fl' (dp.set i (if 5 ≤ (rd_T39 l (i : Int)).f0 then m + 1 else m))
    else none
/-- What the whole comes to. -/
def endOf (n : Nat) : Option (List Bool × List Int) → Int
  | none => 29
  | some (fl, dp) => if (fl.take (n - 1)).contains false = true then 29 else if 16 < rd dp ((n : Int) - 1) then 26 else 0
def checkOf (l : List S39) : Int :=
  if l.length = 0 then 29 else if 8192 < l.length then 27 else endOf l.length (nodesGo l l.length 0 (List.replicate l.length false) (List.replicate l.length 0))

/-- What is kept of the depths. -/
def Dp (n i : Nat) (dp : List Int) : Prop := dp.length = n ∧ ∀ j : Nat, j < n → 0 ≤ rd dp (j : Int) ∧ rd dp (j : Int) ≤ j + 1 ∧ (i ≤ j → rd dp (j : Int) = 0)
theorem rd_nat (l : List Int) (j : Nat) (h : j < l.length) : rd l (j : Int) = l[j] := by simp [rd, List.getElem?_eq_getElem h]
theorem rd_set (l : List Int) (i j : Nat) (v : Int) (h : i < l.length) : rd (l.set i v) (j : Int) = if i = j then v else rd l (j : Int) := by
  unfold rd
  simp only [Int.toNat_natCast, List.getD_eq_getElem?_getD, List.getElem?_set]
  split
  · subst_vars; first | rfl | (rw [if_pos h]; rfl)
  · rfl
theorem rdF_set (l : List Bool) (i j : Nat) (v : Bool) (h : i < l.length) : rdOf false (l.set i v) (j : Int) = if i = j then v else rdOf false l (j : Int) := by
  unfold rdOf
  simp only [Int.toNat_natCast, List.getD_eq_getElem?_getD, List.getElem?_set]
  split
  · subst_vars; first | rfl | (rw [if_pos h]; rfl)
  · rfl
theorem Dp.set {n i : Nat} {dp : List Int} (h : Dp n i dp) (hi : i < n) {m : Int} (h0 : 0 ≤ m) (h1 : m ≤ i + 1) : Dp n (i + 1) (dp.set i m) := by
  refine ⟨by rw [List.length_set]; exact h.1, fun j hj => ?_⟩
  rw [rd_set _ _ _ _ (by rw [h.1]; exact hi)]
  obtain ⟨a, b, c⟩ := h.2 j hj
  split
  · subst_vars; exact ⟨h0, h1, fun e => by omega⟩
  · exact ⟨a, b, fun e => c (by omega)⟩
theorem mx_le {a b c : Int} (h1 : a ≤ c) (h2 : b ≤ c) : mx a b ≤ c := by unfold mx; split <;> assumption
theorem mx_ge {a b : Int} (h1 : 0 ≤ a) (h2 : 0 ≤ b) : 0 ≤ mx a b := by unfold mx; split <;> assumption
theorem kids_at (x : List Int) (q : Nat) (h : q < x.length) : x.drop q = rd x (q : Int) :: x.drop (q + 1) := by rw [rd_nat x q h]; exact List.drop_eq_getElem_cons h

attribute [local irreducible] rd rdOf mx
section
variable (l : List S39)
set_option maxHeartbeats 2000000 in
/-- The kids, as the program goes through them. -/
theorem prog_kids (hn : l.length ≤ 8192) (i : Nat) (hi : i < l.length) (dp : List Int) (hd : Dp l.length i dp) (kids : List Int) (hk : kids.length ≤ 140737488355328) (f0 : Int) (f1 : Bool) (f2 : Int) (f3 : ByteArray) (f4 : List ByteArray) (f5 : List Int) (hf : 1 ≤ f0 ∧ f0 ≤ 6)
    (V : List Bool → Int → Int) (hV : ∀ (fl : List Bool) (m : Int), fl.length = l.length → 0 ≤ m → m ≤ i → Ev (fun k => show_Check.l0 k l fl (dp.set i (if 5 ≤ f0 then m + 1 else m)) l (l.length : Int) ((i + 1 : Nat) : Int)) (V fl m)) :
    ∀ (r q : Nat) (fl : List Bool) (m : Int), q + r = kids.length → fl.length = l.length → 0 ≤ m → m ≤ i →
      Ev (fun k => show_Check.l1 k l fl (dp.set i m) (i : Int) l (l.length : Int) (i : Int) kids (kids.length : Int) (q : Int) f0 f1 f2 f3 f4 f5) (match kidsGo dp i fl (kids.drop q) m with | none => 29 | some (fl', m') => V fl' m') := by
  have hdl := hd.1
  have hset : ∀ m v : Int, (dp.set i m).set ((i : Int)).toNat v = dp.set i v := fun m v => by rw [Int.toNat_natCast, List.set_set]
  have hrd : ∀ m : Int, rd (dp.set i m) (i : Int) = m := fun m => by rw [rd_set _ _ _ _ (by omega), if_pos rfl]
  have hw : wrap64 ((i : Int) + 1) = ((i + 1 : Nat) : Int) := wrap_succ i _ hi (by omega)
  intro r
  induction r with
  | zero =>
    intro q fl m hq hfl h0 h1
    rw [List.drop_of_length_le (by omega)]
    show Ev _ (V fl m)
    refine (hV fl m hfl h0 h1).succ fun k => ?_
    simp only [show_Check.l1]
    rw [if_neg (by omega)]
    have hm1 : wrap64 (m + 1) = m + 1 := by unfold wrap64; omega
    by_cases k5 : f0 = 5
    · rw [if_pos k5, if_pos (by omega), if_pos (by rw [List.length_set]; omega), hset, hrd, hm1, hw, if_pos (by omega)]
    · rw [if_neg k5]
      by_cases k6 : f0 = 6
      · rw [if_pos k6, if_pos (by omega), if_pos (by rw [List.length_set]; omega), hset, hrd, hm1, hw, if_pos (by omega)]
      · rw [if_neg k6, hw, if_neg (by omega)]
  | succ r ih =>
    intro q fl m hq hfl h0 h1
    have hql : q < kids.length := by omega
    have c0 : (0 : Int) ≤ (q : Int) := Int.natCast_nonneg _
    have c1 : (q : Int) < (kids.length : Int) := Int.ofNat_lt.2 hql
    have ci0 : (0 : Int) ≤ (i : Int) := Int.natCast_nonneg _
    have cin : (i : Int) < ((dp.set i m).length : Int) := by rw [List.length_set, hdl]; exact Int.ofNat_lt.2 hi
    have hwq := wrap_succ q _ hql hk
    rw [kids_at kids q hql]
    by_cases a1 : rd kids (q : Int) < 0
    · rw [show kidsGo dp i fl (rd kids (q : Int) :: kids.drop (q + 1)) m = none from if_neg (fun e => absurd e.1 (Int.not_le.2 a1))]
      refine Ev.succ (Ev.const 29) fun k => ?_
      simp only [show_Check.l1]
      rw [if_pos c1, if_pos c0, if_pos c1, if_pos a1]
    by_cases a2 : rd kids (q : Int) ≥ (i : Int)
    · rw [show kidsGo dp i fl (rd kids (q : Int) :: kids.drop (q + 1)) m = none from if_neg (fun e => absurd e.2.1 (Int.not_lt.2 a2))]
      refine Ev.succ (Ev.const 29) fun k => ?_
      simp only [show_Check.l1]
      rw [if_pos c1, if_pos c0, if_pos c1, if_neg a1, if_pos a2]
    obtain ⟨kd, hkd⟩ : ∃ kd : Nat, rd kids (q : Int) = kd := ⟨(rd kids (q : Int)).toNat, (Int.toNat_of_nonneg (Int.not_lt.1 a1)).symm⟩
    rw [hkd] at a1 a2 ⊢
    have hki : kd < i := Int.ofNat_lt.1 (Int.not_le.1 a2)
    have ck0 : (0 : Int) ≤ (kd : Int) := Int.natCast_nonneg _
    have hkl : kd < l.length := Nat.lt_trans hki hi
    have ckf : (kd : Int) < (fl.length : Int) := by rw [hfl]; exact Int.ofNat_lt.2 hkl
    have ckd : (kd : Int) < ((dp.set i m).length : Int) := by rw [List.length_set, hdl]; exact Int.ofNat_lt.2 hkl
    by_cases a3 : rdOf false fl (kd : Int) = true
    · rw [show kidsGo dp i fl ((kd : Int) :: kids.drop (q + 1)) m = none from if_neg (fun e => by rw [a3] at e; exact absurd e.2.2 (by decide))]
      refine Ev.succ (Ev.const 29) fun k => ?_
      simp only [show_Check.l1]
      rw [if_pos c1, if_pos c0, if_pos c1, hkd, if_neg a1, if_neg a2, if_pos ck0, if_pos ckf, if_pos a3]
    have hd2 := hd.2 kd hkl
    have hrk : rd (dp.set i m) (kd : Int) = rd dp (kd : Int) := by rw [rd_set _ _ _ _ (by rw [hdl]; exact hi), if_neg (Nat.ne_of_gt hki)]
    rw [show kidsGo dp i fl ((kd : Int) :: kids.drop (q + 1)) m = kidsGo dp i (fl.set (kd : Int).toNat true) (kids.drop (q + 1)) (mx m (rd dp (kd : Int))) from if_pos ⟨ck0, Int.ofNat_lt.2 hki, Bool.eq_false_iff.2 a3⟩]
    have hmle : mx m (rd dp (kd : Int)) ≤ (i : Int) := mx_le h1 (Int.le_trans hd2.2.1 (Int.ofNat_le.2 hki))
    refine Ev.succ (ih (q + 1) (fl.set (kd : Int).toNat true) (mx m (rd dp (kd : Int))) (by rw [← hq]; omega) (by rw [List.length_set]; exact hfl) (mx_ge h0 hd2.1) hmle) fun k => ?_
    simp only [show_Check.l1]
    rw [if_pos c1, if_pos c0, if_pos c1, hkd, if_neg a1, if_neg a2, if_pos ck0, if_pos ckf, if_neg a3, if_pos ci0, if_pos cin, if_pos ckd, hset, hrd, hrk, hwq]

/-- slices.Index, slices.Contains at truths. -/
theorem index_loop (x : List Bool) (a : Bool) (hx : x.length ≤ 140737488355328) : ∀ (d i : Nat), i + d = x.length → ∃ v : Int, Ev (fun k => slices_Index_bool_bool.l0 k x a (x.length : Int) (i : Int)) v ∧ decide (v ≥ 0) = (x.drop i).contains a := by
  intro d
  induction d with
  | zero =>
    intro i hi
    refine ⟨-1, (Ev.const _).succ fun k => ?_, by rw [List.drop_of_length_le (by omega)]; rfl⟩
    simp only [slices_Index_bool_bool.l0]
    rw [if_neg (by omega)]
  | succ d ih =>
    intro i hi
    have hlt : i < x.length := by omega
    have c0 : (0 : Int) ≤ (i : Int) := Int.natCast_nonneg _
    have c1 : (i : Int) < (x.length : Int) := Int.ofNat_lt.2 hlt
    have hrd : rdOf false x (i : Int) = x[i] := by unfold rdOf; simp [List.getD, hlt]
    rw [List.drop_eq_getElem_cons hlt, List.contains_cons]
    by_cases he : (a == x[i]) = true
    · refine ⟨(i : Int), (Ev.const _).succ fun k => ?_, by rw [he, Bool.true_or]; exact decide_eq_true c0⟩
      simp only [slices_Index_bool_bool.l0]
      rw [if_pos c1, if_pos c0, if_pos c1, hrd, if_pos he]
    · obtain ⟨v, hv, hd⟩ := ih (i + 1) (by omega)
      refine ⟨v, hv.succ fun k => ?_, by rw [Bool.eq_false_iff.2 he, Bool.false_or]; exact hd⟩
      simp only [slices_Index_bool_bool.l0]
      rw [if_pos c1, if_pos c0, if_pos c1, hrd, if_neg he, wrap_succ i _ hlt hx]
theorem contains_tells (x : List Bool) (a : Bool) (hx : x.length ≤ 140737488355328) : Ev (fun k => slices_Contains_bool_bool.f k x a) (x.contains a) := by
  obtain ⟨v, hv, hd⟩ := index_loop x a hx x.length 0 (by omega)
  rw [List.drop_zero] at hd
  rw [← hd]
  exact Ev.bind (f := fun k => slices_Index_bool_bool.f k x a) hv (Ev.const _)
theorem set_zero (n i : Nat) (dp : List Int) (h : Dp n i dp) (hi : i < n) : dp.set i 0 = dp := by
  have h0 := (h.2 i hi).2.2 (Nat.le_refl _)
  have hl : i < dp.length := by rw [h.1]; exact hi
  rw [rd_nat dp i hl] at h0
  rw [← h0]
  exact List.set_getElem_self hl
/-- At these sizes. -/
def Sz (l : List S39) : Prop := ∀ a : Int, 0 ≤ a → a < l.length → ((∀ s ∈ (rd_T39 l a).f4, s.size ≤ 140737488351232) ∧ (rd_T39 l a).f3.size ≤ 140737488351232 ∧ (rd_T39 l a).f4.length ≤ 140737488355328) ∧ (rd_T39 l a).f5.length ≤ 140737488355328
theorem plain_f (l : List S39) (hz : Sz l) (a : Int) (h0 : 0 ≤ a) (h1 : a < l.length) : show_plain.f (rd_T39 l a).f0 (rd_T39 l a).f1 (rd_T39 l a).f2 (rd_T39 l a).f3 (rd_T39 l a).f4 (rd_T39 l a).f5 = some (plainOf (rd_T39 l a)) := by
  obtain ⟨⟨h2, h3, h4⟩, _⟩ := hz a h0 h1
  exact if_pos ⟨fun s hs => Nat.le_trans (h2 s hs) (by decide), Nat.le_trans h3 (by decide), h4⟩
/-- The values, as the program goes through them. -/
theorem prog_nodes (hn : l.length ≤ 8192) (hz : Sz l) : ∀ (d i : Nat) (fl : List Bool) (dp : List Int), i + d = l.length → 0 < l.length → fl.length = l.length → Dp l.length i dp →
    Ev (fun k => show_Check.l0 k l fl dp l (l.length : Int) (i : Int)) (endOf l.length (nodesGo l d i fl dp)) := by
  intro d
  induction d with
  | zero =>
    intro i fl dp hi hp hfl hd
    have hw : wrap64 ((l.length : Int) - 1) = (l.length : Int) - 1 := by unfold wrap64; omega
    have e1 : (((l.length : Int) - 1) : Int).toNat = l.length - 1 := by omega
    show Ev _ (if (fl.take (l.length - 1)).contains false = true then 29 else if 16 < rd dp ((l.length : Int) - 1) then 26 else 0)
    have b1 : ¬ (i : Int) < (l.length : Int) := by omega
    have b2 : 0 ≤ (l.length : Int) - 1 := by omega
    have b3 : (l.length : Int) - 1 ≤ (fl.length : Int) := by omega
    have b4 : (l.length : Int) - 1 < (dp.length : Int) := by rw [hd.1]; omega
    have hc := contains_tells (fl.take (l.length - 1)) false (by rw [List.length_take]; omega)
    refine Ev.succ (g := fun k => (slices_Contains_bool_bool.f k (fl.take (l.length - 1)) false).bind fun t126 => (if t126 = true then (some 29) else (if (l.length : Int) - 1 < (dp.length : Int) then (if rd dp ((l.length : Int) - 1) > 16 then (some 26) else (some 0)) else (none)))) (Ev.bind hc ?_) fun k => ?_
    · split
      · exact Ev.const _
      · show Ev (fun _ => if rd dp ((l.length : Int) - 1) > 16 then some (26 : Int) else some 0) _
        by_cases h16 : 16 < rd dp ((l.length : Int) - 1)
        · rw [if_pos h16, if_pos h16]; exact Ev.const _
        · rw [if_neg h16, if_neg h16]; exact Ev.const _
    · simp only [show_Check.l0]
      rw [if_neg b1, hw, if_pos b2, if_pos b3, e1]
  | succ d ih =>
    intro i fl dp hi hp hfl hd
    have hlt : i < l.length := by omega
    have c0 : (0 : Int) ≤ (i : Int) := Int.natCast_nonneg _
    have c1 : (i : Int) < (l.length : Int) := Int.ofNat_lt.2 hlt
    have hpl := plain_f l hz (i : Int) c0 c1
    by_cases hpo : plainOf (rd_T39 l (i : Int)) = true
    · have hk5 := (hz (i : Int) c0 c1).2
      have hkind : 1 ≤ (rd_T39 l (i : Int)).f0 ∧ (rd_T39 l (i : Int)).f0 ≤ 6 := by have := plain_kind hpo; omega
      rw [hpo] at hpl
      have e : endOf l.length (nodesGo l (d + 1) i fl dp) = (match kidsGo dp i fl ((rd_T39 l (i : Int)).f5.drop 0) 0 with | none => 29 | some (fl', m') => endOf l.length (nodesGo l d (i + 1) fl' (dp.set i (if 5 ≤ (rd_T39 l (i : Int)).f0 then m' + 1 else m')))) := by
        rw [nodesGo, if_pos hpo, List.drop_zero]
        cases kidsGo dp i fl (rd_T39 l (i : Int)).f5 0 with
        | none => rfl
        | some p => rfl
      rw [e]
      have hpk := prog_kids l hn i hlt dp hd (rd_T39 l (i : Int)).f5 hk5 (rd_T39 l (i : Int)).f0 (rd_T39 l (i : Int)).f1 (rd_T39 l (i : Int)).f2 (rd_T39 l (i : Int)).f3 (rd_T39 l (i : Int)).f4 (rd_T39 l (i : Int)).f5 hkind
        (fun fl' m' => endOf l.length (nodesGo l d (i + 1) fl' (dp.set i (if 5 ≤ (rd_T39 l (i : Int)).f0 then m' + 1 else m'))))
        (fun fl' m' hfl' h0 h1 => ih (i + 1) fl' _ (by omega) hp hfl' (hd.set hlt (by split <;> omega) (by split <;> omega)))
        (rd_T39 l (i : Int)).f5.length 0 fl 0 (by omega) hfl (Int.le_refl _) c0
      rw [set_zero _ _ _ hd hlt] at hpk
      refine hpk.succ fun k => ?_
      simp only [show_Check.l0]
      rw [if_pos c1, if_pos c0, if_pos c1, hpl]
      simp only [Option.bind_some]
      rw [if_pos trivial]
      rfl
    · have e : endOf l.length (nodesGo l (d + 1) i fl dp) = 29 := by rw [nodesGo, if_neg hpo]; rfl
      rw [e]
      rw [Bool.eq_false_iff.2 hpo] at hpl
      refine (Ev.const _).succ fun k => ?_
      simp only [show_Check.l0]
      rw [if_pos c1, if_pos c0, if_pos c1, hpl]
      simp only [Option.bind_some]
      rw [if_neg (by decide)]
theorem Dp_zero (n : Nat) : Dp n 0 (List.replicate n 0) := by
  refine ⟨List.length_replicate, fun j hj => ?_⟩
  have : rd (List.replicate n 0) (j : Int) = 0 := by rw [rd_nat _ _ (by rw [List.length_replicate]; exact hj)]; simp
  rw [this]
  exact ⟨Int.le_refl _, by omega, fun _ => rfl⟩
/-- The program's Check. -/
theorem check_tells (hz : Sz l) : Ev (fun k => show_Check.f k l) (checkOf l) := by
  unfold checkOf
  by_cases h0 : l.length = 0
  · rw [if_pos h0]
    refine (Ev.const _).of_eq fun k => ?_
    unfold show_Check.f
    rw [if_pos (by omega)]
  rw [if_neg h0]
  by_cases h1 : 8192 < l.length
  · rw [if_pos h1]
    refine (Ev.const _).of_eq fun k => ?_
    unfold show_Check.f
    rw [if_neg (by omega), if_pos (by omega)]
  rw [if_neg h1]
  refine (prog_nodes l (by omega) hz l.length 0 _ _ (by omega) (by omega) List.length_replicate (Dp_zero _)).of_eq fun k => ?_
  unfold show_Check.f
  rw [if_neg (by omega), if_neg (by omega), if_pos (by omega), if_pos (by omega), if_pos (by omega)]
  rfl

end

end Go.Proofs.YtldlkoncndlbhaaDoor.Pure

/- The document's 'Check' answers as the program's does. -/
namespace Go.Proofs.YtldlkoncndlbhaaDoor.Pure
open Go.RowKit Go.Proofs.YtldlkoncndlbhaaDoor.Utf Go.Proofs.YtldlkoncndlbhaaDoor.Mb Go.Proofs.YtldlkoncndlbhaaDoor.Pl Go.Proofs.YtldlkoncndlbhaaDoor.Tx Go.Proofs.YtldlkoncndlbhaaDoor.PSh Go.Proofs.YtldlkoncndlbhaaDoorW.PrintWords Go.Proofs.YtldlkoncndlbhaaDoorW.PrintLast Go.Proofs.YtldlkoncndlbhaaDoorW.PrintMore
set_option linter.unusedSimpArgs false
set_option linter.unusedVariables false

/-- How often each place is a kid, beside which places have a parent. -/
def UsOk (us : List Int) (fl : List Bool) : Prop := us.length = fl.length ∧ ∀ j : Nat, j < fl.length → rd us (j : Int) = if rdOf false fl (j : Int) = true then 1 else 0
def Bd (B : Int) (us : List Int) : Prop := ∀ j : Nat, j < us.length → 0 ≤ rd us (j : Int) ∧ rd us (j : Int) ≤ B
def Bad (us : List Int) : Prop := ∃ j : Nat, j + 1 < us.length ∧ 2 ≤ rd us (j : Int)
theorem mx_if (m v : Int) : (if v > m then v else m) = mx m v := by unfold mx; rfl
theorem Bd.mono {B C : Int} {us : List Int} (h : Bd B us) (hb : B ≤ C) : Bd C us := fun j hj => ⟨(h j hj).1, Int.le_trans (h j hj).2 hb⟩
theorem Bd.set {B v : Int} {us : List Int} (h : Bd B us) (i : Nat) (hi : i < us.length) (h0 : 0 ≤ v) (h1 : v ≤ B) : Bd B (us.set i v) := fun j hj => by
  rw [List.length_set] at hj
  rw [rd_set _ _ _ _ hi]
  split
  · exact ⟨h0, h1⟩
  · exact h j hj
theorem Bad.set {us : List Int} (h : Bad us) (i : Nat) (hi : i < us.length) : Bad (us.set i (rd us (i : Int) + 1)) := by
  obtain ⟨j, hj, h2⟩ := h
  refine ⟨j, by rw [List.length_set]; exact hj, ?_⟩
  rw [rd_set _ _ _ _ hi]
  split
  · subst_vars; omega
  · exact h2
attribute [local irreducible] rd rdOf mx

section
variable (l : List S39)
/-- The last look, where a place is no kid, or twice. -/
theorem end_bad (us dp : List Int) (hn : l.length ≤ 8192) (hu : us.length = l.length) (jb : Nat) (hj : jb + 1 < l.length) (h2 : ¬ rd us (jb : Int) = 1) :
    ∀ (d j : Nat), j + d = jb → Ev (fun k => haulierref03_Check.l2 k l us dp (j : Int)) 29 := by
  have hw : wrap64 ((l.length : Int) - 1) = (l.length : Int) - 1 := by unfold wrap64; omega
  intro d
  induction d with
  | zero =>
    intro j hd
    obtain rfl : j = jb := by omega
    have b1 : (j : Int) < (l.length : Int) - 1 := by omega
    have b2 : (0 : Int) ≤ (j : Int) := Int.natCast_nonneg _
    have b3 : (j : Int) < (us.length : Int) := by omega
    refine (Ev.const _).succ fun k => ?_
    simp only [haulierref03_Check.l2]
    rw [hw, if_pos b1, if_pos b2, if_pos b3, if_neg h2]
  | succ d ih =>
    intro j hd
    have b1 : (j : Int) < (l.length : Int) - 1 := by omega
    have b2 : (0 : Int) ≤ (j : Int) := Int.natCast_nonneg _
    have b3 : (j : Int) < (us.length : Int) := by omega
    have hj1 := wrap_succ j l.length (by omega) (by omega)
    by_cases h1 : rd us (j : Int) = 1
    · refine (ih (j + 1) (by omega)).succ fun k => ?_
      simp only [haulierref03_Check.l2]
      rw [hw, if_pos b1, if_pos b2, if_pos b3, if_pos h1, hj1]
    · refine (Ev.const _).succ fun k => ?_
      simp only [haulierref03_Check.l2]
      rw [hw, if_pos b1, if_pos b2, if_pos b3, if_neg h1]
theorem end_good (us dp : List Int) (hn : l.length ≤ 8192) (hp : 0 < l.length) (hu : us.length = l.length) (hd : dp.length = l.length) (h1 : ∀ j : Nat, j + 1 < l.length → rd us (j : Int) = 1) :
    ∀ (d j : Nat), j + d = l.length - 1 → Ev (fun k => haulierref03_Check.l2 k l us dp (j : Int)) (if 16 < rd dp ((l.length : Int) - 1) then 26 else 0) := by
  have hw : wrap64 ((l.length : Int) - 1) = (l.length : Int) - 1 := by unfold wrap64; omega
  intro d
  induction d with
  | zero =>
    intro j hj
    have b1 : ¬ (j : Int) < (l.length : Int) - 1 := by omega
    have b2 : (0 : Int) ≤ (l.length : Int) - 1 := by omega
    have b3 : (l.length : Int) - 1 < (dp.length : Int) := by omega
    by_cases h16 : 16 < rd dp ((l.length : Int) - 1)
    · rw [if_pos h16]
      refine (Ev.const _).succ fun k => ?_
      simp only [haulierref03_Check.l2]
      rw [hw, if_neg b1, if_pos b2, if_pos b3, if_pos h16]
    · rw [if_neg h16]
      refine (Ev.const _).succ fun k => ?_
      simp only [haulierref03_Check.l2]
      rw [hw, if_neg b1, if_pos b2, if_pos b3, if_neg h16]
  | succ d ih =>
    intro j hj
    have b1 : (j : Int) < (l.length : Int) - 1 := by omega
    have b2 : (0 : Int) ≤ (j : Int) := Int.natCast_nonneg _
    have b3 : (j : Int) < (us.length : Int) := by omega
    have hj1 := wrap_succ j l.length (by omega) (by omega)
    refine (ih (j + 1) (by omega)).succ fun k => ?_
    simp only [haulierref03_Check.l2]
    rw [hw, if_pos b1, if_pos b2, if_pos b3, if_pos (h1 j (by omega)), hj1]

/-- One kid. -/
theorem kid_step (hn : l.length ≤ 8192) (i : Nat) (hi : i < l.length) (dp us : List Int) (hd : dp.length = l.length) (hu : us.length = l.length) (hk : (rd_T39 l (i : Int)).f5.length ≤ 140737488355328) (q : Nat) (hq : q < (rd_T39 l (i : Int)).f5.length) (m : Int)
    (kd : Nat) (hkd : rd (rd_T39 l (i : Int)).f5 (q : Int) = kd) (hki : kd < i) (hb : rd us (kd : Int) + 1 ≤ 4611686018427387904) (h0 : 0 ≤ rd us (kd : Int)) (v : Int)
    (hv : Ev (fun k => haulierref03_Check.l1 k l (us.set kd (rd us (kd : Int) + 1)) dp (i : Int) (mx m (rd dp (kd : Int))) ((q + 1 : Nat) : Int)) v) :
    Ev (fun k => haulierref03_Check.l1 k l us dp (i : Int) m (q : Int)) v := by
  have c0 : (0 : Int) ≤ (i : Int) := Int.natCast_nonneg _
  have c1 : (i : Int) < (l.length : Int) := Int.ofNat_lt.2 hi
  have c2 : (q : Int) < ((rd_T39 l (i : Int)).f5.length : Int) := Int.ofNat_lt.2 hq
  have c3 : (0 : Int) ≤ (q : Int) := Int.natCast_nonneg _
  have c4 : ¬ (kd : Int) < 0 := by omega
  have c5 : decide ((kd : Int) ≥ (i : Int)) = false := by rw [decide_eq_false_iff_not]; omega
  have c6 : (0 : Int) ≤ (kd : Int) := Int.natCast_nonneg _
  have c7 : (kd : Int) < (us.length : Int) := by omega
  have c8 : (kd : Int) < (dp.length : Int) := by omega
  have hw : wrap64 (rd us (kd : Int) + 1) = rd us (kd : Int) + 1 := by
    generalize rd us (kd : Int) = x at *
    unfold wrap64
    omega
  have hwq := wrap_succ q _ hq hk
  have hj2 : Ev (fun k => haulierref03_Check.j2 k l us dp (i : Int) m (q : Int) (kd : Int) false) v := by
    refine hv.succ fun k => ?_
    simp only [haulierref03_Check.j2]
    rw [if_neg (by decide), if_pos c6, if_pos c7, hw, hwq]
    simp only [Option.bind_some, Int.toNat_natCast]
    rw [if_pos c8, ← mx_if]
    split <;> rfl
  refine hj2.succ fun k => ?_
  simp only [haulierref03_Check.l1]
  rw [if_pos c0, if_pos c1, if_pos c2, if_pos c3, hkd, if_neg c4, c5]
/-- A kid that may not be. -/
theorem kid_out (i : Nat) (hi : i < l.length) (dp us : List Int) (q : Nat) (hq : q < (rd_T39 l (i : Int)).f5.length) (m : Int) (h : rd (rd_T39 l (i : Int)).f5 (q : Int) < 0 ∨ (i : Int) ≤ rd (rd_T39 l (i : Int)).f5 (q : Int)) :
    Ev (fun k => haulierref03_Check.l1 k l us dp (i : Int) m (q : Int)) 29 := by
  have c0 : (0 : Int) ≤ (i : Int) := Int.natCast_nonneg _
  have c1 : (i : Int) < (l.length : Int) := Int.ofNat_lt.2 hi
  have c2 : (q : Int) < ((rd_T39 l (i : Int)).f5.length : Int) := Int.ofNat_lt.2 hq
  have c3 : (0 : Int) ≤ (q : Int) := Int.natCast_nonneg _
  have hj2 : Ev (fun k => haulierref03_Check.j2 k l us dp (i : Int) m (q : Int) (rd (rd_T39 l (i : Int)).f5 (q : Int)) true) 29 := by
    refine (Ev.const _).succ fun k => ?_
    simp only [haulierref03_Check.j2]
    rw [if_pos trivial]
  refine hj2.succ fun k => ?_
  simp only [haulierref03_Check.l1]
  by_cases h1 : rd (rd_T39 l (i : Int)).f5 (q : Int) < 0
  · rw [if_pos c0, if_pos c1, if_pos c2, if_pos c3, if_pos h1]
  · have h2 : decide (rd (rd_T39 l (i : Int)).f5 (q : Int) ≥ (i : Int)) = true := decide_eq_true (h.resolve_left h1)
    rw [if_pos c0, if_pos c1, if_pos c2, if_pos c3, if_neg h1, h2]
/-- Behind the last kid. -/
theorem kids_end (hn : l.length ≤ 8192) (i : Nat) (hi : i < l.length) (dp us : List Int) (hd : dp.length = l.length) (m : Int) (hm : 0 ≤ m ∧ m ≤ 8192) (v : Int)
    (hv : Ev (fun k => haulierref03_Check.l0 k l us (dp.set i (if 5 ≤ (rd_T39 l (i : Int)).f0 then m + 1 else m)) ((i + 1 : Nat) : Int)) v) :
    Ev (fun k => haulierref03_Check.l1 k l us dp (i : Int) m ((rd_T39 l (i : Int)).f5.length : Int)) v := by
  have c0 : (0 : Int) ≤ (i : Int) := Int.natCast_nonneg _
  have c1 : (i : Int) < (l.length : Int) := Int.ofNat_lt.2 hi
  have c2 : ¬ ((rd_T39 l (i : Int)).f5.length : Int) < ((rd_T39 l (i : Int)).f5.length : Int) := Int.lt_irrefl _
  have c3 : (i : Int) < (dp.length : Int) := by omega
  have hw : wrap64 (m + 1) = m + 1 := by unfold wrap64; omega
  have hwi := wrap_succ i l.length hi (by omega)
  refine hv.succ fun k => ?_
  simp only [haulierref03_Check.l1]
  by_cases h5 : (rd_T39 l (i : Int)).f0 ≥ 5
  · rw [if_pos c0, if_pos c1, if_neg c2, if_pos h5, if_pos c3, hw, hwi, Int.toNat_natCast, if_pos h5]
  · rw [if_pos c0, if_pos c1, if_neg c2, if_neg h5, if_pos c3, hwi, Int.toNat_natCast, if_neg h5]
theorem bd_set {B : Int} {us : List Int} (h : Bd B us) (i : Nat) (hi : i < us.length) : Bd (B + 1) (us.set i (rd us (i : Int) + 1)) :=
  (h.mono (by omega)).set i hi (by have := (h i hi).1; omega) (by have := (h i hi).2; omega)
/-- Where a place is a kid twice, the answer is told. -/
theorem bad_kids (hn : l.length ≤ 8192) (i : Nat) (hi : i < l.length) (dp : List Int) (hd : Dp l.length i dp) (hk : (rd_T39 l (i : Int)).f5.length ≤ 140737488355328) (B : Int) (hB : B + 140737488355328 ≤ 4611686018427387000)
    (hV : ∀ (us : List Int) (m : Int), us.length = l.length → 0 ≤ m → m ≤ i → Bd (B + 140737488355328) us → Bad us → Ev (fun k => haulierref03_Check.l0 k l us (dp.set i (if 5 ≤ (rd_T39 l (i : Int)).f0 then m + 1 else m)) ((i + 1 : Nat) : Int)) 29) :
    ∀ (r q : Nat) (us : List Int) (m : Int), q + r = (rd_T39 l (i : Int)).f5.length → us.length = l.length → 0 ≤ m → m ≤ i → Bd (B + q) us → Bad us → Ev (fun k => haulierref03_Check.l1 k l us dp (i : Int) m (q : Int)) 29 := by
  intro r
  induction r with
  | zero =>
    intro q us m hq hu h0 h1 hb hbad
    obtain rfl : q = (rd_T39 l (i : Int)).f5.length := by omega
    exact kids_end l hn i hi dp us hd.1 m ⟨h0, by omega⟩ 29 (hV us m hu h0 h1 (hb.mono (by omega)) hbad)
  | succ r ih =>
    intro q us m hq hu h0 h1 hb hbad
    have hql : q < (rd_T39 l (i : Int)).f5.length := by omega
    by_cases ho : rd (rd_T39 l (i : Int)).f5 (q : Int) < 0 ∨ (i : Int) ≤ rd (rd_T39 l (i : Int)).f5 (q : Int)
    · exact kid_out l i hi dp us q hql m ho
    · have hkn : 0 ≤ rd (rd_T39 l (i : Int)).f5 (q : Int) := Int.not_lt.1 fun e => ho (.inl e)
      have hki : rd (rd_T39 l (i : Int)).f5 (q : Int) < (i : Int) := Int.not_le.1 fun e => ho (.inr e)
      obtain ⟨kd, hkd⟩ : ∃ kd : Nat, rd (rd_T39 l (i : Int)).f5 (q : Int) = kd := ⟨(rd (rd_T39 l (i : Int)).f5 (q : Int)).toNat, (Int.toNat_of_nonneg hkn).symm⟩
      rw [hkd] at hki
      have hki := Int.ofNat_lt.1 hki
      have hku : kd < us.length := by rw [hu]; omega
      obtain ⟨b0, b1⟩ := hb kd hku
      have hd2 := hd.2 kd (by omega)
      exact kid_step l hn i hi dp us hd.1 hu hk q hql m kd hkd hki (by omega) b0 29
        (ih (q + 1) _ _ (by omega) (by rw [List.length_set]; exact hu) (mx_ge h0 hd2.1) (mx_le h1 (by omega)) ((bd_set hb kd hku).mono (by omega)) (hbad.set kd hku))
theorem bad_nodes (hn : l.length ≤ 8192) (hz : Sz l) : ∀ (d i : Nat) (us dp : List Int), i + d = l.length → 0 < l.length → us.length = l.length → Dp l.length i dp → Bd ((i : Int) * 140737488355328 + 2) us → Bad us →
    Ev (fun k => haulierref03_Check.l0 k l us dp (i : Int)) 29 := by
  intro d
  induction d with
  | zero =>
    intro i us dp hi hp hu hd hb hbad
    obtain ⟨jb, hj, h2⟩ := hbad
    have b1 : ¬ (i : Int) < (l.length : Int) := by omega
    refine (end_bad l us dp hn hu jb (by omega) (by omega) jb 0 (by omega)).succ fun k => ?_
    simp only [haulierref03_Check.l0]
    rw [if_neg b1]
    rfl
  | succ d ih =>
    intro i us dp hi hp hu hd hb hbad
    have hlt : i < l.length := by omega
    have c0 : (0 : Int) ≤ (i : Int) := Int.natCast_nonneg _
    have c1 : (i : Int) < (l.length : Int) := Int.ofNat_lt.2 hlt
    obtain ⟨⟨z1, z2, z3⟩, z4⟩ := hz (i : Int) c0 c1
    have hpl := plain_tells (rd_T39 l (i : Int)).f0 (rd_T39 l (i : Int)).f1 (rd_T39 l (i : Int)).f2 (rd_T39 l (i : Int)).f3 (rd_T39 l (i : Int)).f4 (rd_T39 l (i : Int)).f5 z3 z1 z2
    have hl0 : ∀ (b : Bool), plainOf (rd_T39 l (i : Int)) = b → Ev (fun k => if b = true then haulierref03_Check.l1 k l us dp (i : Int) 0 0 else some 29) 29 → Ev (fun k => haulierref03_Check.l0 k l us dp (i : Int)) 29 := by
      intro b hb2 hv
      have hpb : Ev (fun k => haulierref03_plain.f k (rd_T39 l (i : Int)).f0 (rd_T39 l (i : Int)).f1 (rd_T39 l (i : Int)).f2 (rd_T39 l (i : Int)).f3 (rd_T39 l (i : Int)).f4 (rd_T39 l (i : Int)).f5) b := by rw [← hb2]; exact hpl
      refine (Ev.bind (g := fun k (t153 : Bool) => if t153 = true then haulierref03_Check.l1 k l us dp (i : Int) 0 0 else some 29) hpb hv).succ fun k => ?_
      simp only [haulierref03_Check.l0]
      rw [if_pos c1, if_pos c0]
    cases hb2 : plainOf (rd_T39 l (i : Int))
    · exact hl0 false hb2 ((Ev.const _).of_eq fun k => if_neg (by decide))
    · refine hl0 true hb2 (Ev.of_eq ?_ fun k => if_pos rfl)
      have hbk : Bd ((i : Int) * 140737488355328 + 2 + ((0 : Nat) : Int)) us := hb.mono (by omega)
      exact bad_kids l hn i hlt dp hd z4 ((i : Int) * 140737488355328 + 2) (by omega)
        (fun us' m hu' h0 h1 hb' hbad' => ih (i + 1) us' _ (by omega) hp hu' (hd.set hlt (by split <;> omega) (by split <;> omega)) (hb'.mono (by omega)) hbad')
        (rd_T39 l (i : Int)).f5.length 0 us 0 (by omega) hu (Int.le_refl _) c0 hbk hbad
theorem UsOk.bd {us : List Int} {fl : List Bool} (h : UsOk us fl) : Bd 1 us := fun j hj => by
  rw [h.2 j (by rw [← h.1]; exact hj)]
  split <;> decide
/-- The kids, where none is there twice yet. -/
theorem good_kids (hn : l.length ≤ 8192) (hz : Sz l) (i : Nat) (hi : i < l.length) (dp : List Int) (hd : Dp l.length i dp) (V : List Bool → Int → Int)
    (hV : ∀ (us : List Int) (fl : List Bool) (m : Int), UsOk us fl → fl.length = l.length → 0 ≤ m → m ≤ i → Ev (fun k => haulierref03_Check.l0 k l us (dp.set i (if 5 ≤ (rd_T39 l (i : Int)).f0 then m + 1 else m)) ((i + 1 : Nat) : Int)) (V fl m)) :
    ∀ (r q : Nat) (us : List Int) (fl : List Bool) (m : Int), q + r = (rd_T39 l (i : Int)).f5.length → UsOk us fl → fl.length = l.length → 0 ≤ m → m ≤ i →
      Ev (fun k => haulierref03_Check.l1 k l us dp (i : Int) m (q : Int)) (match kidsGo dp i fl ((rd_T39 l (i : Int)).f5.drop q) m with | none => 29 | some (fl', m') => V fl' m') := by
  have c0 : (0 : Int) ≤ (i : Int) := Int.natCast_nonneg _
  have c1 : (i : Int) < (l.length : Int) := Int.ofNat_lt.2 hi
  have hk := (hz (i : Int) c0 c1).2
  intro r
  induction r with
  | zero =>
    intro q us fl m hq hu hfl h0 h1
    obtain rfl : q = (rd_T39 l (i : Int)).f5.length := by omega
    rw [List.drop_of_length_le (Nat.le_refl _)]
    exact kids_end l hn i hi dp us hd.1 m ⟨h0, by omega⟩ _ (hV us fl m hu hfl h0 h1)
  | succ r ih =>
    intro q us fl m hq hu hfl h0 h1
    have hql : q < (rd_T39 l (i : Int)).f5.length := by omega
    rw [kids_at (rd_T39 l (i : Int)).f5 q hql]
    by_cases ho : rd (rd_T39 l (i : Int)).f5 (q : Int) < 0 ∨ (i : Int) ≤ rd (rd_T39 l (i : Int)).f5 (q : Int)
    · rw [show kidsGo dp i fl (rd (rd_T39 l (i : Int)).f5 (q : Int) :: (rd_T39 l (i : Int)).f5.drop (q + 1)) m = none from if_neg (fun e => ho.elim (fun x => absurd e.1 (Int.not_le.2 x)) (fun x => absurd e.2.1 (Int.not_lt.2 x)))]
      exact kid_out l i hi dp us q hql m ho
    have hkn : 0 ≤ rd (rd_T39 l (i : Int)).f5 (q : Int) := Int.not_lt.1 fun e => ho (.inl e)
    have hki : rd (rd_T39 l (i : Int)).f5 (q : Int) < (i : Int) := Int.not_le.1 fun e => ho (.inr e)
    obtain ⟨kd, hkd⟩ : ∃ kd : Nat, rd (rd_T39 l (i : Int)).f5 (q : Int) = kd := ⟨(rd (rd_T39 l (i : Int)).f5 (q : Int)).toNat, (Int.toNat_of_nonneg hkn).symm⟩
    rw [hkd] at hki
    have hki := Int.ofNat_lt.1 hki
    have hlu : us.length = l.length := hu.1.trans hfl
    have hkf : kd < fl.length := by rw [hfl]; omega
    have hku : kd < us.length := by rw [hlu]; omega
    have hd2 := hd.2 kd (by omega)
    have hbd := hu.bd
    obtain ⟨b0, b1⟩ := hbd kd hku
    have huk := hu.2 kd hkf
    have hmx0 := mx_ge h0 hd2.1
    have hmx1 : mx m (rd dp (kd : Int)) ≤ (i : Int) := mx_le h1 (Int.le_trans hd2.2.1 (Int.ofNat_le.2 hki))
    rw [hkd]
    by_cases a3 : rdOf false fl (kd : Int) = true
    · rw [show kidsGo dp i fl ((kd : Int) :: (rd_T39 l (i : Int)).f5.drop (q + 1)) m = none from if_neg (fun e => by rw [a3] at e; exact absurd e.2.2 (by decide))]
      rw [if_pos a3] at huk
      refine kid_step l hn i hi dp us hd.1 hlu hk q hql m kd hkd hki (by omega) b0 29 ?_
      have hbad : Bad (us.set kd (rd us (kd : Int) + 1)) := ⟨kd, by rw [List.length_set, hlu]; omega, by rw [rd_set _ _ _ _ hku, if_pos rfl]; omega⟩
      exact bad_kids l hn i hi dp hd hk ((i : Int) * 140737488355328 + 2) (by omega)
        (fun us' m' hu' h0' h1' hb' hbad' => bad_nodes l hn hz (l.length - (i + 1)) (i + 1) us' _ (by omega) (by omega) hu' (hd.set hi (by split <;> omega) (by split <;> omega)) (hb'.mono (by omega)) hbad')
        r (q + 1) _ _ (by omega) (by rw [List.length_set]; exact hlu) hmx0 hmx1 ((bd_set hbd kd hku).mono (by omega)) hbad
    · rw [show kidsGo dp i fl ((kd : Int) :: (rd_T39 l (i : Int)).f5.drop (q + 1)) m = kidsGo dp i (fl.set (kd : Int).toNat true) ((rd_T39 l (i : Int)).f5.drop (q + 1)) (mx m (rd dp (kd : Int))) from if_pos ⟨Int.natCast_nonneg _, Int.ofNat_lt.2 hki, Bool.eq_false_iff.2 a3⟩]
      rw [if_neg a3] at huk
      refine kid_step l hn i hi dp us hd.1 hlu hk q hql m kd hkd hki (by omega) b0 _ ?_
      refine ih (q + 1) _ (fl.set (kd : Int).toNat true) _ (by omega) ?_ (by rw [List.length_set]; exact hfl) hmx0 hmx1
      refine ⟨by rw [List.length_set, List.length_set]; exact hu.1, fun j hj => ?_⟩
      rw [List.length_set] at hj
      rw [Int.toNat_natCast, rd_set _ _ _ _ hku, rdF_set _ _ _ _ hkf, huk]
      by_cases e : kd = j
      · rw [if_pos e, if_pos e]; rfl
      · rw [if_neg e, if_neg e]; exact hu.2 j hj
theorem good_nodes (hn : l.length ≤ 8192) (hz : Sz l) : ∀ (d i : Nat) (us : List Int) (fl : List Bool) (dp : List Int), i + d = l.length → 0 < l.length → UsOk us fl → fl.length = l.length → Dp l.length i dp →
    Ev (fun k => haulierref03_Check.l0 k l us dp (i : Int)) (endOf l.length (nodesGo l d i fl dp)) := by
  intro d
  induction d with
  | zero =>
    intro i us fl dp hi hp hu hfl hd
    have b1 : ¬ (i : Int) < (l.length : Int) := by omega
    have hlu : us.length = l.length := hu.1.trans hfl
    show Ev _ (if (fl.take (l.length - 1)).contains false = true then 29 else if 16 < rd dp ((l.length : Int) - 1) then 26 else 0)
    have hgo : ∀ v : Int, Ev (fun k => haulierref03_Check.l2 k l us dp ((0 : Nat) : Int)) v → Ev (fun k => haulierref03_Check.l0 k l us dp (i : Int)) v := fun v hv => by
      refine hv.succ fun k => ?_
      simp only [haulierref03_Check.l0]
      rw [if_neg b1]
      rfl
    have hrdf : ∀ j : Nat, j < fl.length → rdOf false fl (j : Int) = fl.getD j false := fun j hj => by
      unfold rdOf
      rw [Int.toNat_natCast]
    by_cases hc : (fl.take (l.length - 1)).contains false = true
    · rw [if_pos hc]
      rw [List.contains_iff_mem, List.mem_take_iff_getElem] at hc
      obtain ⟨j, hj, e⟩ := hc
      have hjf : j < fl.length := by omega
      have hju := hu.2 j hjf
      rw [hrdf j hjf, List.getD_eq_getElem?_getD, List.getElem?_eq_getElem hjf, Option.getD_some, e, if_neg (by decide)] at hju
      exact hgo _ (end_bad l us dp hn hlu j (by omega) (by omega) j 0 (by omega))
    · rw [if_neg hc]
      refine hgo _ (end_good l us dp hn hp hlu hd.1 (fun j hj => ?_) (l.length - 1) 0 (by omega))
      have hjf : j < fl.length := by omega
      rw [hu.2 j hjf, if_pos]
      rw [hrdf j hjf, List.getD_eq_getElem?_getD, List.getElem?_eq_getElem hjf, Option.getD_some]
      cases e : fl[j]
      · exact absurd (by rw [List.contains_iff_mem, List.mem_take_iff_getElem]; exact ⟨j, by omega, e⟩) hc
      · rfl
  | succ d ih =>
    intro i us fl dp hi hp hu hfl hd
    have hlt : i < l.length := by omega
    have c0 : (0 : Int) ≤ (i : Int) := Int.natCast_nonneg _
    have c1 : (i : Int) < (l.length : Int) := Int.ofNat_lt.2 hlt
    obtain ⟨⟨z1, z2, z3⟩, z4⟩ := hz (i : Int) c0 c1
    have hpl := plain_tells (rd_T39 l (i : Int)).f0 (rd_T39 l (i : Int)).f1 (rd_T39 l (i : Int)).f2 (rd_T39 l (i : Int)).f3 (rd_T39 l (i : Int)).f4 (rd_T39 l (i : Int)).f5 z3 z1 z2
    have hl0 : ∀ (b : Bool) (v : Int), plainOf (rd_T39 l (i : Int)) = b → Ev (fun k => if b = true then haulierref03_Check.l1 k l us dp (i : Int) 0 0 else some 29) v → Ev (fun k => haulierref03_Check.l0 k l us dp (i : Int)) v := by
      intro b v hb2 hv
      have hpb : Ev (fun k => haulierref03_plain.f k (rd_T39 l (i : Int)).f0 (rd_T39 l (i : Int)).f1 (rd_T39 l (i : Int)).f2 (rd_T39 l (i : Int)).f3 (rd_T39 l (i : Int)).f4 (rd_T39 l (i : Int)).f5) b := by rw [← hb2]; exact hpl
      refine (Ev.bind (g := fun k (t153 : Bool) => if t153 = true then haulierref03_Check.l1 k l us dp (i : Int) 0 0 else some 29) hpb hv).succ fun k => ?_
      simp only [haulierref03_Check.l0]
      rw [if_pos c1, if_pos c0]
    cases hb2 : plainOf (rd_T39 l (i : Int))
    · have e : endOf l.length (nodesGo l (d + 1) i fl dp) = 29 := by rw [nodesGo, if_neg (by rw [hb2]; decide)]; rfl
      rw [e]
      exact hl0 false 29 hb2 ((Ev.const _).of_eq fun k => if_neg (by decide))
    · have e : endOf l.length (nodesGo l (d + 1) i fl dp) = (match kidsGo dp i fl ((rd_T39 l (i : Int)).f5.drop 0) 0 with | none => 29 | some (fl', m') => endOf l.length (nodesGo l d (i + 1) fl' (dp.set i (if 5 ≤ (rd_T39 l (i : Int)).f0 then m' + 1 else m')))) := by
        rw [nodesGo, if_pos hb2, List.drop_zero]
        cases kidsGo dp i fl (rd_T39 l (i : Int)).f5 0 with
        | none => rfl
        | some p => rfl
      rw [e]
      refine hl0 true _ hb2 (Ev.of_eq ?_ fun k => if_pos rfl)
      exact good_kids l hn hz i hlt dp hd (fun fl' m' => endOf l.length (nodesGo l d (i + 1) fl' (dp.set i (if 5 ≤ (rd_T39 l (i : Int)).f0 then m' + 1 else m'))))
        (fun us' fl' m' hu' hfl' h0 h1 => ih (i + 1) us' fl' _ (by omega) hp hu' hfl' (hd.set hlt (by split <;> omega) (by split <;> omega)))
        (rd_T39 l (i : Int)).f5.length 0 us fl 0 (by omega) hu hfl (Int.le_refl _) c0
/-- The document's Check. -/
theorem refcheck_tells (hz : Sz l) : Ev (fun k => haulierref03_Check.f k l) (checkOf l) := by
  unfold checkOf
  by_cases h0 : l.length = 0
  · rw [if_pos h0]
    refine (Ev.const _).of_eq fun k => ?_
    unfold haulierref03_Check.f
    rw [if_pos (by omega)]
  rw [if_neg h0]
  by_cases h1 : 8192 < l.length
  · rw [if_pos h1]
    refine (Ev.const _).of_eq fun k => ?_
    unfold haulierref03_Check.f
    rw [if_neg (by omega), if_pos (by omega)]
  rw [if_neg h1]
  have hu : UsOk (List.replicate l.length 0) (List.replicate l.length false) := by
    refine ⟨by rw [List.length_replicate, List.length_replicate], fun j hj => ?_⟩
    rw [List.length_replicate] at hj
    rw [rd_nat _ _ (by rw [List.length_replicate]; exact hj)]
    have : rdOf false (List.replicate l.length false) (j : Int) = false := by unfold rdOf; rw [Int.toNat_natCast, List.getD_eq_getElem?_getD, List.getElem?_replicate, if_pos hj]; rfl
    rw [this]
    simp
  refine (good_nodes l (by omega) hz l.length 0 _ _ _ (by omega) (by omega) hu List.length_replicate (Dp_zero _)).of_eq fun k => ?_
  unfold haulierref03_Check.f
  rw [if_neg (by omega), if_neg (by omega), if_pos (by omega), if_pos (by omega)]
  rfl
end

end Go.Proofs.YtldlkoncndlbhaaDoor.Pure

/- The layer's fixed fact, walked: chapter 3's examples. -/
namespace Go.Proofs.YtldlkoncndlbhaaDoor.Aw
open Go.RowKit Go.Proofs.YtldlkoncndlbhaaDoor.Utf Go.Proofs.YtldlkoncndlbhaaDoor.Pl Go.Proofs.YtldlkoncndlbhaaDoor.Tx Go.Proofs.YtldlkoncndlbhaaDoor.Wr Go.Proofs.YtldlkoncndlbhaaDoor.Pure Go.Proofs.YtldlkoncndlbhaaDoor.PSh Go.Proofs.YtldlkoncndlbhaaDoorW.PrintWords Go.Proofs.YtldlkoncndlbhaaDoorW.PrintLast Go.Proofs.YtldlkoncndlbhaaDoorW.PrintMore
set_option linter.unusedSimpArgs false
set_option linter.unusedVariables false

def t0 : S39 := ⟨3, false, 1, ⟨#[]⟩, [], []⟩
def t1 : S39 := ⟨4, false, 0, ⟨#[97, 10]⟩, [], []⟩
def t2 : S39 := ⟨5, false, 0, ⟨#[]⟩, [], [0, 1]⟩
def tr : List S39 := [t0, t1, t2]
theorem wid_low (a : UInt8) (r : List UInt8) (h : a.toNat < 128) : wid (a :: r) = 1 := (dec_head a r h).2
theorem utf_a : utf [97, 10] = true := by
  unfold utf
  rw [dif_neg (by simp), dif_neg (by rw [wid_low _ _ (by decide)]; decide), wid_low _ _ (by decide)]
  show utf [10] = true
  unfold utf
  rw [dif_neg (by simp), dif_neg (by rw [wid_low _ _ (by decide)]; decide), wid_low _ _ (by decide)]
  exact utf_nil
theorem toList_nil : (⟨#[]⟩ : ByteArray).toList = [] := by rw [Pure.toList_data]
theorem p0 : plainOf t0 = true := by unfold plainOf plainB t0; simp [namesGo, toList_nil]
theorem p1 : plainOf t1 = true := by unfold plainOf plainB t1; simp [namesGo, utf_a]
theorem p2 : plainOf t2 = true := by unfold plainOf plainB t2; simp [namesGo, toList_nil]
theorem at0 : rd_T39 tr 0 = t0 := rfl
theorem at1 : rd_T39 tr 1 = t1 := rfl
theorem at2 : rd_T39 tr 2 = t2 := rfl
theorem cases3 {a : Int} (h0 : 0 ≤ a) (h1 : a < tr.length) : a = 0 ∨ a = 1 ∨ a = 2 := by
  have : (tr.length : Int) = 3 := rfl
  omega
theorem check_tr : checkOf tr = 0 := by
  have e : nodesGo tr 3 0 [false, false, false] [0, 0, 0] = some ([true, true, false], [0, 0, 1]) := by
    have k0 : t0.f5 = [] := rfl
    have k1 : t1.f5 = [] := rfl
    have k2 : t2.f5 = [0, 1] := rfl
    have z0 : t0.f0 = 3 := rfl
    have z1 : t1.f0 = 4 := rfl
    have z2 : t2.f0 = 5 := rfl
    rw [nodesGo, show rd_T39 tr ((0 : Nat) : Int) = t0 from rfl, if_pos p0, k0, kidsGo, z0]
    show nodesGo tr 2 1 [false, false, false] [0, 0, 0] = _
    rw [nodesGo, show rd_T39 tr ((1 : Nat) : Int) = t1 from rfl, if_pos p1, k1, kidsGo, z1]
    show nodesGo tr 1 2 [false, false, false] [0, 0, 0] = _
    rw [nodesGo, show rd_T39 tr ((2 : Nat) : Int) = t2 from rfl, if_pos p2, k2, z2]
    decide
  unfold checkOf
  rw [if_neg (by decide), if_neg (by decide)]
  show endOf 3 (nodesGo tr 3 0 [false, false, false] [0, 0, 0]) = 0
  rw [e]
  decide
theorem sz_tr : Sz tr := by
  intro a h0 h1
  rcases cases3 h0 h1 with rfl | rfl | rfl
  · rw [at0]; exact ⟨⟨fun s h => (by cases h), by decide, by decide⟩, by decide⟩
  · rw [at1]; exact ⟨⟨fun s h => (by cases h), by decide, by decide⟩, by decide⟩
  · rw [at2]; exact ⟨⟨fun s h => (by cases h), by decide, by decide⟩, by decide⟩
theorem tree_tr : Tree tr := by
  intro a h0 h1
  rcases cases3 h0 h1 with rfl | rfl | rfl
  · rw [at0]; exact ⟨p0, fun i hi => absurd hi (by decide +revert)⟩
  · rw [at1]; exact ⟨p1, fun i hi => absurd hi (by decide +revert)⟩
  · rw [at2]
    refine ⟨p2, fun i hi => ?_⟩
    have : i < 2 := hi
    match i, this with
    | 0, _ => decide
    | 1, _ => decide
theorem sized_tr : Sized tr := by
  intro a h0 h1
  rcases cases3 h0 h1 with rfl | rfl | rfl
  · rw [at0]; exact ⟨by decide, by decide, fun i hi => absurd hi (by decide +revert)⟩
  · rw [at1]; exact ⟨by decide, by decide, fun i hi => absurd hi (by decide +revert)⟩
  · rw [at2]; exact ⟨by decide, by decide, fun i hi => absurd hi (by decide +revert)⟩
theorem inner_a : inner [97, 10] = [97, 92, 117, 48, 48, 48, 97] := by
  rw [Qu.inner_step _ (by simp), show piece [97, 10] = [97] by (unfold piece; rw [if_neg (by rw [wid_low _ _ (by decide)]; decide), if_neg (by decide), if_neg (by decide), wid_low _ _ (by decide)]; rfl), show adv [97, 10] = 1 by (unfold adv; rw [if_neg (by rw [wid_low _ _ (by decide)]; decide), wid_low _ _ (by decide)])]
  show [97] ++ inner [10] = _
  rw [Qu.inner_step _ (by simp), show piece [10] = [92, 117, 48, 48, 48, 97] by (unfold piece; rw [if_neg (by rw [wid_low _ _ (by decide)]; decide), if_neg (by decide), if_pos (by decide)]; decide), show adv [10] = 1 by (unfold adv; rw [if_neg (by rw [wid_low _ _ (by decide)]; decide), wid_low _ _ (by decide)])]
  show [97] ++ ([92, 117, 48, 48, 48, 97] ++ inner []) = _
  rw [Qu.inner_nil]
  rfl
theorem itoa_one : Lib.itoa 1 = [49] := by
  unfold Lib.itoa
  rw [if_neg (by decide)]
  show Lib.decDigits 1 = [49]
  unfold Lib.decDigits
  rfl
theorem text_tr : textOf tr = [91, 49, 44, 34, 97, 92, 117, 48, 48, 48, 97, 34, 93] := by
  unfold textOf
  show txt tr 3 2 = _
  rw [txt_succ, at2, txtOf_5 _ _ rfl]
  show [91] ++ joined (fun i : Nat => txt tr 2 (rd [0, 1] (i : Int))) 2 ++ [93] = _
  simp only [joined]
  rw [show rd [0, 1] ((0 : Nat) : Int) = 0 from rfl, show rd [0, 1] ((1 : Nat) : Int) = 1 from rfl, txt_succ, txt_succ, at0, at1, txtOf_3 _ _ rfl, txtOf_4 _ _ rfl]
  show [91] ++ ([] ++ (([]) ++ Lib.itoa 1) ++ ([44] ++ inQuotes [97, 10])) ++ [93] = _
  rw [itoa_one, inQuotes, inner_a]
  rfl

theorem str_nums (t : List UInt8) : strOfNums (numsOf t) = ⟨t.toArray⟩ := by
  unfold strOfNums numsOf
  rw [List.map_map]
  have : (fun n : Int => UInt8.ofNat n.toNat) ∘ (fun b : UInt8 => (b.toNat : Int)) = id := by
    funext b
    simp
  rw [this, List.map_id]

/-- The fixed tree, as it is laid. -/
theorem lies_tr (w : World) : Kd.C k39 ((w.alloc (.cells #[.int .i64 0, .int .i64 1] 3)).alloc (.cells #[.int .i64 3, .bool false, .int .i64 1, .string ⟨#[]⟩, .slice none 0 0, .slice none 0 0, .int .i64 4, .bool false, .int .i64 0, .string ⟨#[97, 10]⟩, .slice none 0 0, .slice none 0 0, .int .i64 5, .bool false, .int .i64 0, .string ⟨#[]⟩, .slice none 0 0, .slice (some ⟨w.heap.size, 0, none⟩) 2 2] 39)) (some ⟨w.heap.size + 1, 0, none⟩) tr.length tr := by
  have hz : (w.alloc (.cells #[.int .i64 0, .int .i64 1] 3)).heap.size = w.heap.size + 1 := Array.size_push _
  have h1 : ((w.alloc (.cells #[.int .i64 0, .int .i64 1] 3)).alloc (.cells #[.int .i64 3, .bool false, .int .i64 1, .string ⟨#[]⟩, .slice none 0 0, .slice none 0 0, .int .i64 4, .bool false, .int .i64 0, .string ⟨#[97, 10]⟩, .slice none 0 0, .slice none 0 0, .int .i64 5, .bool false, .int .i64 0, .string ⟨#[]⟩, .slice none 0 0, .slice (some ⟨w.heap.size, 0, none⟩) 2 2] 39)).heap[w.heap.size + 1]? = some (.cells #[.int .i64 3, .bool false, .int .i64 1, .string ⟨#[]⟩, .slice none 0 0, .slice none 0 0, .int .i64 4, .bool false, .int .i64 0, .string ⟨#[97, 10]⟩, .slice none 0 0, .slice none 0 0, .int .i64 5, .bool false, .int .i64 0, .string ⟨#[]⟩, .slice none 0 0, .slice (some ⟨w.heap.size, 0, none⟩) 2 2] 39) := by
    rw [← hz]
    exact Array.getElem?_push_size
  have h0 : ((w.alloc (.cells #[.int .i64 0, .int .i64 1] 3)).alloc (.cells #[.int .i64 3, .bool false, .int .i64 1, .string ⟨#[]⟩, .slice none 0 0, .slice none 0 0, .int .i64 4, .bool false, .int .i64 0, .string ⟨#[97, 10]⟩, .slice none 0 0, .slice none 0 0, .int .i64 5, .bool false, .int .i64 0, .string ⟨#[]⟩, .slice none 0 0, .slice (some ⟨w.heap.size, 0, none⟩) 2 2] 39)).heap[w.heap.size]? = some (.cells #[.int .i64 0, .int .i64 1] 3) := by
    rw [Lib.alloc_old _ _ _ (by rw [hz]; omega)]
    exact Array.getElem?_push_size
  generalize (w.alloc (.cells #[.int .i64 0, .int .i64 1] 3)).alloc (.cells #[.int .i64 3, .bool false, .int .i64 1, .string ⟨#[]⟩, .slice none 0 0, .slice none 0 0, .int .i64 4, .bool false, .int .i64 0, .string ⟨#[97, 10]⟩, .slice none 0 0, .slice none 0 0, .int .i64 5, .bool false, .int .i64 0, .string ⟨#[]⟩, .slice none 0 0, .slice (some ⟨w.heap.size, 0, none⟩) 2 2] 39) = W at *
  have hk : (Kd.int .i64).C W (some ⟨w.heap.size, 0, none⟩) 2 [0, 1] := by
    refine ⟨rfl, by decide, fun _ => ⟨⟨w.heap.size, 0, none⟩, rfl, fun j p hj => ⟨[.int .i64 p], rfl, rfl, fun i u hu => ?_⟩⟩⟩
    rw [add_plain, World.cell?, h0]
    match j, i, hj, hu with
    | 0, 0, hj, hu => cases hj; cases hu; rfl
    | 1, 0, hj, hu => cases hj; cases hu; rfl
    | 0, i + 1, hj, hu => cases hu
    | 1, i + 1, hj, hu => cases hu
    | j + 2, _, hj, hu => cases hj
  have hn9 : Kd.string.C W none 0 [] := Kd.C_nil _ _
  have hn3 : (Kd.int .i64).C W none 0 [] := Kd.C_nil _ _
  refine ⟨rfl, by decide, fun _ => ⟨⟨w.heap.size + 1, 0, none⟩, rfl, fun j p hj => ?_⟩⟩
  match j, hj with
  | 0, hj =>
    cases hj
    refine ⟨_, rfl, k39_mk W t0 (A4 := none) (c4 := 0) (Nat.le_refl _) hn9 (A5 := none) (c5 := 0) (Nat.le_refl _) hn3, fun i u hu => ?_⟩
    rw [add_plain, World.cell?, h1]
    match i, hu with
    | 0, hu => cases hu; rfl
    | 1, hu => cases hu; rfl
    | 2, hu => cases hu; rfl
    | 3, hu => cases hu; rfl
    | 4, hu => cases hu; rfl
    | 5, hu => cases hu; rfl
    | i + 6, hu => cases hu
  | 1, hj =>
    cases hj
    refine ⟨_, rfl, k39_mk W t1 (A4 := none) (c4 := 0) (Nat.le_refl _) hn9 (A5 := none) (c5 := 0) (Nat.le_refl _) hn3, fun i u hu => ?_⟩
    rw [add_plain, World.cell?, h1]
    match i, hu with
    | 0, hu => cases hu; rfl
    | 1, hu => cases hu; rfl
    | 2, hu => cases hu; rfl
    | 3, hu => cases hu; rfl
    | 4, hu => cases hu; rfl
    | 5, hu => cases hu; rfl
    | i + 6, hu => cases hu
  | 2, hj =>
    cases hj
    refine ⟨_, rfl, k39_mk W t2 (A4 := none) (c4 := 0) (Nat.le_refl _) hn9 (A5 := some ⟨w.heap.size, 0, none⟩) (c5 := 2) (Nat.le_refl _) hk, fun i u hu => ?_⟩
    rw [add_plain, World.cell?, h1]
    match i, hu with
    | 0, hu => cases hu; rfl
    | 1, hu => cases hu; rfl
    | 2, hu => cases hu; rfl
    | 3, hu => cases hu; rfl
    | 4, hu => cases hu; rfl
    | 5, hu => cases hu; rfl
    | i + 6, hu => cases hu
  | j + 3, hj => cases hj

set_option maxHeartbeats 4000000 in
set_option maxRecDepth 100000 in
theorem awake_walk (w : World) (hG : Aside0 (Glob w)) : Calls Tryd.prog 10 #[] w fun e w' => e = .returned (.bool true) ∧ Below w.heap.size w w' := by
  obtain ⟨K, hK⟩ := check_tells tr sz_tr
  have hck := hK K (Nat.le_refl _)
  rw [check_tr] at hck
  obtain ⟨K2, hK2⟩ := check_tells [] (fun a h0 h1 => by simp at h1; omega)
  have hck2 : show_Check.f K2 [] = some 29 := hK2 K2 (Nat.le_refl _)
  have hl := lies_tr w
  have hB1 := below_alloc (below_alloc (Below.refl w.heap.size w) (.cells #[.int .i64 0, .int .i64 1] 3)) (.cells #[.int .i64 3, .bool false, .int .i64 1, .string ⟨#[]⟩, .slice none 0 0, .slice none 0 0, .int .i64 4, .bool false, .int .i64 0, .string ⟨#[97, 10]⟩, .slice none 0 0, .slice none 0 0, .int .i64 5, .bool false, .int .i64 0, .string ⟨#[]⟩, .slice none 0 0, .slice (some ⟨w.heap.size, 0, none⟩) 2 2] 39)
  have hG1 := hG.out.below hB1
  have hpr := print_walk K tr (some ⟨w.heap.size + 1, 0, none⟩) 3 0 _ ⟨hG1⟩ hl (Nat.le_refl _) (by decide) hck (fun _ => ⟨by decide, tree_tr, sized_tr, by rw [text_tr]; decide⟩)
  go_enter Tryd.func10, Tryd.ntmps10
  go_wp2_with (first
    | (go_at_call 14; refine hpr.mono ?_; rintro e w2 ⟨A', c', t, rfl, hrd, hb2, ht⟩; rw [if_pos rfl, text_tr] at ht; subst ht; have hcv : (convert 30 9 (.slice A' 13 c')).run Tryd.prog w2 = .ok (.string ⟨#[91, 49, 44, 34, 97, 92, 117, 48, 48, 48, 97, 34, 93]⟩) w2 := (string_of_reads (P := Tryd.prog) (src := 30) (dst := 9) (e := 5) (c := c') Tryd.underlying30 Tryd.underlying5 Tryd.underlying9 hrd).trans (by rw [str_nums]); have hB2 := hB1.trans (hb2.mono hB1.size))
    | (go_at_call 11; refine (show_Check.calls K2 none 0 [] 29 _ ⟨hG.out.below hB2⟩ (Kd.C_nil _ _) (Nat.le_refl _) hck2).mono ?_; rintro e w3 ⟨rfl, hb3⟩))
  go_ret
  exact ⟨rfl, hB2.trans (hb3.mono hB2.size)⟩

end Go.Proofs.YtldlkoncndlbhaaDoor.Aw
