/- What 'Check' answers, in plain words; the program's and the document's answer it. -/
import Derived.Test.YtldlkoncndlbhaaDoorPlainLaw
import Derived.Test.YtldlkoncndlbhaaDoorPShx5
import Derived.Test.YtldlkoncndlbhaaDoorPShx2
namespace Go.Proofs.YtldlkoncndlbhaaDoor.Pure
open Go.RowKit Go.Proofs.YtldlkoncndlbhaaDoor.Utf Go.Proofs.YtldlkoncndlbhaaDoor.Mb Go.Proofs.YtldlkoncndlbhaaDoor.Pl Go.Proofs.YtldlkoncndlbhaaDoor.Tx Go.Proofs.YtldlkoncndlbhaaDoor.PSh Go.Proofs.YtldlkoncndlbhaaDoorW.PrintWords Go.Proofs.YtldlkoncndlbhaaDoorW.PrintLast Go.Proofs.YtldlkoncndlbhaaDoorW.PrintMore
set_option linter.unusedSimpArgs false
set_option linter.unusedVariables false

/-- The kids of the value at place i: which places have a parent then, and how deep the deepest is. -/
def kidsGo (dp : List Int) (i : Nat) : List Bool → List Int → Int → Option (List Bool × Int)
  | fl, [], m => some (fl, m)
  | fl, k :: r, m => if 0 ≤ k ∧ k < i ∧ rdOf false fl k = false then kidsGo dp i (fl.set k.toNat true) r (mx m (rd dp k)) else none
/-- The values from place i on. -/
def nodesGo (l : List S39) : Nat → Nat → List Bool → List Int → Option (List Bool × List Int)
  | 0, _, fl, dp => some (fl, dp)
  | d + 1, i, fl, dp =>
    if plainOf (rd_T39 l (i : Int)) = true then
      match kidsGo dp i fl (rd_T39 l (i : Int)).f5 0 with
      | none => none
      | some (fl', m) => nodesGo l d (i + 1) fl' (dp.set i (if 5 ≤ (rd_T39 l (i : Int)).f0 then m + 1 else m))
    else none
/-- What the whole comes to. -/
def endOf (n : Nat) : Option (List Bool × List Int) → Int
  | none => 29
  | some (fl, dp) => if (fl.take (n - 1)).contains false = true then 29 else if 16 < rd dp ((n : Int) - 1) then 26 else 0
def checkOf (l : List S39) : Int :=
  if l.length = 0 then 29 else if 8192 < l.length then 27 else endOf l.length (nodesGo l l.length 0 (List.replicate l.length false) (List.replicate l.length 0))

/-- What is kept of the depths. -/
def Dp (n i : Nat) (dp : List Int) : Prop := dp.length = n ∧ ∀ j : Nat, j < n → 0 ≤ rd dp (j : Int) ∧ rd dp (j : Int) ≤ j + 1 ∧ (i ≤ j → rd dp (j : Int) = 0)
theorem rd_nat (l : List Int) (j : Nat) (h : j < l.length) : rd l (j : Int) = l[j] := by simp [rd, List.getElem?_eq_getElem h]
theorem rd_set (l : List Int) (i j : Nat) (v : Int) (h : i < l.length) : rd (l.set i v) (j : Int) = if i = j then v else rd l (j : Int) := by
  unfold rd
  simp only [Int.toNat_natCast, List.getD_eq_getElem?_getD, List.getElem?_set]
  split
  · subst_vars; first | rfl | (rw [if_pos h]; rfl)
  · rfl
theorem rdF_set (l : List Bool) (i j : Nat) (v : Bool) (h : i < l.length) : rdOf false (l.set i v) (j : Int) = if i = j then v else rdOf false l (j : Int) := by
  unfold rdOf
  simp only [Int.toNat_natCast, List.getD_eq_getElem?_getD, List.getElem?_set]
  split
  · subst_vars; first | rfl | (rw [if_pos h]; rfl)
  · rfl
theorem Dp.set {n i : Nat} {dp : List Int} (h : Dp n i dp) (hi : i < n) {m : Int} (h0 : 0 ≤ m) (h1 : m ≤ i + 1) : Dp n (i + 1) (dp.set i m) := by
  refine ⟨by rw [List.length_set]; exact h.1, fun j hj => ?_⟩
  rw [rd_set _ _ _ _ (by rw [h.1]; exact hi)]
  obtain ⟨a, b, c⟩ := h.2 j hj
  split
  · subst_vars; exact ⟨h0, h1, fun e => by omega⟩
  · exact ⟨a, b, fun e => c (by omega)⟩
theorem mx_le {a b c : Int} (h1 : a ≤ c) (h2 : b ≤ c) : mx a b ≤ c := by unfold mx; split <;> assumption
theorem mx_ge {a b : Int} (h1 : 0 ≤ a) (h2 : 0 ≤ b) : 0 ≤ mx a b := by unfold mx; split <;> assumption
theorem kids_at (x : List Int) (q : Nat) (h : q < x.length) : x.drop q = rd x (q : Int) :: x.drop (q + 1) := by rw [rd_nat x q h]; exact List.drop_eq_getElem_cons h

attribute [local irreducible] rd rdOf mx
section
variable (l : List S39)
set_option maxHeartbeats 2000000 in
/-- The kids, as the program goes through them. -/
theorem prog_kids (hn : l.length ≤ 8192) (i : Nat) (hi : i < l.length) (dp : List Int) (hd : Dp l.length i dp) (kids : List Int) (hk : kids.length ≤ 140737488355328) (f0 : Int) (f1 : Bool) (f2 : Int) (f3 : ByteArray) (f4 : List ByteArray) (f5 : List Int) (hf : 1 ≤ f0 ∧ f0 ≤ 6)
    (V : List Bool → Int → Int) (hV : ∀ (fl : List Bool) (m : Int), fl.length = l.length → 0 ≤ m → m ≤ i → Ev (fun k => show_Check.l0 k l fl (dp.set i (if 5 ≤ f0 then m + 1 else m)) l (l.length : Int) ((i + 1 : Nat) : Int)) (V fl m)) :
    ∀ (r q : Nat) (fl : List Bool) (m : Int), q + r = kids.length → fl.length = l.length → 0 ≤ m → m ≤ i →
      Ev (fun k => show_Check.l1 k l fl (dp.set i m) (i : Int) l (l.length : Int) (i : Int) kids (kids.length : Int) (q : Int) f0 f1 f2 f3 f4 f5) (match kidsGo dp i fl (kids.drop q) m with | none => 29 | some (fl', m') => V fl' m') := by
  have hdl := hd.1
  have hset : ∀ m v : Int, (dp.set i m).set ((i : Int)).toNat v = dp.set i v := fun m v => by rw [Int.toNat_natCast, List.set_set]
  have hrd : ∀ m : Int, rd (dp.set i m) (i : Int) = m := fun m => by rw [rd_set _ _ _ _ (by omega), if_pos rfl]
  have hw : wrap64 ((i : Int) + 1) = ((i + 1 : Nat) : Int) := wrap_succ i _ hi (by omega)
  intro r
  induction r with
  | zero =>
    intro q fl m hq hfl h0 h1
    rw [List.drop_of_length_le (by omega)]
    show Ev _ (V fl m)
    refine (hV fl m hfl h0 h1).succ fun k => ?_
    simp only [show_Check.l1]
    rw [if_neg (by omega)]
    have hm1 : wrap64 (m + 1) = m + 1 := by unfold wrap64; omega
    by_cases k5 : f0 = 5
    · rw [if_pos k5, if_pos (by omega), if_pos (by rw [List.length_set]; omega), hset, hrd, hm1, hw, if_pos (by omega)]
    · rw [if_neg k5]
      by_cases k6 : f0 = 6
      · rw [if_pos k6, if_pos (by omega), if_pos (by rw [List.length_set]; omega), hset, hrd, hm1, hw, if_pos (by omega)]
      · rw [if_neg k6, hw, if_neg (by omega)]
  | succ r ih =>
    intro q fl m hq hfl h0 h1
    have hql : q < kids.length := by omega
    have c0 : (0 : Int) ≤ (q : Int) := Int.natCast_nonneg _
    have c1 : (q : Int) < (kids.length : Int) := Int.ofNat_lt.2 hql
    have ci0 : (0 : Int) ≤ (i : Int) := Int.natCast_nonneg _
    have cin : (i : Int) < ((dp.set i m).length : Int) := by rw [List.length_set, hdl]; exact Int.ofNat_lt.2 hi
    have hwq := wrap_succ q _ hql hk
    rw [kids_at kids q hql]
    by_cases a1 : rd kids (q : Int) < 0
    · rw [show kidsGo dp i fl (rd kids (q : Int) :: kids.drop (q + 1)) m = none from if_neg (fun e => absurd e.1 (Int.not_le.2 a1))]
      refine Ev.succ (Ev.const 29) fun k => ?_
      simp only [show_Check.l1]
      rw [if_pos c1, if_pos c0, if_pos c1, if_pos a1]
    by_cases a2 : rd kids (q : Int) ≥ (i : Int)
    · rw [show kidsGo dp i fl (rd kids (q : Int) :: kids.drop (q + 1)) m = none from if_neg (fun e => absurd e.2.1 (Int.not_lt.2 a2))]
      refine Ev.succ (Ev.const 29) fun k => ?_
      simp only [show_Check.l1]
      rw [if_pos c1, if_pos c0, if_pos c1, if_neg a1, if_pos a2]
    obtain ⟨kd, hkd⟩ : ∃ kd : Nat, rd kids (q : Int) = kd := ⟨(rd kids (q : Int)).toNat, (Int.toNat_of_nonneg (Int.not_lt.1 a1)).symm⟩
    rw [hkd] at a1 a2 ⊢
    have hki : kd < i := Int.ofNat_lt.1 (Int.not_le.1 a2)
    have ck0 : (0 : Int) ≤ (kd : Int) := Int.natCast_nonneg _
    have hkl : kd < l.length := Nat.lt_trans hki hi
    have ckf : (kd : Int) < (fl.length : Int) := by rw [hfl]; exact Int.ofNat_lt.2 hkl
    have ckd : (kd : Int) < ((dp.set i m).length : Int) := by rw [List.length_set, hdl]; exact Int.ofNat_lt.2 hkl
    by_cases a3 : rdOf false fl (kd : Int) = true
    · rw [show kidsGo dp i fl ((kd : Int) :: kids.drop (q + 1)) m = none from if_neg (fun e => by rw [a3] at e; exact absurd e.2.2 (by decide))]
      refine Ev.succ (Ev.const 29) fun k => ?_
      simp only [show_Check.l1]
      rw [if_pos c1, if_pos c0, if_pos c1, hkd, if_neg a1, if_neg a2, if_pos ck0, if_pos ckf, if_pos a3]
    have hd2 := hd.2 kd hkl
    have hrk : rd (dp.set i m) (kd : Int) = rd dp (kd : Int) := by rw [rd_set _ _ _ _ (by rw [hdl]; exact hi), if_neg (Nat.ne_of_gt hki)]
    rw [show kidsGo dp i fl ((kd : Int) :: kids.drop (q + 1)) m = kidsGo dp i (fl.set (kd : Int).toNat true) (kids.drop (q + 1)) (mx m (rd dp (kd : Int))) from if_pos ⟨ck0, Int.ofNat_lt.2 hki, Bool.eq_false_iff.2 a3⟩]
    have hmle : mx m (rd dp (kd : Int)) ≤ (i : Int) := mx_le h1 (Int.le_trans hd2.2.1 (Int.ofNat_le.2 hki))
    refine Ev.succ (ih (q + 1) (fl.set (kd : Int).toNat true) (mx m (rd dp (kd : Int))) (by rw [← hq]; omega) (by rw [List.length_set]; exact hfl) (mx_ge h0 hd2.1) hmle) fun k => ?_
    simp only [show_Check.l1]
    rw [if_pos c1, if_pos c0, if_pos c1, hkd, if_neg a1, if_neg a2, if_pos ck0, if_pos ckf, if_neg a3, if_pos ci0, if_pos cin, if_pos ckd, hset, hrd, hrk, hwq]

/-- slices.Index, slices.Contains at truths. -/
theorem index_loop (x : List Bool) (a : Bool) (hx : x.length ≤ 140737488355328) : ∀ (d i : Nat), i + d = x.length → ∃ v : Int, Ev (fun k => slices_Index_bool_bool.l0 k x a (x.length : Int) (i : Int)) v ∧ decide (v ≥ 0) = (x.drop i).contains a := by
  intro d
  induction d with
  | zero =>
    intro i hi
    refine ⟨-1, (Ev.const _).succ fun k => ?_, by rw [List.drop_of_length_le (by omega)]; rfl⟩
    simp only [slices_Index_bool_bool.l0]
    rw [if_neg (by omega)]
  | succ d ih =>
    intro i hi
    have hlt : i < x.length := by omega
    have c0 : (0 : Int) ≤ (i : Int) := Int.natCast_nonneg _
    have c1 : (i : Int) < (x.length : Int) := Int.ofNat_lt.2 hlt
    have hrd : rdOf false x (i : Int) = x[i] := by unfold rdOf; simp [List.getD, hlt]
    rw [List.drop_eq_getElem_cons hlt, List.contains_cons]
    by_cases he : (a == x[i]) = true
    · refine ⟨(i : Int), (Ev.const _).succ fun k => ?_, by rw [he, Bool.true_or]; exact decide_eq_true c0⟩
      simp only [slices_Index_bool_bool.l0]
      rw [if_pos c1, if_pos c0, if_pos c1, hrd, if_pos he]
    · obtain ⟨v, hv, hd⟩ := ih (i + 1) (by omega)
      refine ⟨v, hv.succ fun k => ?_, by rw [Bool.eq_false_iff.2 he, Bool.false_or]; exact hd⟩
      simp only [slices_Index_bool_bool.l0]
      rw [if_pos c1, if_pos c0, if_pos c1, hrd, if_neg he, wrap_succ i _ hlt hx]
theorem contains_tells (x : List Bool) (a : Bool) (hx : x.length ≤ 140737488355328) : Ev (fun k => slices_Contains_bool_bool.f k x a) (x.contains a) := by
  obtain ⟨v, hv, hd⟩ := index_loop x a hx x.length 0 (by omega)
  rw [List.drop_zero] at hd
  rw [← hd]
  exact Ev.bind (f := fun k => slices_Index_bool_bool.f k x a) hv (Ev.const _)
theorem set_zero (n i : Nat) (dp : List Int) (h : Dp n i dp) (hi : i < n) : dp.set i 0 = dp := by
  have h0 := (h.2 i hi).2.2 (Nat.le_refl _)
  have hl : i < dp.length := by rw [h.1]; exact hi
  rw [rd_nat dp i hl] at h0
  rw [← h0]
  exact List.set_getElem_self hl
/-- At these sizes. -/
def Sz (l : List S39) : Prop := ∀ a : Int, 0 ≤ a → a < l.length → ((∀ s ∈ (rd_T39 l a).f4, s.size ≤ 140737488351232) ∧ (rd_T39 l a).f3.size ≤ 140737488351232 ∧ (rd_T39 l a).f4.length ≤ 140737488355328) ∧ (rd_T39 l a).f5.length ≤ 140737488355328
theorem plain_f (l : List S39) (hz : Sz l) (a : Int) (h0 : 0 ≤ a) (h1 : a < l.length) : show_plain.f (rd_T39 l a).f0 (rd_T39 l a).f1 (rd_T39 l a).f2 (rd_T39 l a).f3 (rd_T39 l a).f4 (rd_T39 l a).f5 = some (plainOf (rd_T39 l a)) := by
  obtain ⟨⟨h2, h3, h4⟩, _⟩ := hz a h0 h1
  exact if_pos ⟨fun s hs => Nat.le_trans (h2 s hs) (by decide), Nat.le_trans h3 (by decide), h4⟩
/-- The values, as the program goes through them. -/
theorem prog_nodes (hn : l.length ≤ 8192) (hz : Sz l) : ∀ (d i : Nat) (fl : List Bool) (dp : List Int), i + d = l.length → 0 < l.length → fl.length = l.length → Dp l.length i dp →
    Ev (fun k => show_Check.l0 k l fl dp l (l.length : Int) (i : Int)) (endOf l.length (nodesGo l d i fl dp)) := by
  intro d
  induction d with
  | zero =>
    intro i fl dp hi hp hfl hd
    have hw : wrap64 ((l.length : Int) - 1) = (l.length : Int) - 1 := by unfold wrap64; omega
    have e1 : (((l.length : Int) - 1) : Int).toNat = l.length - 1 := by omega
    show Ev _ (if (fl.take (l.length - 1)).contains false = true then 29 else if 16 < rd dp ((l.length : Int) - 1) then 26 else 0)
    have b1 : ¬ (i : Int) < (l.length : Int) := by omega
    have b2 : 0 ≤ (l.length : Int) - 1 := by omega
    have b3 : (l.length : Int) - 1 ≤ (fl.length : Int) := by omega
    have b4 : (l.length : Int) - 1 < (dp.length : Int) := by rw [hd.1]; omega
    have hc := contains_tells (fl.take (l.length - 1)) false (by rw [List.length_take]; omega)
    refine Ev.succ (g := fun k => (slices_Contains_bool_bool.f k (fl.take (l.length - 1)) false).bind fun t126 => (if t126 = true then (some 29) else (if (l.length : Int) - 1 < (dp.length : Int) then (if rd dp ((l.length : Int) - 1) > 16 then (some 26) else (some 0)) else (none)))) (Ev.bind hc ?_) fun k => ?_
    · split
      · exact Ev.const _
      · show Ev (fun _ => if rd dp ((l.length : Int) - 1) > 16 then some (26 : Int) else some 0) _
        by_cases h16 : 16 < rd dp ((l.length : Int) - 1)
        · rw [if_pos h16, if_pos h16]; exact Ev.const _
        · rw [if_neg h16, if_neg h16]; exact Ev.const _
    · simp only [show_Check.l0]
      rw [if_neg b1, hw, if_pos b2, if_pos b3, e1]
  | succ d ih =>
    intro i fl dp hi hp hfl hd
    have hlt : i < l.length := by omega
    have c0 : (0 : Int) ≤ (i : Int) := Int.natCast_nonneg _
    have c1 : (i : Int) < (l.length : Int) := Int.ofNat_lt.2 hlt
    have hpl := plain_f l hz (i : Int) c0 c1
    by_cases hpo : plainOf (rd_T39 l (i : Int)) = true
    · have hk5 := (hz (i : Int) c0 c1).2
      have hkind : 1 ≤ (rd_T39 l (i : Int)).f0 ∧ (rd_T39 l (i : Int)).f0 ≤ 6 := by have := plain_kind hpo; omega
      rw [hpo] at hpl
      have e : endOf l.length (nodesGo l (d + 1) i fl dp) = (match kidsGo dp i fl ((rd_T39 l (i : Int)).f5.drop 0) 0 with | none => 29 | some (fl', m') => endOf l.length (nodesGo l d (i + 1) fl' (dp.set i (if 5 ≤ (rd_T39 l (i : Int)).f0 then m' + 1 else m')))) := by
        rw [nodesGo, if_pos hpo, List.drop_zero]
        cases kidsGo dp i fl (rd_T39 l (i : Int)).f5 0 with
        | none => rfl
        | some p => rfl
      rw [e]
      have hpk := prog_kids l hn i hlt dp hd (rd_T39 l (i : Int)).f5 hk5 (rd_T39 l (i : Int)).f0 (rd_T39 l (i : Int)).f1 (rd_T39 l (i : Int)).f2 (rd_T39 l (i : Int)).f3 (rd_T39 l (i : Int)).f4 (rd_T39 l (i : Int)).f5 hkind
        (fun fl' m' => endOf l.length (nodesGo l d (i + 1) fl' (dp.set i (if 5 ≤ (rd_T39 l (i : Int)).f0 then m' + 1 else m'))))
        (fun fl' m' hfl' h0 h1 => ih (i + 1) fl' _ (by omega) hp hfl' (hd.set hlt (by split <;> omega) (by split <;> omega)))
        (rd_T39 l (i : Int)).f5.length 0 fl 0 (by omega) hfl (Int.le_refl _) c0
      rw [set_zero _ _ _ hd hlt] at hpk
      refine hpk.succ fun k => ?_
      simp only [show_Check.l0]
      rw [if_pos c1, if_pos c0, if_pos c1, hpl]
      simp only [Option.bind_some]
      rw [if_pos trivial]
      rfl
    · have e : endOf l.length (nodesGo l (d + 1) i fl dp) = 29 := by rw [nodesGo, if_neg hpo]; rfl
      rw [e]
      rw [Bool.eq_false_iff.2 hpo] at hpl
      refine (Ev.const _).succ fun k => ?_
      simp only [show_Check.l0]
      rw [if_pos c1, if_pos c0, if_pos c1, hpl]
      simp only [Option.bind_some]
      rw [if_neg (by decide)]
theorem Dp_zero (n : Nat) : Dp n 0 (List.replicate n 0) := by
  refine ⟨List.length_replicate, fun j hj => ?_⟩
  have : rd (List.replicate n 0) (j : Int) = 0 := by rw [rd_nat _ _ (by rw [List.length_replicate]; exact hj)]; simp
  rw [this]
  exact ⟨Int.le_refl _, by omega, fun _ => rfl⟩
/-- The program's Check. -/
theorem check_tells (hz : Sz l) : Ev (fun k => show_Check.f k l) (checkOf l) := by
  unfold checkOf
  by_cases h0 : l.length = 0
  · rw [if_pos h0]
    refine (Ev.const _).of_eq fun k => ?_
    unfold show_Check.f
    rw [if_pos (by omega)]
  rw [if_neg h0]
  by_cases h1 : 8192 < l.length
  · rw [if_pos h1]
    refine (Ev.const _).of_eq fun k => ?_
    unfold show_Check.f
    rw [if_neg (by omega), if_pos (by omega)]
  rw [if_neg h1]
  refine (prog_nodes l (by omega) hz l.length 0 _ _ (by omega) (by omega) List.length_replicate (Dp_zero _)).of_eq fun k => ?_
  unfold show_Check.f
  rw [if_neg (by omega), if_neg (by omega), if_pos (by omega), if_pos (by omega), if_pos (by omega)]
  rfl

end

end Go.Proofs.YtldlkoncndlbhaaDoor.Pure
