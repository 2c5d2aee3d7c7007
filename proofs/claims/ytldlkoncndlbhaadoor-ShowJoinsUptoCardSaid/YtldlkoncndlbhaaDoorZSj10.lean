/- YtldlkoncndlbhaaDoorZSj10: texts of the seat (CheckLaw, RefCheck, Awake), one behind the other, without what this claim's theorem does not rest on. -/
import Derived.Test.YtldlkoncndlbhaaDoorZSj9

namespace Go.Proofs.YtldlkoncndlbhaaDoor.Pure
open Go.RowKit Go.Proofs.YtldlkoncndlbhaaDoor.Utf Go.Proofs.YtldlkoncndlbhaaDoor.Mb Go.Proofs.YtldlkoncndlbhaaDoor.Pl Go.Proofs.YtldlkoncndlbhaaDoor.Tx Go.Proofs.YtldlkoncndlbhaaDoor.PSh Go.Proofs.YtldlkoncndlbhaaDoorW.PrintWords Go.Proofs.YtldlkoncndlbhaaDoorW.PrintLast Go.Proofs.YtldlkoncndlbhaaDoorW.PrintMore
set_option linter.unusedSimpArgs false
set_option linter.unusedVariables false
/-- The kids of the value at place i: which places have a parent then, and how deep the deepest is. -/
def kidsGo (dp : List Int) (i : Nat) : List Bool → List Int → Int → Option (List Bool × Int)
  | fl, [], m => some (fl, m)
  | fl, k :: r, m => if 0 ≤ k ∧ k < i ∧ rdOf false fl k = false then kidsGo dp i (fl.set k.toNat true) r (mx m (rd dp k)) else none
/-- The values from place i on. -/
def nodesGo (l : List S39) : Nat → Nat → List Bool → List Int → Option (List Bool × List Int)
  | 0, _, fl, dp => some (fl, dp)
  | d + 1, i, fl, dp =>
    if plainOf (rd_T39 l (i : Int)) = true then
      match kidsGo dp i fl (rd_T39 l (i : Int)).f5 0 with
      | none => none
      | some (fl', m) => nodesGo l d (i + 1) fl' (dp.set i (if 5 ≤ (rd_T39 l (i : Int)).f0 then m + 1 else m))
    else none
/-- What the whole comes to. -/
def endOf (n : Nat) : Option (List Bool × List Int) → Int
  | none => 29
  | some (fl, dp) => if (fl.take (n - 1)).contains false = true then 29 else if 16 < rd dp ((n : Int) - 1) then 26 else 0
def checkOf (l : List S39) : Int :=
  if l.length = 0 then 29 else if 8192 < l.length then 27 else endOf l.length (nodesGo l l.length 0 (List.replicate l.length false) (List.replicate l.length 0))
/-- What is kept of the depths. -/
def Dp (n i : Nat) (dp : List Int) : Prop := dp.length = n ∧ ∀ j : Nat, j < n → 0 ≤ rd dp (j : Int) ∧ rd dp (j : Int) ≤ j + 1 ∧ (i ≤ j → rd dp (j : Int) = 0)
theorem rd_nat (l : List Int) (j : Nat) (h : j < l.length) : rd l (j : Int) = l[j] := by simp [rd, List.getElem?_eq_getElem h]
theorem rd_set (l : List Int) (i j : Nat) (v : Int) (h : i < l.length) : rd (l.set i v) (j : Int) = if i = j then v else rd l (j : Int) := by
  unfold rd
  simp only [Int.toNat_natCast, List.getD_eq_getElem?_getD, List.getElem?_set]
  split
  · subst_vars; first | rfl | (rw [if_pos h]; rfl)
  · rfl
theorem rdF_set (l : List Bool) (i j : Nat) (v : Bool) (h : i < l.length) : rdOf false (l.set i v) (j : Int) = if i = j then v else rdOf false l (j : Int) := by
  unfold rdOf
  simp only [Int.toNat_natCast, List.getD_eq_getElem?_getD, List.getElem?_set]
  split
  · subst_vars; first | rfl | (rw [if_pos h]; rfl)
  · rfl
theorem Dp.set {n i : Nat} {dp : List Int} (h : Dp n i dp) (hi : i < n) {m : Int} (h0 : 0 ≤ m) (h1 : m ≤ i + 1) : Dp n (i + 1) (dp.set i m) := by
  refine ⟨by rw [List.length_set]; exact h.1, fun j hj => ?_⟩
  rw [rd_set _ _ _ _ (by rw [h.1]; exact hi)]
  obtain ⟨a, b, c⟩ := h.2 j hj
  split
  · subst_vars; exact ⟨h0, h1, fun e => by omega⟩
  · exact ⟨a, b, fun e => c (by omega)⟩
theorem mx_le {a b c : Int} (h1 : a ≤ c) (h2 : b ≤ c) : mx a b ≤ c := by unfold mx; split <;> assumption
theorem mx_ge {a b : Int} (h1 : 0 ≤ a) (h2 : 0 ≤ b) : 0 ≤ mx a b := by unfold mx; split <;> assumption
theorem kids_at (x : List Int) (q : Nat) (h : q < x.length) : x.drop q = rd x (q : Int) :: x.drop (q + 1) := by rw [rd_nat x q h]; exact List.drop_eq_getElem_cons h
attribute [local irreducible] rd rdOf mx
section
variable (l : List S39)
set_option maxHeartbeats 2000000 in
/-- The kids, as the program goes through them. -/
theorem prog_kids (hn : l.length ≤ 8192) (i : Nat) (hi : i < l.length) (dp : List Int) (hd : Dp l.length i dp) (kids : List Int) (hk : kids.length ≤ 140737488355328) (f0 : Int) (f1 : Bool) (f2 : Int) (f3 : ByteArray) (f4 : List ByteArray) (f5 : List Int) (hf : 1 ≤ f0 ∧ f0 ≤ 6)
    (V : List Bool → Int → Int) (hV : ∀ (fl : List Bool) (m : Int), fl.length = l.length → 0 ≤ m → m ≤ i → Ev (fun k => show_Check.l0 k l fl (dp.set i (if 5 ≤ f0 then m + 1 else m)) l (l.length : Int) ((i + 1 : Nat) : Int)) (V fl m)) :
    ∀ (r q : Nat) (fl : List Bool) (m : Int), q + r = kids.length → fl.length = l.length → 0 ≤ m → m ≤ i →
      Ev (fun k => show_Check.l1 k l fl (dp.set i m) (i : Int) l (l.length : Int) (i : Int) kids (kids.length : Int) (q : Int) f0 f1 f2 f3 f4 f5) (match kidsGo dp i fl (kids.drop q) m with | none => 29 | some (fl', m') => V fl' m') := by
  have hdl := hd.1
  have hset : ∀ m v : Int, (dp.set i m).set ((i : Int)).toNat v = dp.set i v := fun m v => by rw [Int.toNat_natCast, List.set_set]
  have hrd : ∀ m : Int, rd (dp.set i m) (i : Int) = m := fun m => by rw [rd_set _ _ _ _ (by omega), if_pos rfl]
  have hw : wrap64 ((i : Int) + 1) = ((i + 1 : Nat) : Int) := wrap_succ i _ hi (by omega)
  intro r
  induction r with
  | zero =>
    intro q fl m hq hfl h0 h1
    rw [List.drop_of_length_le (by omega)]
    show Ev _ (V fl m)
    refine (hV fl m hfl h0 h1).succ fun k => ?_
    simp only [show_Check.l1]
    rw [if_neg (by omega)]
    have hm1 : wrap64 (m + 1) = m + 1 := by unfold wrap64; omega
    by_cases k5 : f0 = 5
    · rw [if_pos k5, if_pos (by omega), if_pos (by rw [List.length_set]; omega), hset, hrd, hm1, hw, if_pos (by omega)]
    · rw [if_neg k5]
      by_cases k6 : f0 = 6
      · rw [if_pos k6, if_pos (by omega), if_pos (by rw [List.length_set]; omega), hset, hrd, hm1, hw, if_pos (by omega)]
      · rw [if_neg k6, hw, if_neg (by omega)]
  | succ r ih =>
    intro q fl m hq hfl h0 h1
    have hql : q < kids.length := by omega
    have c0 : (0 : Int) ≤ (q : Int) := Int.natCast_nonneg _
    have c1 : (q : Int) < (kids.length : Int) := Int.ofNat_lt.2 hql
    have ci0 : (0 : Int) ≤ (i : Int) := Int.natCast_nonneg _
    have cin : (i : Int) < ((dp.set i m).length : Int) := by rw [List.length_set, hdl]; exact Int.ofNat_lt.2 hi
    have hwq := wrap_succ q _ hql hk
    rw [kids_at kids q hql]
    by_cases a1 : rd kids (q : Int) < 0
    · rw [show kidsGo dp i fl (rd kids (q : Int) :: kids.drop (q + 1)) m = none from if_neg (fun e => absurd e.1 (Int.not_le.2 a1))]
      refine Ev.succ (Ev.const 29) fun k => ?_
      simp only [show_Check.l1]
      rw [if_pos c1, if_pos c0, if_pos c1, if_pos a1]
    by_cases a2 : rd kids (q : Int) ≥ (i : Int)
    · rw [show kidsGo dp i fl (rd kids (q : Int) :: kids.drop (q + 1)) m = none from if_neg (fun e => absurd e.2.1 (Int.not_lt.2 a2))]
      refine Ev.succ (Ev.const 29) fun k => ?_
      simp only [show_Check.l1]
      rw [if_pos c1, if_pos c0, if_pos c1, if_neg a1, if_pos a2]
    obtain ⟨kd, hkd⟩ : ∃ kd : Nat, rd kids (q : Int) = kd := ⟨(rd kids (q : Int)).toNat, (Int.toNat_of_nonneg (Int.not_lt.1 a1)).symm⟩
    rw [hkd] at a1 a2 ⊢
    have hki : kd < i := Int.ofNat_lt.1 (Int.not_le.1 a2)
    have ck0 : (0 : Int) ≤ (kd : Int) := Int.natCast_nonneg _
    have hkl : kd < l.length := Nat.lt_trans hki hi
    have ckf : (kd : Int) < (fl.length : Int) := by rw [hfl]; exact Int.ofNat_lt.2 hkl
    have ckd : (kd : Int) < ((dp.set i m).length : Int) := by rw [List.length_set, hdl]; exact Int.ofNat_lt.2 hkl
    by_cases a3 : rdOf false fl (kd : Int) = true
    · rw [show kidsGo dp i fl ((kd : Int) :: kids.drop (q + 1)) m = none from if_neg (fun e => by rw [a3] at e; exact absurd e.2.2 (by decide))]
      refine Ev.succ (Ev.const 29) fun k => ?_
      simp only [show_Check.l1]
      rw [if_pos c1, if_pos c0, if_pos c1, hkd, if_neg a1, if_neg a2, if_pos ck0, if_pos ckf, if_pos a3]
    have hd2 := hd.2 kd hkl
    have hrk : rd (dp.set i m) (kd : Int) = rd dp (kd : Int) := by rw [rd_set _ _ _ _ (by rw [hdl]; exact hi), if_neg (Nat.ne_of_gt hki)]
    rw [show kidsGo dp i fl ((kd : Int) :: kids.drop (q + 1)) m = kidsGo dp i (fl.set (kd : Int).toNat true) (kids.drop (q + 1)) (mx m (rd dp (kd : Int))) from if_pos ⟨ck0, Int.ofNat_lt.2 hki, Bool.eq_false_iff.2 a3⟩]
    have hmle : mx m (rd dp (kd : Int)) ≤ (i : Int) := mx_le h1 (Int.le_trans hd2.2.1 (Int.ofNat_le.2 hki))
    refine Ev.succ (ih (q + 1) (fl.set (kd : Int).toNat true) (mx m (rd dp (kd : Int))) (by rw [← hq]; omega) (by rw [List.length_set]; exact hfl) (mx_ge h0 hd2.1) hmle) fun k => ?_
    simp only [show_Check.l1]
    rw [if_pos c1, if_pos c0, if_pos c1, hkd, if_neg a1, if_neg a2, if_pos ck0, if_pos ckf, if_neg a3, if_pos ci0, if_pos cin, if_pos ckd, hset, hrd, hrk, hwq]
/-- slices.Index, slices.Contains at truths. -/
theorem index_loop (x : List Bool) (a : Bool) (hx : x.length ≤ 140737488355328) : ∀ (d i : Nat), i + d = x.length → ∃ v : Int, Ev (fun k => slices_Index_bool_bool.l0 k x a (x.length : Int) (i : Int)) v ∧ decide (v ≥ 0) = (x.drop i).contains a := by
  intro d
  induction d with
  | zero =>
    intro i hi
    refine ⟨-1, (Ev.const _).succ fun k => ?_, by rw [List.drop_of_length_le (by omega)]; rfl⟩
    simp only [slices_Index_bool_bool.l0]
    rw [if_neg (by omega)]
  | succ d ih =>
    intro i hi
    have hlt : i < x.length := by omega
    have c0 : (0 : Int) ≤ (i : Int) := Int.natCast_nonneg _
    have c1 : (i : Int) < (x.length : Int) := Int.ofNat_lt.2 hlt
    have hrd : rdOf false x (i : Int) = x[i] := by unfold rdOf; simp [List.getD, hlt]
    rw [List.drop_eq_getElem_cons hlt, List.contains_cons]
    by_cases he : (a == x[i]) = true
    · refine ⟨(i : Int), (Ev.const _).succ fun k => ?_, by rw [he, Bool.true_or]; exact decide_eq_true c0⟩
      simp only [slices_Index_bool_bool.l0]
      rw [if_pos c1, if_pos c0, if_pos c1, hrd, if_pos he]
    · obtain ⟨v, hv, hd⟩ := ih (i + 1) (by omega)
      refine ⟨v, hv.succ fun k => ?_, by rw [Bool.eq_false_iff.2 he, Bool.false_or]; exact hd⟩
      simp only [slices_Index_bool_bool.l0]
      rw [if_pos c1, if_pos c0, if_pos c1, hrd, if_neg he, wrap_succ i _ hlt hx]
theorem contains_tells (x : List Bool) (a : Bool) (hx : x.length ≤ 140737488355328) : Ev (fun k => slices_Contains_bool_bool.f k x a) (x.contains a) := by
  obtain ⟨v, hv, hd⟩ := index_loop x a hx x.length 0 (by omega)
  rw [List.drop_zero] at hd
  rw [← hd]
  exact Ev.bind (f := fun k => slices_Index_bool_bool.f k x a) hv (Ev.const _)
theorem set_zero (n i : Nat) (dp : List Int) (h : Dp n i dp) (hi : i < n) : dp.set i 0 = dp := by
  have h0 := (h.2 i hi).2.2 (Nat.le_refl _)
  have hl : i < dp.length := by rw [h.1]; exact hi
  rw [rd_nat dp i hl] at h0
  rw [← h0]
  exact List.set_getElem_self hl
/-- At these sizes. -/
def Sz (l : List S39) : Prop := ∀ a : Int, 0 ≤ a → a < l.length → ((∀ s ∈ (rd_T39 l a).f4, s.size ≤ 140737488351232) ∧ (rd_T39 l a).f3.size ≤ 140737488351232 ∧ (rd_T39 l a).f4.length ≤ 140737488355328) ∧ (rd_T39 l a).f5.length ≤ 140737488355328
theorem plain_f (l : List S39) (hz : Sz l) (a : Int) (h0 : 0 ≤ a) (h1 : a < l.length) : show_plain.f (rd_T39 l a).f0 (rd_T39 l a).f1 (rd_T39 l a).f2 (rd_T39 l a).f3 (rd_T39 l a).f4 (rd_T39 l a).f5 = some (plainOf (rd_T39 l a)) := by
  obtain ⟨⟨h2, h3, h4⟩, _⟩ := hz a h0 h1
  exact if_pos ⟨fun s hs => Nat.le_trans (h2 s hs) (by decide), Nat.le_trans h3 (by decide), h4⟩
/-- The values, as the program goes through them. -/
theorem prog_nodes (hn : l.length ≤ 8192) (hz : Sz l) : ∀ (d i : Nat) (fl : List Bool) (dp : List Int), i + d = l.length → 0 < l.length → fl.length = l.length → Dp l.length i dp →
    Ev (fun k => show_Check.l0 k l fl dp l (l.length : Int) (i : Int)) (endOf l.length (nodesGo l d i fl dp)) := by
  intro d
  induction d with
  | zero =>
    intro i fl dp hi hp hfl hd
    have hw : wrap64 ((l.length : Int) - 1) = (l.length : Int) - 1 := by unfold wrap64; omega
    have e1 : (((l.length : Int) - 1) : Int).toNat = l.length - 1 := by omega
    show Ev _ (if (fl.take (l.length - 1)).contains false = true then 29 else if 16 < rd dp ((l.length : Int) - 1) then 26 else 0)
    have b1 : ¬ (i : Int) < (l.length : Int) := by omega
    have b2 : 0 ≤ (l.length : Int) - 1 := by omega
    have b3 : (l.length : Int) - 1 ≤ (fl.length : Int) := by omega
    have b4 : (l.length : Int) - 1 < (dp.length : Int) := by rw [hd.1]; omega
    have hc := contains_tells (fl.take (l.length - 1)) false (by rw [List.length_take]; omega)
    refine Ev.succ (g := fun k => (slices_Contains_bool_bool.f k (fl.take (l.length - 1)) false).bind fun t126 => (if t126 = true then (some 29) else (if (l.length : Int) - 1 < (dp.length : Int) then (if rd dp ((l.length : Int) - 1) > 16 then (some 26) else (some 0)) else (none)))) (Ev.bind hc ?_) fun k => ?_
    · split
      · exact Ev.const _
      · show Ev (fun _ => if rd dp ((l.length : Int) - 1) > 16 then some (26 : Int) else some 0) _
        by_cases h16 : 16 < rd dp ((l.length : Int) - 1)
        · rw [if_pos h16, if_pos h16]; exact Ev.const _
        · rw [if_neg h16, if_neg h16]; exact Ev.const _
    · simp only [show_Check.l0]
      rw [if_neg b1, hw, if_pos b2, if_pos b3, e1]
  | succ d ih =>
    intro i fl dp hi hp hfl hd
    have hlt : i < l.length := by omega
    have c0 : (0 : Int) ≤ (i : Int) := Int.natCast_nonneg _
    have c1 : (i : Int) < (l.length : Int) := Int.ofNat_lt.2 hlt
    have hpl := plain_f l hz (i : Int) c0 c1
    by_cases hpo : plainOf (rd_T39 l (i : Int)) = true
    · have hk5 := (hz (i : Int) c0 c1).2
      have hkind : 1 ≤ (rd_T39 l (i : Int)).f0 ∧ (rd_T39 l (i : Int)).f0 ≤ 6 := by have := plain_kind hpo; omega
      rw [hpo] at hpl
      have e : endOf l.length (nodesGo l (d + 1) i fl dp) = (match kidsGo dp i fl ((rd_T39 l (i : Int)).f5.drop 0) 0 with | none => 29 | some (fl', m') => endOf l.length (nodesGo l d (i + 1) fl' (dp.set i (if 5 ≤ (rd_T39 l (i : Int)).f0 then m' + 1 else m')))) := by
        rw [nodesGo, if_pos hpo, List.drop_zero]
        cases kidsGo dp i fl (rd_T39 l (i : Int)).f5 0 with
        | none => rfl
        | some p => rfl
      rw [e]
      have hpk := prog_kids l hn i hlt dp hd (rd_T39 l (i : Int)).f5 hk5 (rd_T39 l (i : Int)).f0 (rd_T39 l (i : Int)).f1 (rd_T39 l (i : Int)).f2 (rd_T39 l (i : Int)).f3 (rd_T39 l (i : Int)).f4 (rd_T39 l (i : Int)).f5 hkind
        (fun fl' m' => endOf l.length (nodesGo l d (i + 1) fl' (dp.set i (if 5 ≤ (rd_T39 l (i : Int)).f0 then m' + 1 else m'))))
        (fun fl' m' hfl' h0 h1 => ih (i + 1) fl' _ (by omega) hp hfl' (hd.set hlt (by split <;> omega) (by split <;> omega)))
        (rd_T39 l (i : Int)).f5.length 0 fl 0 (by omega) hfl (Int.le_refl _) c0
      rw [set_zero _ _ _ hd hlt] at hpk
      refine hpk.succ fun k => ?_
      simp only [show_Check.l0]
      rw [if_pos c1, if_pos c0, if_pos c1, hpl]
      simp only [Option.bind_some]
      rw [if_pos trivial]
      rfl
    · have e : endOf l.length (nodesGo l (d + 1) i fl dp) = 29 := by rw [nodesGo, if_neg hpo]; rfl
      rw [e]
      rw [Bool.eq_false_iff.2 hpo] at hpl
      refine (Ev.const _).succ fun k => ?_
      simp only [show_Check.l0]
      rw [if_pos c1, if_pos c0, if_pos c1, hpl]
      simp only [Option.bind_some]
      rw [if_neg (by decide)]
theorem Dp_zero (n : Nat) : Dp n 0 (List.replicate n 0) := by
  refine ⟨List.length_replicate, fun j hj => ?_⟩
  have : rd (List.replicate n 0) (j : Int) = 0 := by rw [rd_nat _ _ (by rw [List.length_replicate]; exact hj)]; simp
  rw [this]
  exact ⟨Int.le_refl _, by omega, fun _ => rfl⟩
/-- The program's Check. -/
theorem check_tells (hz : Sz l) : Ev (fun k => show_Check.f k l) (checkOf l) := by
  unfold checkOf
  by_cases h0 : l.length = 0
  · rw [if_pos h0]
    refine (Ev.const _).of_eq fun k => ?_
    unfold show_Check.f
    rw [if_pos (by omega)]
  rw [if_neg h0]
  by_cases h1 : 8192 < l.length
  · rw [if_pos h1]
    refine (Ev.const _).of_eq fun k => ?_
    unfold show_Check.f
    rw [if_neg (by omega), if_pos (by omega)]
  rw [if_neg h1]
  refine (prog_nodes l (by omega) hz l.length 0 _ _ (by omega) (by omega) List.length_replicate (Dp_zero _)).of_eq fun k => ?_
  unfold show_Check.f
  rw [if_neg (by omega), if_neg (by omega), if_pos (by omega), if_pos (by omega), if_pos (by omega)]
  rfl
end
end Go.Proofs.YtldlkoncndlbhaaDoor.Pure
namespace Go.Proofs.YtldlkoncndlbhaaDoor.Pure
open Go.RowKit Go.Proofs.YtldlkoncndlbhaaDoor.Utf Go.Proofs.YtldlkoncndlbhaaDoor.Mb Go.Proofs.YtldlkoncndlbhaaDoor.Pl Go.Proofs.YtldlkoncndlbhaaDoor.Tx Go.Proofs.YtldlkoncndlbhaaDoor.PSh Go.Proofs.YtldlkoncndlbhaaDoorW.PrintWords Go.Proofs.YtldlkoncndlbhaaDoorW.PrintLast Go.Proofs.YtldlkoncndlbhaaDoorW.PrintMore
set_option linter.unusedSimpArgs false
set_option linter.unusedVariables false
/-- How often each place is a kid, beside which places have a parent. -/
def UsOk (us : List Int) (fl : List Bool) : Prop := us.length = fl.length ∧ ∀ j : Nat, j < fl.length → rd us (j : Int) = if rdOf false fl (j : Int) = true then 1 else 0
def Bd (B : Int) (us : List Int) : Prop := ∀ j : Nat, j < us.length → 0 ≤ rd us (j : Int) ∧ rd us (j : Int) ≤ B
def Bad (us : List Int) : Prop := ∃ j : Nat, j + 1 < us.length ∧ 2 ≤ rd us (j : Int)
theorem mx_if (m v : Int) : (if v > m then v else m) = mx m v := by unfold mx; rfl
theorem Bd.mono {B C : Int} {us : List Int} (h : Bd B us) (hb : B ≤ C) : Bd C us := fun j hj => ⟨(h j hj).1, Int.le_trans (h j hj).2 hb⟩
theorem Bd.set {B v : Int} {us : List Int} (h : Bd B us) (i : Nat) (hi : i < us.length) (h0 : 0 ≤ v) (h1 : v ≤ B) : Bd B (us.set i v) := fun j hj => by
  rw [List.length_set] at hj
  rw [rd_set _ _ _ _ hi]
  split
  · exact ⟨h0, h1⟩
  · exact h j hj
theorem Bad.set {us : List Int} (h : Bad us) (i : Nat) (hi : i < us.length) : Bad (us.set i (rd us (i : Int) + 1)) := by
  obtain ⟨j, hj, h2⟩ := h
  refine ⟨j, by rw [List.length_set]; exact hj, ?_⟩
  rw [rd_set _ _ _ _ hi]
  split
  · subst_vars; omega
  · exact h2
attribute [local irreducible] rd rdOf mx
section
variable (l : List S39)
/-- The last look, where a place is no kid, or twice. -/
theorem end_bad (us dp : List Int) (hn : l.length ≤ 8192) (hu : us.length = l.length) (jb : Nat) (hj : jb + 1 < l.length) (h2 : ¬ rd us (jb : Int) = 1) :
    ∀ (d j : Nat), j + d = jb → Ev (fun k => haulierref03_Check.l2 k l us dp (j : Int)) 29 := by
  have hw : wrap64 ((l.length : Int) - 1) = (l.length : Int) - 1 := by unfold wrap64; omega
  intro d
  induction d with
  | zero =>
    intro j hd
    obtain rfl : j = jb := by omega
    have b1 : (j : Int) < (l.length : Int) - 1 := by omega
    have b2 : (0 : Int) ≤ (j : Int) := Int.natCast_nonneg _
    have b3 : (j : Int) < (us.length : Int) := by omega
    refine (Ev.const _).succ fun k => ?_
    simp only [haulierref03_Check.l2]
    rw [hw, if_pos b1, if_pos b2, if_pos b3, if_neg h2]
  | succ d ih =>
    intro j hd
    have b1 : (j : Int) < (l.length : Int) - 1 := by omega
    have b2 : (0 : Int) ≤ (j : Int) := Int.natCast_nonneg _
    have b3 : (j : Int) < (us.length : Int) := by omega
    have hj1 := wrap_succ j l.length (by omega) (by omega)
    by_cases h1 : rd us (j : Int) = 1
    · refine (ih (j + 1) (by omega)).succ fun k => ?_
      simp only [haulierref03_Check.l2]
      rw [hw, if_pos b1, if_pos b2, if_pos b3, if_pos h1, hj1]
    · refine (Ev.const _).succ fun k => ?_
      simp only [haulierref03_Check.l2]
      rw [hw, if_pos b1, if_pos b2, if_pos b3, if_neg h1]
theorem end_good (us dp : List Int) (hn : l.length ≤ 8192) (hp : 0 < l.length) (hu : us.length = l.length) (hd : dp.length = l.length) (h1 : ∀ j : Nat, j + 1 < l.length → rd us (j : Int) = 1) :
    ∀ (d j : Nat), j + d = l.length - 1 → Ev (fun k => haulierref03_Check.l2 k l us dp (j : Int)) (if 16 < rd dp ((l.length : Int) - 1) then 26 else 0) := by
  have hw : wrap64 ((l.length : Int) - 1) = (l.length : Int) - 1 := by unfold wrap64; omega
  intro d
  induction d with
  | zero =>
    intro j hj
    have b1 : ¬ (j : Int) < (l.length : Int) - 1 := by omega
    have b2 : (0 : Int) ≤ (l.length : Int) - 1 := by omega
    have b3 : (l.length : Int) - 1 < (dp.length : Int) := by omega
    by_cases h16 : 16 < rd dp ((l.length : Int) - 1)
    · rw [if_pos h16]
      refine (Ev.const _).succ fun k => ?_
      simp only [haulierref03_Check.l2]
      rw [hw, if_neg b1, if_pos b2, if_pos b3, if_pos h16]
    · rw [if_neg h16]
      refine (Ev.const _).succ fun k => ?_
      simp only [haulierref03_Check.l2]
      rw [hw, if_neg b1, if_pos b2, if_pos b3, if_neg h16]
  | succ d ih =>
    intro j hj
    have b1 : (j : Int) < (l.length : Int) - 1 := by omega
    have b2 : (0 : Int) ≤ (j : Int) := Int.natCast_nonneg _
    have b3 : (j : Int) < (us.length : Int) := by omega
    have hj1 := wrap_succ j l.length (by omega) (by omega)
    refine (ih (j + 1) (by omega)).succ fun k => ?_
    simp only [haulierref03_Check.l2]
    rw [hw, if_pos b1, if_pos b2, if_pos b3, if_pos (h1 j (by omega)), hj1]
/-- One kid. -/
theorem kid_step (hn : l.length ≤ 8192) (i : Nat) (hi : i < l.length) (dp us : List Int) (hd : dp.length = l.length) (hu : us.length = l.length) (hk : (rd_T39 l (i : Int)).f5.length ≤ 140737488355328) (q : Nat) (hq : q < (rd_T39 l (i : Int)).f5.length) (m : Int)
    (kd : Nat) (hkd : rd (rd_T39 l (i : Int)).f5 (q : Int) = kd) (hki : kd < i) (hb : rd us (kd : Int) + 1 ≤ 4611686018427387904) (h0 : 0 ≤ rd us (kd : Int)) (v : Int)
    (hv : Ev (fun k => haulierref03_Check.l1 k l (us.set kd (rd us (kd : Int) + 1)) dp (i : Int) (mx m (rd dp (kd : Int))) ((q + 1 : Nat) : Int)) v) :
    Ev (fun k => haulierref03_Check.l1 k l us dp (i : Int) m (q : Int)) v := by
  have c0 : (0 : Int) ≤ (i : Int) := Int.natCast_nonneg _
  have c1 : (i : Int) < (l.length : Int) := Int.ofNat_lt.2 hi
  have c2 : (q : Int) < ((rd_T39 l (i : Int)).f5.length : Int) := Int.ofNat_lt.2 hq
  have c3 : (0 : Int) ≤ (q : Int) := Int.natCast_nonneg _
  have c4 : ¬ (kd : Int) < 0 := by omega
  have c5 : decide ((kd : Int) ≥ (i : Int)) = false := by rw [decide_eq_false_iff_not]; omega
  have c6 : (0 : Int) ≤ (kd : Int) := Int.natCast_nonneg _
  have c7 : (kd : Int) < (us.length : Int) := by omega
  have c8 : (kd : Int) < (dp.length : Int) := by omega
  have hw : wrap64 (rd us (kd : Int) + 1) = rd us (kd : Int) + 1 := by
    generalize rd us (kd : Int) = x at *
    unfold wrap64
    omega
  have hwq := wrap_succ q _ hq hk
  have hj2 : Ev (fun k => haulierref03_Check.j2 k l us dp (i : Int) m (q : Int) (kd : Int) false) v := by
    refine hv.succ fun k => ?_
    simp only [haulierref03_Check.j2]
    rw [if_neg (by decide), if_pos c6, if_pos c7, hw, hwq]
    simp only [Option.bind_some, Int.toNat_natCast]
    rw [if_pos c8, ← mx_if]
    split <;> rfl
  refine hj2.succ fun k => ?_
  simp only [haulierref03_Check.l1]
  rw [if_pos c0, if_pos c1, if_pos c2, if_pos c3, hkd, if_neg c4, c5]
/-- A kid that may not be. -/
theorem kid_out (i : Nat) (hi : i < l.length) (dp us : List Int) (q : Nat) (hq : q < (rd_T39 l (i : Int)).f5.length) (m : Int) (h : rd (rd_T39 l (i : Int)).f5 (q : Int) < 0 ∨ (i : Int) ≤ rd (rd_T39 l (i : Int)).f5 (q : Int)) :
    Ev (fun k => haulierref03_Check.l1 k l us dp (i : Int) m (q : Int)) 29 := by
  have c0 : (0 : Int) ≤ (i : Int) := Int.natCast_nonneg _
  have c1 : (i : Int) < (l.length : Int) := Int.ofNat_lt.2 hi
  have c2 : (q : Int) < ((rd_T39 l (i : Int)).f5.length : Int) := Int.ofNat_lt.2 hq
  have c3 : (0 : Int) ≤ (q : Int) := Int.natCast_nonneg _
  have hj2 : Ev (fun k => haulierref03_Check.j2 k l us dp (i : Int) m (q : Int) (rd (rd_T39 l (i : Int)).f5 (q : Int)) true) 29 := by
    refine (Ev.const _).succ fun k => ?_
    simp only [haulierref03_Check.j2]
    rw [if_pos trivial]
  refine hj2.succ fun k => ?_
  simp only [haulierref03_Check.l1]
  by_cases h1 : rd (rd_T39 l (i : Int)).f5 (q : Int) < 0
  · rw [if_pos c0, if_pos c1, if_pos c2, if_pos c3, if_pos h1]
  · have h2 : decide (rd (rd_T39 l (i : Int)).f5 (q : Int) ≥ (i : Int)) = true := decide_eq_true (h.resolve_left h1)
    rw [if_pos c0, if_pos c1, if_pos c2, if_pos c3, if_neg h1, h2]
/-- Behind the last kid. -/
theorem kids_end (hn : l.length ≤ 8192) (i : Nat) (hi : i < l.length) (dp us : List Int) (hd : dp.length = l.length) (m : Int) (hm : 0 ≤ m ∧ m ≤ 8192) (v : Int)
    (hv : Ev (fun k => haulierref03_Check.l0 k l us (dp.set i (if 5 ≤ (rd_T39 l (i : Int)).f0 then m + 1 else m)) ((i + 1 : Nat) : Int)) v) :
    Ev (fun k => haulierref03_Check.l1 k l us dp (i : Int) m ((rd_T39 l (i : Int)).f5.length : Int)) v := by
  have c0 : (0 : Int) ≤ (i : Int) := Int.natCast_nonneg _
  have c1 : (i : Int) < (l.length : Int) := Int.ofNat_lt.2 hi
  have c2 : ¬ ((rd_T39 l (i : Int)).f5.length : Int) < ((rd_T39 l (i : Int)).f5.length : Int) := Int.lt_irrefl _
  have c3 : (i : Int) < (dp.length : Int) := by omega
  have hw : wrap64 (m + 1) = m + 1 := by unfold wrap64; omega
  have hwi := wrap_succ i l.length hi (by omega)
  refine hv.succ fun k => ?_
  simp only [haulierref03_Check.l1]
  by_cases h5 : (rd_T39 l (i : Int)).f0 ≥ 5
  · rw [if_pos c0, if_pos c1, if_neg c2, if_pos h5, if_pos c3, hw, hwi, Int.toNat_natCast, if_pos h5]
  · rw [if_pos c0, if_pos c1, if_neg c2, if_neg h5, if_pos c3, hwi, Int.toNat_natCast, if_neg h5]
theorem bd_set {B : Int} {us : List Int} (h : Bd B us) (i : Nat) (hi : i < us.length) : Bd (B + 1) (us.set i (rd us (i : Int) + 1)) :=
  (h.mono (by omega)).set i hi (by have := (h i hi).1; omega) (by have := (h i hi).2; omega)
/-- Where a place is a kid twice, the answer is told. -/
theorem bad_kids (hn : l.length ≤ 8192) (i : Nat) (hi : i < l.length) (dp : List Int) (hd : Dp l.length i dp) (hk : (rd_T39 l (i : Int)).f5.length ≤ 140737488355328) (B : Int) (hB : B + 140737488355328 ≤ 4611686018427387000)
    (hV : ∀ (us : List Int) (m : Int), us.length = l.length → 0 ≤ m → m ≤ i → Bd (B + 140737488355328) us → Bad us → Ev (fun k => haulierref03_Check.l0 k l us (dp.set i (if 5 ≤ (rd_T39 l (i : Int)).f0 then m + 1 else m)) ((i + 1 : Nat) : Int)) 29) :
    ∀ (r q : Nat) (us : List Int) (m : Int), q + r = (rd_T39 l (i : Int)).f5.length → us.length = l.length → 0 ≤ m → m ≤ i → Bd (B + q) us → Bad us → Ev (fun k => haulierref03_Check.l1 k l us dp (i : Int) m (q : Int)) 29 := by
  intro r
  induction r with
  | zero =>
    intro q us m hq hu h0 h1 hb hbad
    obtain rfl : q = (rd_T39 l (i : Int)).f5.length := by omega
    exact kids_end l hn i hi dp us hd.1 m ⟨h0, by omega⟩ 29 (hV us m hu h0 h1 (hb.mono (by omega)) hbad)
  | succ r ih =>
    intro q us m hq hu h0 h1 hb hbad
    have hql : q < (rd_T39 l (i : Int)).f5.length := by omega
    by_cases ho : rd (rd_T39 l (i : Int)).f5 (q : Int) < 0 ∨ (i : Int) ≤ rd (rd_T39 l (i : Int)).f5 (q : Int)
    · exact kid_out l i hi dp us q hql m ho
    · have hkn : 0 ≤ rd (rd_T39 l (i : Int)).f5 (q : Int) := Int.not_lt.1 fun e => ho (.inl e)
      have hki : rd (rd_T39 l (i : Int)).f5 (q : Int) < (i : Int) := Int.not_le.1 fun e => ho (.inr e)
      obtain ⟨kd, hkd⟩ : ∃ kd : Nat, rd (rd_T39 l (i : Int)).f5 (q : Int) = kd := ⟨(rd (rd_T39 l (i : Int)).f5 (q : Int)).toNat, (Int.toNat_of_nonneg hkn).symm⟩
      rw [hkd] at hki
      have hki := Int.ofNat_lt.1 hki
      have hku : kd < us.length := by rw [hu]; omega
      obtain ⟨b0, b1⟩ := hb kd hku
      have hd2 := hd.2 kd (by omega)
      exact kid_step l hn i hi dp us hd.1 hu hk q hql m kd hkd hki (by omega) b0 29
        (ih (q + 1) _ _ (by omega) (by rw [List.length_set]; exact hu) (mx_ge h0 hd2.1) (mx_le h1 (by omega)) ((bd_set hb kd hku).mono (by omega)) (hbad.set kd hku))
theorem bad_nodes (hn : l.length ≤ 8192) (hz : Sz l) : ∀ (d i : Nat) (us dp : List Int), i + d = l.length → 0 < l.length → us.length = l.length → Dp l.length i dp → Bd ((i : Int) * 140737488355328 + 2) us → Bad us →
    Ev (fun k => haulierref03_Check.l0 k l us dp (i : Int)) 29 := by
  intro d
  induction d with
  | zero =>
    intro i us dp hi hp hu hd hb hbad
    obtain ⟨jb, hj, h2⟩ := hbad
    have b1 : ¬ (i : Int) < (l.length : Int) := by omega
    refine (end_bad l us dp hn hu jb (by omega) (by omega) jb 0 (by omega)).succ fun k => ?_
    simp only [haulierref03_Check.l0]
    rw [if_neg b1]
    rfl
  | succ d ih =>
    intro i us dp hi hp hu hd hb hbad
    have hlt : i < l.length := by omega
    have c0 : (0 : Int) ≤ (i : Int) := Int.natCast_nonneg _
    have c1 : (i : Int) < (l.length : Int) := Int.ofNat_lt.2 hlt
    obtain ⟨⟨z1, z2, z3⟩, z4⟩ := hz (i : Int) c0 c1
    have hpl := plain_tells (rd_T39 l (i : Int)).f0 (rd_T39 l (i : Int)).f1 (rd_T39 l (i : Int)).f2 (rd_T39 l (i : Int)).f3 (rd_T39 l (i : Int)).f4 (rd_T39 l (i : Int)).f5 z3 z1 z2
    have hl0 : ∀ (b : Bool), plainOf (rd_T39 l (i : Int)) = b → Ev (fun k => if b = true then haulierref03_Check.l1 k l us dp (i : Int) 0 0 else some 29) 29 → Ev (fun k => haulierref03_Check.l0 k l us dp (i : Int)) 29 := by
      intro b hb2 hv
      have hpb : Ev (fun k => haulierref03_plain.f k (rd_T39 l (i : Int)).f0 (rd_T39 l (i : Int)).f1 (rd_T39 l (i : Int)).f2 (rd_T39 l (i : Int)).f3 (rd_T39 l (i : Int)).f4 (rd_T39 l (i : Int)).f5) b := by rw [← hb2]; exact hpl
      refine (Ev.bind (g := fun k (t153 : Bool) => if t153 = true then haulierref03_Check.l1 k l us dp (i : Int) 0 0 else some 29) hpb hv).succ fun k => ?_
      simp only [haulierref03_Check.l0]
      rw [if_pos c1, if_pos c0]
    cases hb2 : plainOf (rd_T39 l (i : Int))
    · exact hl0 false hb2 ((Ev.const _).of_eq fun k => if_neg (by decide))
    · refine hl0 true hb2 (Ev.of_eq ?_ fun k => if_pos rfl)
      have hbk : Bd ((i : Int) * 140737488355328 + 2 + ((0 : Nat) : Int)) us := hb.mono (by omega)
      exact bad_kids l hn i hlt dp hd z4 ((i : Int) * 140737488355328 + 2) (by omega)
        (fun us' m hu' h0 h1 hb' hbad' => ih (i + 1) us' _ (by omega) hp hu' (hd.set hlt (by split <;> omega) (by split <;> omega)) (hb'.mono (by omega)) hbad')
        (rd_T39 l (i : Int)).f5.length 0 us 0 (by omega) hu (Int.le_refl _) c0 hbk hbad
theorem UsOk.bd {us : List Int} {fl : List Bool} (h : UsOk us fl) : Bd 1 us := fun j hj => by
  rw [h.2 j (by rw [← h.1]; exact hj)]
  split <;> decide
/-- The kids, where none is there twice yet. -/
theorem good_kids (hn : l.length ≤ 8192) (hz : Sz l) (i : Nat) (hi : i < l.length) (dp : List Int) (hd : Dp l.length i dp) (V : List Bool → Int → Int)
    (hV : ∀ (us : List Int) (fl : List Bool) (m : Int), UsOk us fl → fl.length = l.length → 0 ≤ m → m ≤ i → Ev (fun k => haulierref03_Check.l0 k l us (dp.set i (if 5 ≤ (rd_T39 l (i : Int)).f0 then m + 1 else m)) ((i + 1 : Nat) : Int)) (V fl m)) :
    ∀ (r q : Nat) (us : List Int) (fl : List Bool) (m : Int), q + r = (rd_T39 l (i : Int)).f5.length → UsOk us fl → fl.length = l.length → 0 ≤ m → m ≤ i →
      Ev (fun k => haulierref03_Check.l1 k l us dp (i : Int) m (q : Int)) (match kidsGo dp i fl ((rd_T39 l (i : Int)).f5.drop q) m with | none => 29 | some (fl', m') => V fl' m') := by
  have c0 : (0 : Int) ≤ (i : Int) := Int.natCast_nonneg _
  have c1 : (i : Int) < (l.length : Int) := Int.ofNat_lt.2 hi
  have hk := (hz (i : Int) c0 c1).2
  intro r
  induction r with
  | zero =>
    intro q us fl m hq hu hfl h0 h1
    obtain rfl : q = (rd_T39 l (i : Int)).f5.length := by omega
    rw [List.drop_of_length_le (Nat.le_refl _)]
    exact kids_end l hn i hi dp us hd.1 m ⟨h0, by omega⟩ _ (hV us fl m hu hfl h0 h1)
  | succ r ih =>
    intro q us fl m hq hu hfl h0 h1
    have hql : q < (rd_T39 l (i : Int)).f5.length := by omega
    rw [kids_at (rd_T39 l (i : Int)).f5 q hql]
    by_cases ho : rd (rd_T39 l (i : Int)).f5 (q : Int) < 0 ∨ (i : Int) ≤ rd (rd_T39 l (i : Int)).f5 (q : Int)
    · rw [show kidsGo dp i fl (rd (rd_T39 l (i : Int)).f5 (q : Int) :: (rd_T39 l (i : Int)).f5.drop (q + 1)) m = none from if_neg (fun e => ho.elim (fun x => absurd e.1 (Int.not_le.2 x)) (fun x => absurd e.2.1 (Int.not_lt.2 x)))]
      exact kid_out l i hi dp us q hql m ho
    have hkn : 0 ≤ rd (rd_T39 l (i : Int)).f5 (q : Int) := Int.not_lt.1 fun e => ho (.inl e)
    have hki : rd (rd_T39 l (i : Int)).f5 (q : Int) < (i : Int) := Int.not_le.1 fun e => ho (.inr e)
    obtain ⟨kd, hkd⟩ : ∃ kd : Nat, rd (rd_T39 l (i : Int)).f5 (q : Int) = kd := ⟨(rd (rd_T39 l (i : Int)).f5 (q : Int)).toNat, (Int.toNat_of_nonneg hkn).symm⟩
    rw [hkd] at hki
    have hki := Int.ofNat_lt.1 hki
    have hlu : us.length = l.length := hu.1.trans hfl
    have hkf : kd < fl.length := by rw [hfl]; omega
    have hku : kd < us.length := by rw [hlu]; omega
    have hd2 := hd.2 kd (by omega)
    have hbd := hu.bd
    obtain ⟨b0, b1⟩ := hbd kd hku
    have huk := hu.2 kd hkf
    have hmx0 := mx_ge h0 hd2.1
    have hmx1 : mx m (rd dp (kd : Int)) ≤ (i : Int) := mx_le h1 (Int.le_trans hd2.2.1 (Int.ofNat_le.2 hki))
    rw [hkd]
    by_cases a3 : rdOf false fl (kd : Int) = true
    · rw [show kidsGo dp i fl ((kd : Int) :: (rd_T39 l (i : Int)).f5.drop (q + 1)) m = none from if_neg (fun e => by rw [a3] at e; exact absurd e.2.2 (by decide))]
      rw [if_pos a3] at huk
      refine kid_step l hn i hi dp us hd.1 hlu hk q hql m kd hkd hki (by omega) b0 29 ?_
      have hbad : Bad (us.set kd (rd us (kd : Int) + 1)) := ⟨kd, by rw [List.length_set, hlu]; omega, by rw [rd_set _ _ _ _ hku, if_pos rfl]; omega⟩
      exact bad_kids l hn i hi dp hd hk ((i : Int) * 140737488355328 + 2) (by omega)
        (fun us' m' hu' h0' h1' hb' hbad' => bad_nodes l hn hz (l.length - (i + 1)) (i + 1) us' _ (by omega) (by omega) hu' (hd.set hi (by split <;> omega) (by split <;> omega)) (hb'.mono (by omega)) hbad')
        r (q + 1) _ _ (by omega) (by rw [List.length_set]; exact hlu) hmx0 hmx1 ((bd_set hbd kd hku).mono (by omega)) hbad
    · rw [show kidsGo dp i fl ((kd : Int) :: (rd_T39 l (i : Int)).f5.drop (q + 1)) m = kidsGo dp i (fl.set (kd : Int).toNat true) ((rd_T39 l (i : Int)).f5.drop (q + 1)) (mx m (rd dp (kd : Int))) from if_pos ⟨Int.natCast_nonneg _, Int.ofNat_lt.2 hki, Bool.eq_false_iff.2 a3⟩]
      rw [if_neg a3] at huk
      refine kid_step l hn i hi dp us hd.1 hlu hk q hql m kd hkd hki (by omega) b0 _ ?_
      refine ih (q + 1) _ (fl.set (kd : Int).toNat true) _ (by omega) ?_ (by rw [List.length_set]; exact hfl) hmx0 hmx1
      refine ⟨by rw [List.length_set, List.length_set]; exact hu.1, fun j hj => ?_⟩
      rw [List.length_set] at hj
      rw [Int.toNat_natCast, rd_set _ _ _ _ hku, rdF_set _ _ _ _ hkf, huk]
      by_cases e : kd = j
      · rw [if_pos e, if_pos e]; rfl
      · rw [if_neg e, if_neg e]; exact hu.2 j hj
theorem good_nodes (hn : l.length ≤ 8192) (hz : Sz l) : ∀ (d i : Nat) (us : List Int) (fl : List Bool) (dp : List Int), i + d = l.length → 0 < l.length → UsOk us fl → fl.length = l.length → Dp l.length i dp →
    Ev (fun k => haulierref03_Check.l0 k l us dp (i : Int)) (endOf l.length (nodesGo l d i fl dp)) := by
  intro d
  induction d with
  | zero =>
    intro i us fl dp hi hp hu hfl hd
    have b1 : ¬ (i : Int) < (l.length : Int) := by omega
    have hlu : us.length = l.length := hu.1.trans hfl
    show Ev _ (if (fl.take (l.length - 1)).contains false = true then 29 else if 16 < rd dp ((l.length : Int) - 1) then 26 else 0)
    have hgo : ∀ v : Int, Ev (fun k => haulierref03_Check.l2 k l us dp ((0 : Nat) : Int)) v → Ev (fun k => haulierref03_Check.l0 k l us dp (i : Int)) v := fun v hv => by
      refine hv.succ fun k => ?_
      simp only [haulierref03_Check.l0]
      rw [if_neg b1]
      rfl
    have hrdf : ∀ j : Nat, j < fl.length → rdOf false fl (j : Int) = fl.getD j false := fun j hj => by
      unfold rdOf
      rw [Int.toNat_natCast]
    by_cases hc : (fl.take (l.length - 1)).contains false = true
    · rw [if_pos hc]
      rw [List.contains_iff_mem, List.mem_take_iff_getElem] at hc
      obtain ⟨j, hj, e⟩ := hc
      have hjf : j < fl.length := by omega
      have hju := hu.2 j hjf
      rw [hrdf j hjf, List.getD_eq_getElem?_getD, List.getElem?_eq_getElem hjf, Option.getD_some, e, if_neg (by decide)] at hju
      exact hgo _ (end_bad l us dp hn hlu j (by omega) (by omega) j 0 (by omega))
    · rw [if_neg hc]
      refine hgo _ (end_good l us dp hn hp hlu hd.1 (fun j hj => ?_) (l.length - 1) 0 (by omega))
      have hjf : j < fl.length := by omega
      rw [hu.2 j hjf, if_pos]
      rw [hrdf j hjf, List.getD_eq_getElem?_getD, List.getElem?_eq_getElem hjf, Option.getD_some]
      cases e : fl[j]
      · exact absurd (by rw [List.contains_iff_mem, List.mem_take_iff_getElem]; exact ⟨j, by omega, e⟩) hc
      · rfl
  | succ d ih =>
    intro i us fl dp hi hp hu hfl hd
    have hlt : i < l.length := by omega
    have c0 : (0 : Int) ≤ (i : Int) := Int.natCast_nonneg _
    have c1 : (i : Int) < (l.length : Int) := Int.ofNat_lt.2 hlt
    obtain ⟨⟨z1, z2, z3⟩, z4⟩ := hz (i : Int) c0 c1
    have hpl := plain_tells (rd_T39 l (i : Int)).f0 (rd_T39 l (i : Int)).f1 (rd_T39 l (i : Int)).f2 (rd_T39 l (i : Int)).f3 (rd_T39 l (i : Int)).f4 (rd_T39 l (i : Int)).f5 z3 z1 z2
    have hl0 : ∀ (b : Bool) (v : Int), plainOf (rd_T39 l (i : Int)) = b → Ev (fun k => if b = true then haulierref03_Check.l1 k l us dp (i : Int) 0 0 else some 29) v → Ev (fun k => haulierref03_Check.l0 k l us dp (i : Int)) v := by
      intro b v hb2 hv
      have hpb : Ev (fun k => haulierref03_plain.f k (rd_T39 l (i : Int)).f0 (rd_T39 l (i : Int)).f1 (rd_T39 l (i : Int)).f2 (rd_T39 l (i : Int)).f3 (rd_T39 l (i : Int)).f4 (rd_T39 l (i : Int)).f5) b := by rw [← hb2]; exact hpl
      refine (Ev.bind (g := fun k (t153 : Bool) => if t153 = true then haulierref03_Check.l1 k l us dp (i : Int) 0 0 else some 29) hpb hv).succ fun k => ?_
      simp only [haulierref03_Check.l0]
      rw [if_pos c1, if_pos c0]
    cases hb2 : plainOf (rd_T39 l (i : Int))
    · have e : endOf l.length (nodesGo l (d + 1) i fl dp) = 29 := by rw [nodesGo, if_neg (by rw [hb2]; decide)]; rfl
      rw [e]
      exact hl0 false 29 hb2 ((Ev.const _).of_eq fun k => if_neg (by decide))
    · have e : endOf l.length (nodesGo l (d + 1) i fl dp) = (match kidsGo dp i fl ((rd_T39 l (i : Int)).f5.drop 0) 0 with | none => 29 | some (fl', m') => endOf l.length (nodesGo l d (i + 1) fl' (dp.set i (if 5 ≤ (rd_T39 l (i : Int)).f0 then m' + 1 else m')))) := by
        rw [nodesGo, if_pos hb2, List.drop_zero]
        cases kidsGo dp i fl (rd_T39 l (i : Int)).f5 0 with
        | none => rfl
        | some p => rfl
      rw [e]
      refine hl0 true _ hb2 (Ev.of_eq ?_ fun k => if_pos rfl)
      exact good_kids l hn hz i hlt dp hd (fun fl' m' => endOf l.length (nodesGo l d (i + 1) fl' (dp.set i (if 5 ≤ (rd_T39 l (i : Int)).f0 then m' + 1 else m'))))
        (fun us' fl' m' hu' hfl' h0 h1 => ih (i + 1) us' fl' _ (by omega) hp hu' hfl' (hd.set hlt (by split <;> omega) (by split <;> omega)))
        (rd_T39 l (i : Int)).f5.length 0 us fl 0 (by omega) hu hfl (Int.le_refl _) c0
/-- The document's Check. -/
theorem refcheck_tells (hz : Sz l) : Ev (fun k => haulierref03_Check.f k l) (checkOf l) := by
  unfold checkOf
  by_cases h0 : l.length = 0
  · rw [if_pos h0]
    refine (Ev.const _).of_eq fun k => ?_
    unfold haulierref03_Check.f
    rw [if_pos (by omega)]
  rw [if_neg h0]
  by_cases h1 : 8192 < l.length
  · rw [if_pos h1]
    refine (Ev.const _).of_eq fun k => ?_
    unfold haulierref03_Check.f
    rw [if_neg (by omega), if_pos (by omega)]
  rw [if_neg h1]
  have hu : UsOk (List.replicate l.length 0) (List.replicate l.length false) := by
    refine ⟨by rw [List.length_replicate, List.length_replicate], fun j hj => ?_⟩
    rw [List.length_replicate] at hj
    rw [rd_nat _ _ (by rw [List.length_replicate]; exact hj)]
    have : rdOf false (List.replicate l.length false) (j : Int) = false := by unfold rdOf; rw [Int.toNat_natCast, List.getD_eq_getElem?_getD, List.getElem?_replicate, if_pos hj]; rfl
    rw [this]
    simp
  refine (good_nodes l (by omega) hz l.length 0 _ _ _ (by omega) (by omega) hu List.length_replicate (Dp_zero _)).of_eq fun k => ?_
  unfold haulierref03_Check.f
  rw [if_neg (by omega), if_neg (by omega), if_pos (by omega), if_pos (by omega)]
  rfl
end
end Go.Proofs.YtldlkoncndlbhaaDoor.Pure
namespace Go.Proofs.YtldlkoncndlbhaaDoor.Aw
open Go.RowKit Go.Proofs.YtldlkoncndlbhaaDoor.Utf Go.Proofs.YtldlkoncndlbhaaDoor.Pl Go.Proofs.YtldlkoncndlbhaaDoor.Tx Go.Proofs.YtldlkoncndlbhaaDoor.Wr Go.Proofs.YtldlkoncndlbhaaDoor.Pure Go.Proofs.YtldlkoncndlbhaaDoor.PSh Go.Proofs.YtldlkoncndlbhaaDoorW.PrintWords Go.Proofs.YtldlkoncndlbhaaDoorW.PrintLast Go.Proofs.YtldlkoncndlbhaaDoorW.PrintMore
set_option linter.unusedSimpArgs false
set_option linter.unusedVariables false
def t0 : S39 := ⟨3, false, 1, ⟨#[]⟩, [], []⟩
def t1 : S39 := ⟨4, false, 0, ⟨#[97, 10]⟩, [], []⟩
def t2 : S39 := ⟨5, false, 0, ⟨#[]⟩, [], [0, 1]⟩
def tr : List S39 := [t0, t1, t2]
theorem wid_low (a : UInt8) (r : List UInt8) (h : a.toNat < 128) : wid (a :: r) = 1 := (dec_head a r h).2
theorem utf_a : utf [97, 10] = true := by
  unfold utf
  rw [dif_neg (by simp), dif_neg (by rw [wid_low _ _ (by decide)]; decide), wid_low _ _ (by decide)]
  show utf [10] = true
  unfold utf
  rw [dif_neg (by simp), dif_neg (by rw [wid_low _ _ (by decide)]; decide), wid_low _ _ (by decide)]
  exact utf_nil
theorem toList_nil : (⟨#[]⟩ : ByteArray).toList = [] := by rw [Pure.toList_data]
theorem p0 : plainOf t0 = true := by unfold plainOf plainB t0; simp [namesGo, toList_nil]
theorem p1 : plainOf t1 = true := by unfold plainOf plainB t1; simp [namesGo, utf_a]
theorem p2 : plainOf t2 = true := by unfold plainOf plainB t2; simp [namesGo, toList_nil]
theorem at0 : rd_T39 tr 0 = t0 := rfl
theorem at1 : rd_T39 tr 1 = t1 := rfl
theorem at2 : rd_T39 tr 2 = t2 := rfl
theorem cases3 {a : Int} (h0 : 0 ≤ a) (h1 : a < tr.length) : a = 0 ∨ a = 1 ∨ a = 2 := by
  have : (tr.length : Int) = 3 := rfl
  omega
theorem check_tr : checkOf tr = 0 := by
  have e : nodesGo tr 3 0 [false, false, false] [0, 0, 0] = some ([true, true, false], [0, 0, 1]) := by
    have k0 : t0.f5 = [] := rfl
    have k1 : t1.f5 = [] := rfl
    have k2 : t2.f5 = [0, 1] := rfl
    have z0 : t0.f0 = 3 := rfl
    have z1 : t1.f0 = 4 := rfl
    have z2 : t2.f0 = 5 := rfl
    rw [nodesGo, show rd_T39 tr ((0 : Nat) : Int) = t0 from rfl, if_pos p0, k0, kidsGo, z0]
    show nodesGo tr 2 1 [false, false, false] [0, 0, 0] = _
    rw [nodesGo, show rd_T39 tr ((1 : Nat) : Int) = t1 from rfl, if_pos p1, k1, kidsGo, z1]
    show nodesGo tr 1 2 [false, false, false] [0, 0, 0] = _
    rw [nodesGo, show rd_T39 tr ((2 : Nat) : Int) = t2 from rfl, if_pos p2, k2, z2]
    decide
  unfold checkOf
  rw [if_neg (by decide), if_neg (by decide)]
  show endOf 3 (nodesGo tr 3 0 [false, false, false] [0, 0, 0]) = 0
  rw [e]
  decide
theorem sz_tr : Sz tr := by
  intro a h0 h1
  rcases cases3 h0 h1 with rfl | rfl | rfl
  · rw [at0]; exact ⟨⟨fun s h => (by cases h), by decide, by decide⟩, by decide⟩
  · rw [at1]; exact ⟨⟨fun s h => (by cases h), by decide, by decide⟩, by decide⟩
  · rw [at2]; exact ⟨⟨fun s h => (by cases h), by decide, by decide⟩, by decide⟩
theorem tree_tr : Tree tr := by
  intro a h0 h1
  rcases cases3 h0 h1 with rfl | rfl | rfl
  · rw [at0]; exact ⟨p0, fun i hi => absurd hi (by decide +revert)⟩
  · rw [at1]; exact ⟨p1, fun i hi => absurd hi (by decide +revert)⟩
  · rw [at2]
    refine ⟨p2, fun i hi => ?_⟩
    have : i < 2 := hi
    match i, this with
    | 0, _ => decide
    | 1, _ => decide
theorem sized_tr : Sized tr := by
  intro a h0 h1
  rcases cases3 h0 h1 with rfl | rfl | rfl
  · rw [at0]; exact ⟨by decide, by decide, fun i hi => absurd hi (by decide +revert)⟩
  · rw [at1]; exact ⟨by decide, by decide, fun i hi => absurd hi (by decide +revert)⟩
  · rw [at2]; exact ⟨by decide, by decide, fun i hi => absurd hi (by decide +revert)⟩
theorem inner_a : inner [97, 10] = [97, 92, 117, 48, 48, 48, 97] := by
  rw [Qu.inner_step _ (by simp), show piece [97, 10] = [97] by (unfold piece; rw [if_neg (by rw [wid_low _ _ (by decide)]; decide), if_neg (by decide), if_neg (by decide), wid_low _ _ (by decide)]; rfl), show adv [97, 10] = 1 by (unfold adv; rw [if_neg (by rw [wid_low _ _ (by decide)]; decide), wid_low _ _ (by decide)])]
  show [97] ++ inner [10] = _
  rw [Qu.inner_step _ (by simp), show piece [10] = [92, 117, 48, 48, 48, 97] by (unfold piece; rw [if_neg (by rw [wid_low _ _ (by decide)]; decide), if_neg (by decide), if_pos (by decide)]; decide), show adv [10] = 1 by (unfold adv; rw [if_neg (by rw [wid_low _ _ (by decide)]; decide), wid_low _ _ (by decide)])]
  show [97] ++ ([92, 117, 48, 48, 48, 97] ++ inner []) = _
  rw [Qu.inner_nil]
  rfl
theorem itoa_one : Lib.itoa 1 = [49] := by
  unfold Lib.itoa
  rw [if_neg (by decide)]
  show Lib.decDigits 1 = [49]
  unfold Lib.decDigits
  rfl
theorem text_tr : textOf tr = [91, 49, 44, 34, 97, 92, 117, 48, 48, 48, 97, 34, 93] := by
  unfold textOf
  show txt tr 3 2 = _
  rw [txt_succ, at2, txtOf_5 _ _ rfl]
  show [91] ++ joined (fun i : Nat => txt tr 2 (rd [0, 1] (i : Int))) 2 ++ [93] = _
  simp only [joined]
  rw [show rd [0, 1] ((0 : Nat) : Int) = 0 from rfl, show rd [0, 1] ((1 : Nat) : Int) = 1 from rfl, txt_succ, txt_succ, at0, at1, txtOf_3 _ _ rfl, txtOf_4 _ _ rfl]
  show [91] ++ ([] ++ (([]) ++ Lib.itoa 1) ++ ([44] ++ inQuotes [97, 10])) ++ [93] = _
  rw [itoa_one, inQuotes, inner_a]
  rfl
theorem str_nums (t : List UInt8) : strOfNums (numsOf t) = ⟨t.toArray⟩ := by
  unfold strOfNums numsOf
  rw [List.map_map]
  have : (fun n : Int => UInt8.ofNat n.toNat) ∘ (fun b : UInt8 => (b.toNat : Int)) = id := by
    funext b
    simp
  rw [this, List.map_id]
/-- The fixed tree, as it is laid. -/
theorem lies_tr (w : World) : Kd.C k39 ((w.alloc (.cells #[.int .i64 0, .int .i64 1] 3)).alloc (.cells #[.int .i64 3, .bool false, .int .i64 1, .string ⟨#[]⟩, .slice none 0 0, .slice none 0 0, .int .i64 4, .bool false, .int .i64 0, .string ⟨#[97, 10]⟩, .slice none 0 0, .slice none 0 0, .int .i64 5, .bool false, .int .i64 0, .string ⟨#[]⟩, .slice none 0 0, .slice (some ⟨w.heap.size, 0, none⟩) 2 2] 39)) (some ⟨w.heap.size + 1, 0, none⟩) tr.length tr := by
  have hz : (w.alloc (.cells #[.int .i64 0, .int .i64 1] 3)).heap.size = w.heap.size + 1 := Array.size_push _
  have h1 : ((w.alloc (.cells #[.int .i64 0, .int .i64 1] 3)).alloc (.cells #[.int .i64 3, .bool false, .int .i64 1, .string ⟨#[]⟩, .slice none 0 0, .slice none 0 0, .int .i64 4, .bool false, .int .i64 0, .string ⟨#[97, 10]⟩, .slice none 0 0, .slice none 0 0, .int .i64 5, .bool false, .int .i64 0, .string ⟨#[]⟩, .slice none 0 0, .slice (some ⟨w.heap.size, 0, none⟩) 2 2] 39)).heap[w.heap.size + 1]? = some (.cells #[.int .i64 3, .bool false, .int .i64 1, .string ⟨#[]⟩, .slice none 0 0, .slice none 0 0, .int .i64 4, .bool false, .int .i64 0, .string ⟨#[97, 10]⟩, .slice none 0 0, .slice none 0 0, .int .i64 5, .bool false, .int .i64 0, .string ⟨#[]⟩, .slice none 0 0, .slice (some ⟨w.heap.size, 0, none⟩) 2 2] 39) := by
    rw [← hz]
    exact Array.getElem?_push_size
  have h0 : ((w.alloc (.cells #[.int .i64 0, .int .i64 1] 3)).alloc (.cells #[.int .i64 3, .bool false, .int .i64 1, .string ⟨#[]⟩, .slice none 0 0, .slice none 0 0, .int .i64 4, .bool false, .int .i64 0, .string ⟨#[97, 10]⟩, .slice none 0 0, .slice none 0 0, .int .i64 5, .bool false, .int .i64 0, .string ⟨#[]⟩, .slice none 0 0, .slice (some ⟨w.heap.size, 0, none⟩) 2 2] 39)).heap[w.heap.size]? = some (.cells #[.int .i64 0, .int .i64 1] 3) := by
    rw [Lib.alloc_old _ _ _ (by rw [hz]; omega)]
    exact Array.getElem?_push_size
  generalize (w.alloc (.cells #[.int .i64 0, .int .i64 1] 3)).alloc (.cells #[.int .i64 3, .bool false, .int .i64 1, .string ⟨#[]⟩, .slice none 0 0, .slice none 0 0, .int .i64 4, .bool false, .int .i64 0, .string ⟨#[97, 10]⟩, .slice none 0 0, .slice none 0 0, .int .i64 5, .bool false, .int .i64 0, .string ⟨#[]⟩, .slice none 0 0, .slice (some ⟨w.heap.size, 0, none⟩) 2 2] 39) = W at *
  have hk : (Kd.int .i64).C W (some ⟨w.heap.size, 0, none⟩) 2 [0, 1] := by
    refine ⟨rfl, by decide, fun _ => ⟨⟨w.heap.size, 0, none⟩, rfl, fun j p hj => ⟨[.int .i64 p], rfl, rfl, fun i u hu => ?_⟩⟩⟩
    rw [add_plain, World.cell?, h0]
    match j, i, hj, hu with
    | 0, 0, hj, hu => cases hj; cases hu; rfl
    | 1, 0, hj, hu => cases hj; cases hu; rfl
    | 0, i + 1, hj, hu => cases hu
    | 1, i + 1, hj, hu => cases hu
    | j + 2, _, hj, hu => cases hj
  have hn9 : Kd.string.C W none 0 [] := Kd.C_nil _ _
  have hn3 : (Kd.int .i64).C W none 0 [] := Kd.C_nil _ _
  refine ⟨rfl, by decide, fun _ => ⟨⟨w.heap.size + 1, 0, none⟩, rfl, fun j p hj => ?_⟩⟩
  match j, hj with
  | 0, hj =>
    cases hj
    refine ⟨_, rfl, k39_mk W t0 (A4 := none) (c4 := 0) (Nat.le_refl _) hn9 (A5 := none) (c5 := 0) (Nat.le_refl _) hn3, fun i u hu => ?_⟩
    rw [add_plain, World.cell?, h1]
    match i, hu with
    | 0, hu => cases hu; rfl
    | 1, hu => cases hu; rfl
    | 2, hu => cases hu; rfl
    | 3, hu => cases hu; rfl
    | 4, hu => cases hu; rfl
    | 5, hu => cases hu; rfl
    | i + 6, hu => cases hu
  | 1, hj =>
    cases hj
    refine ⟨_, rfl, k39_mk W t1 (A4 := none) (c4 := 0) (Nat.le_refl _) hn9 (A5 := none) (c5 := 0) (Nat.le_refl _) hn3, fun i u hu => ?_⟩
    rw [add_plain, World.cell?, h1]
    match i, hu with
    | 0, hu => cases hu; rfl
    | 1, hu => cases hu; rfl
    | 2, hu => cases hu; rfl
    | 3, hu => cases hu; rfl
    | 4, hu => cases hu; rfl
    | 5, hu => cases hu; rfl
    | i + 6, hu => cases hu
  | 2, hj =>
    cases hj
    refine ⟨_, rfl, k39_mk W t2 (A4 := none) (c4 := 0) (Nat.le_refl _) hn9 (A5 := some ⟨w.heap.size, 0, none⟩) (c5 := 2) (Nat.le_refl _) hk, fun i u hu => ?_⟩
    rw [add_plain, World.cell?, h1]
    match i, hu with
    | 0, hu => cases hu; rfl
    | 1, hu => cases hu; rfl
    | 2, hu => cases hu; rfl
    | 3, hu => cases hu; rfl
    | 4, hu => cases hu; rfl
    | 5, hu => cases hu; rfl
    | i + 6, hu => cases hu
  | j + 3, hj => cases hj
set_option maxHeartbeats 4000000 in
set_option maxRecDepth 100000 in
theorem awake_walk (w : World) (hG : Aside0 (Glob w)) : Calls Tryd.prog 10 #[] w fun e w' => e = .returned (.bool true) ∧ Below w.heap.size w w' := by
  obtain ⟨K, hK⟩ := check_tells tr sz_tr
  have hck := hK K (Nat.le_refl _)
  rw [check_tr] at hck
  obtain ⟨K2, hK2⟩ := check_tells [] (fun a h0 h1 => by simp at h1; omega)
  have hck2 : show_Check.f K2 [] = some 29 := hK2 K2 (Nat.le_refl _)
  have hl := lies_tr w
  have hB1 := below_alloc (below_alloc (Below.refl w.heap.size w) (.cells #[.int .i64 0, .int .i64 1] 3)) (.cells #[.int .i64 3, .bool false, .int .i64 1, .string ⟨#[]⟩, .slice none 0 0, .slice none 0 0, .int .i64 4, .bool false, .int .i64 0, .string ⟨#[97, 10]⟩, .slice none 0 0, .slice none 0 0, .int .i64 5, .bool false, .int .i64 0, .string ⟨#[]⟩, .slice none 0 0, .slice (some ⟨w.heap.size, 0, none⟩) 2 2] 39)
  have hG1 := hG.out.below hB1
  have hpr := print_walk K tr (some ⟨w.heap.size + 1, 0, none⟩) 3 0 _ ⟨hG1⟩ hl (Nat.le_refl _) (by decide) hck (fun _ => ⟨by decide, tree_tr, sized_tr, by rw [text_tr]; decide⟩)
  go_enter Tryd.func10, Tryd.ntmps10
  go_wp2_with (first
    | (go_at_call 14; refine hpr.mono ?_; rintro e w2 ⟨A', c', t, rfl, hrd, hb2, ht⟩; rw [if_pos rfl, text_tr] at ht; subst ht; have hcv : (convert 30 9 (.slice A' 13 c')).run Tryd.prog w2 = .ok (.string ⟨#[91, 49, 44, 34, 97, 92, 117, 48, 48, 48, 97, 34, 93]⟩) w2 := (string_of_reads (P := Tryd.prog) (src := 30) (dst := 9) (e := 5) (c := c') Tryd.underlying30 Tryd.underlying5 Tryd.underlying9 hrd).trans (by rw [str_nums]); have hB2 := hB1.trans (hb2.mono hB1.size))
    | (go_at_call 11; refine (show_Check.calls K2 none 0 [] 29 _ ⟨hG.out.below hB2⟩ (Kd.C_nil _ _) (Nat.le_refl _) hck2).mono ?_; rintro e w3 ⟨rfl, hb3⟩))
  go_ret
  exact ⟨rfl, hB2.trans (hb3.mono hB2.size)⟩
end Go.Proofs.YtldlkoncndlbhaaDoor.Aw
