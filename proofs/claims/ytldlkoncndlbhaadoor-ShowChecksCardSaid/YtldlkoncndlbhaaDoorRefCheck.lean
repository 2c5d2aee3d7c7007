/- The document's 'Check' answers as the program's does. -/
import Derived.Test.YtldlkoncndlbhaaDoorCheckLaw
namespace Go.Proofs.YtldlkoncndlbhaaDoor.Pure
open Go.RowKit Go.Proofs.YtldlkoncndlbhaaDoor.Utf Go.Proofs.YtldlkoncndlbhaaDoor.Mb Go.Proofs.YtldlkoncndlbhaaDoor.Pl Go.Proofs.YtldlkoncndlbhaaDoor.Tx Go.Proofs.YtldlkoncndlbhaaDoor.PSh Go.Proofs.YtldlkoncndlbhaaDoorW.PrintWords Go.Proofs.YtldlkoncndlbhaaDoorW.PrintLast Go.Proofs.YtldlkoncndlbhaaDoorW.PrintMore
set_option linter.unusedSimpArgs false
set_option linter.unusedVariables false

/-- How often each place is a kid, beside which places have a parent. -/
def UsOk (us : List Int) (fl : List Bool) : Prop := us.length = fl.length ∧ ∀ j : Nat, j < fl.length → rd us (j : Int) = if rdOf false fl (j : Int) = true then 1 else 0
def Bd (B : Int) (us : List Int) : Prop := ∀ j : Nat, j < us.length → 0 ≤ rd us (j : Int) ∧ rd us (j : Int) ≤ B
def Bad (us : List Int) : Prop := ∃ j : Nat, j + 1 < us.length ∧ 2 ≤ rd us (j : Int)
theorem mx_if (m v : Int) : (if v > m then v else m) = mx m v := by unfold mx; rfl
theorem Bd.mono {B C : Int} {us : List Int} (h : Bd B us) (hb : B ≤ C) : Bd C us := fun j hj => ⟨(h j hj).1, Int.le_trans (h j hj).2 hb⟩
theorem Bd.set {B v : Int} {us : List Int} (h : Bd B us) (i : Nat) (hi : i < us.length) (h0 : 0 ≤ v) (h1 : v ≤ B) : Bd B (us.set i v) := fun j hj => by
  rw [List.length_set] at hj
  rw [rd_set _ _ _ _ hi]
  split
  · exact ⟨h0, h1⟩
  · exact h j hj
theorem Bad.set {us : List Int} (h : Bad us) (i : Nat) (hi : i < us.length) : Bad (us.set i (rd us (i : Int) + 1)) := by
  obtain ⟨j, hj, h2⟩ := h
  refine ⟨j, by rw [List.length_set]; exact hj, ?_⟩
  rw [rd_set _ _ _ _ hi]
  split
  · subst_vars; omega
  · exact h2
attribute [local irreducible] rd rdOf mx

section
variable (l : List S39)
/-- The last look, where a place is no kid, or twice. -/
theorem end_bad (us dp : List Int) (hn : l.length ≤ 8192) (hu : us.length = l.length) (jb : Nat) (hj : jb + 1 < l.length) (h2 : ¬ rd us (jb : Int) = 1) :
    ∀ (d j : Nat), j + d = jb → Ev (fun k => haulierref03_Check.l2 k l us dp (j : Int)) 29 := by
  have hw : wrap64 ((l.length : Int) - 1) = (l.length : Int) - 1 := by unfold wrap64; omega
  intro d
  induction d with
  | zero =>
    intro j hd
    obtain rfl : j = jb := by omega
    have b1 : (j : Int) < (l.length : Int) - 1 := by omega
    have b2 : (0 : Int) ≤ (j : Int) := Int.natCast_nonneg _
    have b3 : (j : Int) < (us.length : Int) := by omega
    refine (Ev.const _).succ fun k => ?_
    simp only [haulierref03_Check.l2]
    rw [hw, if_pos b1, if_pos b2, if_pos b3, if_neg h2]
  | succ d ih =>
    intro j hd
    have b1 : (j : Int) < (l.length : Int) - 1 := by omega
    have b2 : (0 : Int) ≤ (j : Int) := Int.natCast_nonneg _
    have b3 : (j : Int) < (us.length : Int) := by omega
    have hj1 := wrap_succ j l.length (by omega) (by omega)
    by_cases h1 : rd us (j : Int) = 1
    · refine (ih (j + 1) (by omega)).succ fun k => ?_
      simp only [haulierref03_Check.l2]
      rw [hw, if_pos b1, if_pos b2, if_pos b3, if_pos h1, hj1]
    · refine (Ev.const _).succ fun k => ?_
      simp only [haulierref03_Check.l2]
      rw [hw, if_pos b1, if_pos b2, if_pos b3, if_neg h1]
theorem end_good (us dp : List Int) (hn : l.length ≤ 8192) (hp : 0 < l.length) (hu : us.length = l.length) (hd : dp.length = l.length) (h1 : ∀ j : Nat, j + 1 < l.length → rd us (j : Int) = 1) :
    ∀ (d j : Nat), j + d = l.length - 1 → Ev (fun k => haulierref03_Check.l2 k l us dp (j : Int)) (if 16 < rd dp ((l.length : Int) - 1) then 26 else 0) := by
  have hw : wrap64 ((l.length : Int) - 1) = (l.length : Int) - 1 := by unfold wrap64; omega
  intro d
  induction d with
  | zero =>
    intro j hj
    have b1 : ¬ (j : Int) < (l.length : Int) - 1 := by omega
    have b2 : (0 : Int) ≤ (l.length : Int) - 1 := by omega
    have b3 : (l.length : Int) - 1 < (dp.length : Int) := by omega
    by_cases h16 : 16 < rd dp ((l.length : Int) - 1)
    · rw [if_pos h16]
      refine (Ev.const _).succ fun k => ?_
      simp only [haulierref03_Check.l2]
      rw [hw, if_neg b1, if_pos b2, if_pos b3, if_pos h16]
    · rw [if_neg h16]
      refine (Ev.const _).succ fun k => ?_
      simp only [haulierref03_Check.l2]
      rw [hw, if_neg b1, if_pos b2, if_pos b3, if_neg h16]
  | succ d ih =>
    intro j hj
    have b1 : (j : Int) < (l.length : Int) - 1 := by omega
    have b2 : (0 : Int) ≤ (j : Int) := Int.natCast_nonneg _
    have b3 : (j : Int) < (us.length : Int) := by omega
    have hj1 := wrap_succ j l.length (by omega) (by omega)
    refine (ih (j + 1) (by omega)).succ fun k => ?_
    simp only [haulierref03_Check.l2]
    rw [hw, if_pos b1, if_pos b2, if_pos b3, if_pos (h1 j (by omega)), hj1]

/-- One kid. -/
theorem kid_step (hn : l.length ≤ 8192) (i : Nat) (hi : i < l.length) (dp us : List Int) (hd : dp.length = l.length) (hu : us.length = l.length) (hk : (rd_T39 l (i : Int)).f5.length ≤ 140737488355328) (q : Nat) (hq : q < (rd_T39 l (i : Int)).f5.length) (m : Int)
    (kd : Nat) (hkd : rd (rd_T39 l (i : Int)).f5 (q : Int) = kd) (hki : kd < i) (hb : rd us (kd : Int) + 1 ≤ 4611686018427387904) (h0 : 0 ≤ rd us (kd : Int)) (v : Int)
    (hv : Ev (fun k => haulierref03_Check.l1 k l (us.set kd (rd us (kd : Int) + 1)) dp (i : Int) (mx m (rd dp (kd : Int))) ((q + 1 : Nat) : Int)) v) :
    Ev (fun k => haulierref03_Check.l1 k l us dp (i : Int) m (q : Int)) v := by
  have c0 : (0 : Int) ≤ (i : Int) := Int.natCast_nonneg _
  have c1 : (i : Int) < (l.length : Int) := Int.ofNat_lt.2 hi
  have c2 : (q : Int) < ((rd_T39 l (i : Int)).f5.length : Int) := Int.ofNat_lt.2 hq
  have c3 : (0 : Int) ≤ (q : Int) := Int.natCast_nonneg _
  have c4 : ¬ (kd : Int) < 0 := by omega
  have c5 : decide ((kd : Int) ≥ (i : Int)) = false := by rw [decide_eq_false_iff_not]; omega
  have c6 : (0 : Int) ≤ (kd : Int) := Int.natCast_nonneg _
  have c7 : (kd : Int) < (us.length : Int) := by omega
  have c8 : (kd : Int) < (dp.length : Int) := by omega
  have hw : wrap64 (rd us (kd : Int) + 1) = rd us (kd : Int) + 1 := by
    generalize rd us (kd : Int) = x at *
    unfold wrap64
    omega
  have hwq := wrap_succ q _ hq hk
  have hj2 : Ev (fun k => haulierref03_Check.j2 k l us dp (i : Int) m (q : Int) (kd : Int) false) v := by
    refine hv.succ fun k => ?_
    simp only [haulierref03_Check.j2]
    rw [if_neg (by decide), if_pos c6, if_pos c7, hw, hwq]
    simp only [Option.bind_some, Int.toNat_natCast]
    rw [if_pos c8, ← mx_if]
    split <;> rfl
  refine hj2.succ fun k => ?_
  simp only [haulierref03_Check.l1]
  rw [if_pos c0, if_pos c1, if_pos c2, if_pos c3, hkd, if_neg c4, c5]
/-- A kid that may not be. -/
theorem kid_out (i : Nat) (hi : i < l.length) (dp us : List Int) (q : Nat) (hq : q < (rd_T39 l (i : Int)).f5.length) (m : Int) (h : rd (rd_T39 l (i : Int)).f5 (q : Int) < 0 ∨ (i : Int) ≤ rd (rd_T39 l (i : Int)).f5 (q : Int)) :
    Ev (fun k => haulierref03_Check.l1 k l us dp (i : Int) m (q : Int)) 29 := by
  have c0 : (0 : Int) ≤ (i : Int) := Int.natCast_nonneg _
  have c1 : (i : Int) < (l.length : Int) := Int.ofNat_lt.2 hi
  have c2 : (q : Int) < ((rd_T39 l (i : Int)).f5.length : Int) := Int.ofNat_lt.2 hq
  have c3 : (0 : Int) ≤ (q : Int) := Int.natCast_nonneg _
  have hj2 : Ev (fun k => haulierref03_Check.j2 k l us dp (i : Int) m (q : Int) (rd (rd_T39 l (i : Int)).f5 (q : Int)) true) 29 := by
    refine (Ev.const _).succ fun k => ?_
    simp only [haulierref03_Check.j2]
    rw [if_pos trivial]
  refine hj2.succ fun k => ?_
  simp only [haulierref03_Check.l1]
  by_cases h1 : rd (rd_T39 l (i : Int)).f5 (q : Int) < 0
  · rw [if_pos c0, if_pos c1, if_pos c2, if_pos c3, if_pos h1]
  · have h2 : decide (rd (rd_T39 l (i : Int)).f5 (q : Int) ≥ (i : Int)) = true := decide_eq_true (h.resolve_left h1)
    rw [if_pos c0, if_pos c1, if_pos c2, if_pos c3, if_neg h1, h2]
/-- Behind the last kid. -/
theorem kids_end (hn : l.length ≤ 8192) (i : Nat) (hi : i < l.length) (dp us : List Int) (hd : dp.length = l.length) (m : Int) (hm : 0 ≤ m ∧ m ≤ 8192) (v : Int)
    (hv : Ev (fun k => haulierref03_Check.l0 k l us (dp.set i (if 5 ≤ (rd_T39 l (i : Int)).f0 then m + 1 else m)) ((i + 1 : Nat) : Int)) v) :
    Ev (fun k => haulierref03_Check.l1 k l us dp (i : Int) m ((rd_T39 l (i : Int)).f5.length : Int)) v := by
  have c0 : (0 : Int) ≤ (i : Int) := Int.natCast_nonneg _
  have c1 : (i : Int) < (l.length : Int) := Int.ofNat_lt.2 hi
  have c2 : ¬ ((rd_T39 l (i : Int)).f5.length : Int) < ((rd_T39 l (i : Int)).f5.length : Int) := Int.lt_irrefl _
  have c3 : (i : Int) < (dp.length : Int) := by omega
  have hw : wrap64 (m + 1) = m + 1 := by unfold wrap64; omega
  have hwi := wrap_succ i l.length hi (by omega)
  refine hv.succ fun k => ?_
  simp only [haulierref03_Check.l1]
  by_cases h5 : (rd_T39 l (i : Int)).f0 ≥ 5
  · rw [if_pos c0, if_pos c1, if_neg c2, if_pos h5, if_pos c3, hw, hwi, Int.toNat_natCast, if_pos h5]
  · rw [if_pos c0, if_pos c1, if_neg c2, if_neg h5, if_pos c3, hwi, Int.toNat_natCast, if_neg h5]
theorem bd_set {B : Int} {us : List Int} (h : Bd B us) (i : Nat) (hi : i < us.length) : Bd (B + 1) (us.set i (rd us (i : Int) + 1)) :=
  (h.mono (by omega)).set i hi (by have := (h i hi).1; omega) (by have := (h i hi).2; omega)
/-- Where a place is a kid twice, the answer is told. -/
theorem bad_kids (hn : l.length ≤ 8192) (i : Nat) (hi : i < l.length) (dp : List Int) (hd : Dp l.length i dp) (hk : (rd_T39 l (i : Int)).f5.length ≤ 140737488355328) (B : Int) (hB : B + 140737488355328 ≤ 4611686018427387000)
    (hV : ∀ (us : List Int) (m : Int), us.length = l.length → 0 ≤ m → m ≤ i → Bd (B + 140737488355328) us → Bad us → Ev (fun k => haulierref03_Check.l0 k l us (dp.set i (if 5 ≤ (rd_T39 l (i : Int)).f0 then m + 1 else m)) ((i + 1 : Nat) : Int)) 29) :
    ∀ (r q : Nat) (us : List Int) (m : Int), q + r = (rd_T39 l (i : Int)).f5.length → us.length = l.length → 0 ≤ m → m ≤ i → Bd (B + q) us → Bad us → Ev (fun k => haulierref03_Check.l1 k l us dp (i : Int) m (q : Int)) 29 := by
  intro r
  induction r with
  | zero =>
    intro q us m hq hu h0 h1 hb hbad
    obtain rfl : q = (rd_T39 l (i : Int)).f5.length := by omega
    exact kids_end l hn i hi dp us hd.1 m ⟨h0, by omega⟩ 29 (hV us m hu h0 h1 (hb.mono (by omega)) hbad)
  | succ r ih =>
    intro q us m hq hu h0 h1 hb hbad
    have hql : q < (rd_T39 l (i : Int)).f5.length := by omega
    by_cases ho : rd (rd_T39 l (i : Int)).f5 (q : Int) < 0 ∨ (i : Int) ≤ rd (rd_T39 l (i : Int)).f5 (q : Int)
    · exact kid_out l i hi dp us q hql m ho
    · have hkn : 0 ≤ rd (rd_T39 l (i : Int)).f5 (q : Int) := Int.not_lt.1 fun e => ho (.inl e)
      have hki : rd (rd_T39 l (i : Int)).f5 (q : Int) < (i : Int) := Int.not_le.1 fun e => ho (.inr e)
      obtain ⟨kd, hkd⟩ : ∃ kd : Nat, rd (rd_T39 l (i : Int)).f5 (q : Int) = kd := ⟨(rd (rd_T39 l (i : Int)).f5 (q : Int)).toNat, (Int.toNat_of_nonneg hkn).symm⟩
      rw [hkd] at hki
      have hki := Int.ofNat_lt.1 hki
      have hku : kd < us.length := by rw [hu]; omega
      obtain ⟨b0, b1⟩ := hb kd hku
      have hd2 := hd.2 kd (by omega)
      exact kid_step l hn i hi dp us hd.1 hu hk q hql m kd hkd hki (by omega) b0 29
        (ih (q + 1) _ _ (by omega) (by rw [List.length_set]; exact hu) (mx_ge h0 hd2.1) (mx_le h1 (by omega)) ((bd_set hb kd hku).mono (by omega)) (hbad.set kd hku))
theorem bad_nodes (hn : l.length ≤ 8192) (hz : Sz l) : ∀ (d i : Nat) (us dp : List Int), i + d = l.length → 0 < l.length → us.length = l.length → Dp l.length i dp → Bd ((i : Int) * 140737488355328 + 2) us → Bad us →
    Ev (fun k => haulierref03_Check.l0 k l us dp (i : Int)) 29 := by
  intro d
  induction d with
  | zero =>
    intro i us dp hi hp hu hd hb hbad
    obtain ⟨jb, hj, h2⟩ := hbad
    have b1 : ¬ (i : Int) < (l.length : Int) := by omega
    refine (end_bad l us dp hn hu jb (by omega) (by omega) jb 0 (by omega)).succ fun k => ?_
    simp only [haulierref03_Check.l0]
    rw [if_neg b1]
    rfl
  | succ d ih =>
    intro i us dp hi hp hu hd hb hbad
    have hlt : i < l.length := by omega
    have c0 : (0 : Int) ≤ (i : Int) := Int.natCast_nonneg _
    have c1 : (i : Int) < (l.length : Int) := Int.ofNat_lt.2 hlt
    obtain ⟨⟨z1, z2, z3⟩, z4⟩ := hz (i : Int) c0 c1
    have hpl := plain_tells (rd_T39 l (i : Int)).f0 (rd_T39 l (i : Int)).f1 (rd_T39 l (i : Int)).f2 (rd_T39 l (i : Int)).f3 (rd_T39 l (i : Int)).f4 (rd_T39 l (i : Int)).f5 z3 z1 z2
    have hl0 : ∀ (b : Bool), plainOf (rd_T39 l (i : Int)) = b → Ev (fun k => if b = true then haulierref03_Check.l1 k l us dp (i : Int) 0 0 else some 29) 29 → Ev (fun k => haulierref03_Check.l0 k l us dp (i : Int)) 29 := by
      intro b hb2 hv
      have hpb : Ev (fun k => haulierref03_plain.f k (rd_T39 l (i : Int)).f0 (rd_T39 l (i : Int)).f1 (rd_T39 l (i : Int)).f2 (rd_T39 l (i : Int)).f3 (rd_T39 l (i : Int)).f4 (rd_T39 l (i : Int)).f5) b := by rw [← hb2]; exact hpl
      refine (Ev.bind (g := fun k (t153 : Bool) => if t153 = true then haulierref03_Check.l1 k l us dp (i : Int) 0 0 else some 29) hpb hv).succ fun k => ?_
      simp only [haulierref03_Check.l0]
      rw [if_pos c1, if_pos c0]
    cases hb2 : plainOf (rd_T39 l (i : Int))
    · exact hl0 false hb2 ((Ev.const _).of_eq fun k => if_neg (by decide))
    · refine hl0 true hb2 (Ev.of_eq ?_ fun k => if_pos rfl)
      have hbk : Bd ((i : Int) * 140737488355328 + 2 + ((0 : Nat) : Int)) us := hb.mono (by omega)
      exact bad_kids l hn i hlt dp hd z4 ((i : Int) * 140737488355328 + 2) (by omega)
        (fun us' m hu' h0 h1 hb' hbad' => ih (i + 1) us' _ (by omega) hp hu' (hd.set hlt (by split <;> omega) (by split <;> omega)) (hb'.mono (by omega)) hbad')
        (rd_T39 l (i : Int)).f5.length 0 us 0 (by omega) hu (Int.le_refl _) c0 hbk hbad
theorem UsOk.bd {us : List Int} {fl : List Bool} (h : UsOk us fl) : Bd 1 us := fun j hj => by
  rw [h.2 j (by rw [← h.1]; exact hj)]
  split <;> decide
/-- The kids, where none is there twice yet. -/
theorem good_kids (hn : l.length ≤ 8192) (hz : Sz l) (i : Nat) (hi : i < l.length) (dp : List Int) (hd : Dp l.length i dp) (V : List Bool → Int → Int)
    (hV : ∀ (us : List Int) (fl : List Bool) (m : Int), UsOk us fl → fl.length = l.length → 0 ≤ m → m ≤ i → Ev (fun k => haulierref03_Check.l0 k l us (dp.set i (if 5 ≤ (rd_T39 l (i : Int)).f0 then m + 1 else m)) ((i + 1 : Nat) : Int)) (V fl m)) :
    ∀ (r q : Nat) (us : List Int) (fl : List Bool) (m : Int), q + r = (rd_T39 l (i : Int)).f5.length → UsOk us fl → fl.length = l.length → 0 ≤ m → m ≤ i →
      Ev (fun k => haulierref03_Check.l1 k l us dp (i : Int) m (q : Int)) (match kidsGo dp i fl ((rd_T39 l (i : Int)).f5.drop q) m with | none => 29 | some (fl', m') => V fl' m') := by
  have c0 : (0 : Int) ≤ (i : Int) := Int.natCast_nonneg _
  have c1 : (i : Int) < (l.length : Int) := Int.ofNat_lt.2 hi
  have hk := (hz (i : Int) c0 c1).2
  intro r
  induction r with
  | zero =>
    intro q us fl m hq hu hfl h0 h1
    obtain rfl : q = (rd_T39 l (i : Int)).f5.length := by omega
    rw [List.drop_of_length_le (Nat.le_refl _)]
    exact kids_end l hn i hi dp us hd.1 m ⟨h0, by omega⟩ _ (hV us fl m hu hfl h0 h1)
  | succ r ih =>
    intro q us fl m hq hu hfl h0 h1
    have hql : q < (rd_T39 l (i : Int)).f5.length := by omega
    rw [kids_at (rd_T39 l (i : Int)).f5 q hql]
    by_cases ho : rd (rd_T39 l (i : Int)).f5 (q : Int) < 0 ∨ (i : Int) ≤ rd (rd_T39 l (i : Int)).f5 (q : Int)
    · rw [show kidsGo dp i fl (rd (rd_T39 l (i : Int)).f5 (q : Int) :: (rd_T39 l (i : Int)).f5.drop (q + 1)) m = none from if_neg (fun e => ho.elim (fun x => absurd e.1 (Int.not_le.2 x)) (fun x => absurd e.2.1 (Int.not_lt.2 x)))]
      exact kid_out l i hi dp us q hql m ho
    have hkn : 0 ≤ rd (rd_T39 l (i : Int)).f5 (q : Int) := Int.not_lt.1 fun e => ho (.inl e)
    have hki : rd (rd_T39 l (i : Int)).f5 (q : Int) < (i : Int) := Int.not_le.1 fun e => ho (.inr e)
    obtain ⟨kd, hkd⟩ : ∃ kd : Nat, rd (rd_T39 l (i : Int)).f5 (q : Int) = kd := ⟨(rd (rd_T39 l (i : Int)).f5 (q : Int)).toNat, (Int.toNat_of_nonneg hkn).symm⟩
    rw [hkd] at hki
    have hki := Int.ofNat_lt.1 hki
    have hlu : us.length = l.length := hu.1.trans hfl
    have hkf : kd < fl.length := by rw [hfl]; omega
    have hku : kd < us.length := by rw [hlu]; omega
    have hd2 := hd.2 kd (by omega)
    have hbd := hu.bd
    obtain ⟨b0, b1⟩ := hbd kd hku
    have huk := hu.2 kd hkf
    have hmx0 := mx_ge h0 hd2.1
    have hmx1 : mx m (rd dp (kd : Int)) ≤ (i : Int) := mx_le h1 (Int.le_trans hd2.2.1 (Int.ofNat_le.2 hki))
    rw [hkd]
    by_cases a3 : rdOf false fl (kd : Int) = true
    · rw [show kidsGo dp i fl ((kd : Int) :: (rd_T39 l (i : Int)).f5.drop (q + 1)) m = none from if_neg (fun e => by rw [a3] at e; exact absurd e.2.2 (by decide))]
      rw [if_pos a3] at huk
      refine kid_step l hn i hi dp us hd.1 hlu hk q hql m kd hkd hki (by omega) b0 29 ?_
      have hbad : Bad (us.set kd (rd us (kd : Int) + 1)) := ⟨kd, by rw [List.length_set, hlu]; omega, by rw [rd_set _ _ _ _ hku, if_pos rfl]; omega⟩
      exact bad_kids l hn i hi dp hd hk ((i : Int) * 140737488355328 + 2) (by omega)
        (fun us' m' hu' h0' h1' hb' hbad' => bad_nodes l hn hz (l.length - (i + 1)) (i + 1) us' _ (by omega) (by omega) hu' (hd.set hi (by split <;> omega) (by split <;> omega)) (hb'.mono (by omega)) hbad')
        r (q + 1) _ _ (by omega) (by rw [List.length_set]; exact hlu) hmx0 hmx1 ((bd_set hbd kd hku).mono (by omega)) hbad
    · rw [show kidsGo dp i fl ((kd : Int) :: (rd_T39 l (i : Int)).f5.drop (q + 1)) m = kidsGo dp i (fl.set (kd : Int).toNat true) ((rd_T39 l (i : Int)).f5.drop (q + 1)) (mx m (rd dp (kd : Int))) from if_pos ⟨Int.natCast_nonneg _, Int.ofNat_lt.2 hki, Bool.eq_false_iff.2 a3⟩]
      rw [if_neg a3] at huk
      refine kid_step l hn i hi dp us hd.1 hlu hk q hql m kd hkd hki (by omega) b0 _ ?_
      refine ih (q + 1) _ (fl.set (kd : Int).toNat true) _ (by omega) ?_ (by rw [List.length_set]; exact hfl) hmx0 hmx1
      refine ⟨by rw [List.length_set, List.length_set]; exact hu.1, fun j hj => ?_⟩
      rw [List.length_set] at hj
      rw [Int.toNat_natCast, rd_set _ _ _ _ hku, rdF_set _ _ _ _ hkf, huk]
      by_cases e : kd = j
      · rw [if_pos e, if_pos e]; rfl
      · rw [if_neg e, if_neg e]; exact hu.2 j hj
theorem good_nodes (hn : l.length ≤ 8192) (hz : Sz l) : ∀ (d i : Nat) (us : List Int) (fl : List Bool) (dp : List Int), i + d = l.length → 0 < l.length → UsOk us fl → fl.length = l.length → Dp l.length i dp →
    Ev (fun k => haulierref03_Check.l0 k l us dp (i : Int)) (endOf l.length (nodesGo l d i fl dp)) := by
  intro d
  induction d with
  | zero =>
    intro i us fl dp hi hp hu hfl hd
    have b1 : ¬ (i : Int) < (l.length : Int) := by omega
    have hlu : us.length = l.length := hu.1.trans hfl
    show Ev _ (if (fl.take (l.length - 1)).contains false = true then 29 else if 16 < rd dp ((l.length : Int) - 1) then 26 else 0)
    have hgo : ∀ v : Int, Ev (fun k => haulierref03_Check.l2 k l us dp ((0 : Nat) : Int)) v → Ev (fun k => haulierref03_Check.l0 k l us dp (i : Int)) v := fun v hv => by
      refine hv.succ fun k => ?_
      simp only [haulierref03_Check.l0]
      rw [if_neg b1]
      rfl
    have hrdf : ∀ j : Nat, j < fl.length → rdOf false fl (j : Int) = fl.getD j false := fun j hj => by
      unfold rdOf
      rw [Int.toNat_natCast]
    by_cases hc : (fl.take (l.length - 1)).contains false = true
    · rw [if_pos hc]
      rw [List.contains_iff_mem, List.mem_take_iff_getElem] at hc
      obtain ⟨j, hj, e⟩ := hc
      have hjf : j < fl.length := by omega
      have hju := hu.2 j hjf
      rw [hrdf j hjf, List.getD_eq_getElem?_getD, List.getElem?_eq_getElem hjf, Option.getD_some, e, if_neg (by decide)] at hju
      exact hgo _ (end_bad l us dp hn hlu j (by omega) (by omega) j 0 (by omega))
    · rw [if_neg hc]
      refine hgo _ (end_good l us dp hn hp hlu hd.1 (fun j hj => ?_) (l.length - 1) 0 (by omega))
      have hjf : j < fl.length := by omega
      rw [hu.2 j hjf, if_pos]
      rw [hrdf j hjf, List.getD_eq_getElem?_getD, List.getElem?_eq_getElem hjf, Option.getD_some]
      cases e : fl[j]
      · exact absurd (by rw [List.contains_iff_mem, List.mem_take_iff_getElem]; exact ⟨j, by omega, e⟩) hc
      · rfl
  | succ d ih =>
    intro i us fl dp hi hp hu hfl hd
    have hlt : i < l.length := by omega
    have c0 : (0 : Int) ≤ (i : Int) := Int.natCast_nonneg _
    have c1 : (i : Int) < (l.length : Int) := Int.ofNat_lt.2 hlt
    obtain ⟨⟨z1, z2, z3⟩, z4⟩ := hz (i : Int) c0 c1
    have hpl := plain_tells (rd_T39 l (i : Int)).f0 (rd_T39 l (i : Int)).f1 (rd_T39 l (i : Int)).f2 (rd_T39 l (i : Int)).f3 (rd_T39 l (i : Int)).f4 (rd_T39 l (i : Int)).f5 z3 z1 z2
    have hl0 : ∀ (b : Bool) (v : Int), plainOf (rd_T39 l (i : Int)) = b → Ev (fun k => if b = true then haulierref03_Check.l1 k l us dp (i : Int) 0 0 else some 29) v → Ev (fun k => haulierref03_Check.l0 k l us dp (i : Int)) v := by
      intro b v hb2 hv
      have hpb : Ev (fun k => haulierref03_plain.f k (rd_T39 l (i : Int)).f0 (rd_T39 l (i : Int)).f1 (rd_T39 l (i : Int)).f2 (rd_T39 l (i : Int)).f3 (rd_T39 l (i : Int)).f4 (rd_T39 l (i : Int)).f5) b := by rw [← hb2]; exact hpl
      refine (Ev.bind (g := fun k (t153 : Bool) => if t153 = true then haulierref03_Check.l1 k l us dp (i : Int) 0 0 else some 29) hpb hv).succ fun k => ?_
      simp only [haulierref03_Check.l0]
      rw [if_pos c1, if_pos c0]
    cases hb2 : plainOf (rd_T39 l (i : Int))
    · have e : endOf l.length (nodesGo l (d + 1) i fl dp) = 29 := by rw [nodesGo, if_neg (by rw [hb2]; decide)]; rfl
      rw [e]
      exact hl0 false 29 hb2 ((Ev.const _).of_eq fun k => if_neg (by decide))
    · have e : endOf l.length (nodesGo l (d + 1) i fl dp) = (match kidsGo dp i fl ((rd_T39 l (i : Int)).f5.drop 0) 0 with | none => 29 | some (fl', m') => endOf l.length (nodesGo l d (i + 1) fl' (dp.set i (if 5 ≤ (rd_T39 l (i : Int)).f0 then m' + 1 else m')))) := by
        rw [nodesGo, if_pos hb2, List.drop_zero]
        cases kidsGo dp i fl (rd_T39 l (i : Int)).f5 0 with
        | none => rfl
        | some p => rfl
      rw [e]
      refine hl0 true _ hb2 (Ev.of_eq ?_ fun k => if_pos rfl)
      exact good_kids l hn hz i hlt dp hd (fun fl' m' => endOf l.length (nodesGo l d (i + 1) fl' (dp.set i (if 5 ≤ (rd_T39 l (i : Int)).f0 then m' + 1 else m'))))
        (fun us' fl' m' hu' hfl' h0 h1 => ih (i + 1) us' fl' _ (by omega) hp hu' hfl' (hd.set hlt (by split <;> omega) (by split <;> omega)))
        (rd_T39 l (i : Int)).f5.length 0 us fl 0 (by omega) hu hfl (Int.le_refl _) c0
/-- The document's Check. -/
theorem refcheck_tells (hz : Sz l) : Ev (fun k => haulierref03_Check.f k l) (checkOf l) := by
  unfold checkOf
  by_cases h0 : l.length = 0
  · rw [if_pos h0]
    refine (Ev.const _).of_eq fun k => ?_
    unfold haulierref03_Check.f
    rw [if_pos (by omega)]
  rw [if_neg h0]
  by_cases h1 : 8192 < l.length
  · rw [if_pos h1]
    refine (Ev.const _).of_eq fun k => ?_
    unfold haulierref03_Check.f
    rw [if_neg (by omega), if_pos (by omega)]
  rw [if_neg h1]
  have hu : UsOk (List.replicate l.length 0) (List.replicate l.length false) := by
    refine ⟨by rw [List.length_replicate, List.length_replicate], fun j hj => ?_⟩
    rw [List.length_replicate] at hj
    rw [rd_nat _ _ (by rw [List.length_replicate]; exact hj)]
    have : rdOf false (List.replicate l.length false) (j : Int) = false := by unfold rdOf; rw [Int.toNat_natCast, List.getD_eq_getElem?_getD, List.getElem?_replicate, if_pos hj]; rfl
    rw [this]
    simp
  refine (good_nodes l (by omega) hz l.length 0 _ _ _ (by omega) (by omega) hu List.length_replicate (Dp_zero _)).of_eq fun k => ?_
  unfold haulierref03_Check.f
  rw [if_neg (by omega), if_neg (by omega), if_pos (by omega), if_pos (by omega)]
  rfl
end

end Go.Proofs.YtldlkoncndlbhaaDoor.Pure
