/- YtldlkoncndlbhaaDoorZSb14: texts of the seat (JayK, JayB, PlC, PlX, PlS, Lst), one behind the other, without what this claim's theorem does not rest on. -/
import Derived.Test.YtldlkoncndlbhaaDoorZSb13
import Derived.Lib.RuneCount

set_option linter.unusedVariables false
set_option linter.unusedSimpArgs false
namespace Go.Proofs.YtldlkoncndlbhaaDoor.Js
open Go.RowKit Go.Lib Go.Proofs.YtldlkoncndlbhaaDoor.PSh Go.Proofs.YtldlkoncndlbhaaDoor.Utf Go.Proofs.YtldlkoncndlbhaaDoor.Mb Go.Proofs.YtldlkoncndlbhaaDoor.Pl Go.Proofs.YtldlkoncndlbhaaDoor.Np Go.Proofs.YtldlkoncndlbhaaDoor.Tx Go.Proofs.YtldlkoncndlbhaaDoor.Pure Go.Proofs.YtldlkoncndlbhaaDoor.Wr Go.Proofs.YtldlkoncndlbhaaDoorW.PrintWords Go.Proofs.YtldlkoncndlbhaaDoorW.PrintLast Go.Proofs.YtldlkoncndlbhaaDoorW.PrintMore
def JL.ids : JL → Nat → List Nat
  | .nil, _ => []
  | .cons j js, b => (b + j.size - 1) :: js.ids (b + j.size)
def JO.ids : JO → Nat → List Nat
  | .nil, _ => []
  | .cons _ j ms, b => (b + j.size - 1) :: ms.ids (b + j.size)
theorem JL.idx_ids : ∀ (js : JL) (b : Nat), js.idx b = (js.ids b).map fun (k : Nat) => (k : Int)
  | .nil, _ => rfl
  | .cons j js, b => by rw [JL.idx, JL.ids, List.map_cons, js.idx_ids]
theorem JO.idx_ids : ∀ (ms : JO) (b : Nat), ms.idx b = (ms.ids b).map fun (k : Nat) => (k : Int)
  | .nil, _ => rfl
  | .cons _ j ms, b => by rw [JO.idx, JO.ids, List.map_cons, ms.idx_ids]
theorem JL.ids_in : ∀ (js : JL) (b k : Nat), k ∈ js.ids b → b ≤ k ∧ k < b + js.size
  | .nil, b, k, h => by cases h
  | .cons j js, b, k, h => by
    have hp := j.size_pos
    rw [JL.ids] at h
    rw [JL.size]
    rcases List.mem_cons.1 h with rfl | h
    · omega
    · have := js.ids_in _ k h; omega
theorem JO.ids_in : ∀ (ms : JO) (b k : Nat), k ∈ ms.ids b → b ≤ k ∧ k < b + ms.size
  | .nil, b, k, h => by cases h
  | .cons _ j ms, b, k, h => by
    have hp := j.size_pos
    rw [JO.ids] at h
    rw [JO.size]
    rcases List.mem_cons.1 h with rfl | h
    · omega
    · have := ms.ids_in _ k h; omega
theorem JL.ids_nodup : ∀ (js : JL) (b : Nat), (js.ids b).Nodup
  | .nil, b => List.nodup_nil
  | .cons j js, b => by
    rw [JL.ids, List.nodup_cons]
    have hp := j.size_pos
    exact ⟨fun h => by have := js.ids_in _ _ h; omega, js.ids_nodup _⟩
theorem JO.ids_nodup : ∀ (ms : JO) (b : Nat), (ms.ids b).Nodup
  | .nil, b => List.nodup_nil
  | .cons _ j ms, b => by
    rw [JO.ids, List.nodup_cons]
    have hp := j.size_pos
    exact ⟨fun h => by have := ms.ids_in _ _ h; omega, ms.ids_nodup _⟩
theorem mx_nat (a b : Nat) : mx (a : Int) (b : Int) = ((max a b : Nat) : Int) := by
  unfold mx
  split <;> omega
theorem JL.fold_mx : ∀ (js : JL) (m : Nat), (js.toL.map fun j => (j.depth : Int)).foldl mx (m : Int) = ((max m js.depth : Nat) : Int)
  | .nil, m => by rw [JL.depth]; show (m : Int) = _; omega
  | .cons j js, m => by rw [JL.toL, List.map_cons, List.foldl_cons, mx_nat, js.fold_mx, JL.depth, Nat.max_assoc]
theorem JO.fold_mx : ∀ (ms : JO) (m : Nat), (ms.toL.map fun j => (j.depth : Int)).foldl mx (m : Int) = ((max m ms.depth : Nat) : Int)
  | .nil, m => by rw [JO.depth]; show (m : Int) = _; omega
  | .cons _ j ms, m => by rw [JO.toL, List.map_cons, List.foldl_cons, mx_nat, ms.fold_mx, JO.depth, Nat.max_assoc]
/-- Kids that are no kids yet. -/
theorem kids_run (dp : List Int) (i : Nat) : ∀ (ks : List Nat) (fl : List Bool) (m : Int), (∀ k ∈ ks, k < i) → i ≤ fl.length → (∀ k ∈ ks, rdOf false fl (k : Int) = false) → ks.Nodup →
    ∃ fl', kidsGo dp i fl (ks.map fun (k : Nat) => (k : Int)) m = some (fl', (ks.map fun (k : Nat) => rd dp (k : Int)).foldl mx m) ∧ fl'.length = fl.length ∧ (∀ k : Nat, k ∈ ks → rdOf false fl' (k : Int) = true) ∧ (∀ k : Nat, k ∉ ks → rdOf false fl' (k : Int) = rdOf false fl (k : Int))
  | [], fl, m, _, _, _, _ => ⟨fl, rfl, rfl, fun k h => (by cases h), fun _ _ => rfl⟩
  | k :: r, fl, m, hi, hl, hf, hn => by
    have hk := hi k (List.mem_cons_self ..)
    have hkf := hf k (List.mem_cons_self ..)
    rw [List.nodup_cons] at hn
    have hset := fun (j : Nat) => rdF_set fl k j true (by omega)
    obtain ⟨fl', h1, h2, h3, h4⟩ := kids_run dp i r (fl.set k true) (mx m (rd dp (k : Int))) (fun x hx => hi x (List.mem_cons_of_mem _ hx)) (by rw [List.length_set]; exact hl)
      (fun x hx => by
        have hne : k ≠ x := fun e => hn.1 (e ▸ hx)
        rw [hset x, if_neg hne]
        exact hf x (List.mem_cons_of_mem _ hx)) hn.2
    refine ⟨fl', ?_, by rw [h2, List.length_set], fun x hx => ?_, fun x hx => ?_⟩
    · rw [List.map_cons, kidsGo, if_pos ⟨Int.natCast_nonneg _, by omega, hkf⟩, Int.toNat_natCast, h1]
      rfl
    · rcases List.mem_cons.1 hx with rfl | hx
      · by_cases hm : x ∈ r
        · exact h3 x hm
        · rw [h4 x hm, hset x, if_pos rfl]
      · exact h3 x hx
    · have hne : k ≠ x := fun e => hx (e ▸ List.mem_cons_self ..)
      rw [h4 x (fun h => hx (List.mem_cons_of_mem _ h)), hset x, if_neg hne]
/-- How flags and depths stand when the values from b on, n of them, have been seen: all are kids but the roots. -/
structure Ran (l : List S39) (b n : Nat) (roots : List Nat) (fl : List Bool) (dp : List Int) (fl' : List Bool) (dp' : List Int) : Prop where
  lf : fl'.length = l.length
  ld : dp'.length = l.length
  low : ∀ k : Nat, k < b → rdOf false fl' (k : Int) = rdOf false fl (k : Int) ∧ rd dp' (k : Int) = rd dp (k : Int)
  kid : ∀ k : Nat, b ≤ k → k < b + n → k ∉ roots → rdOf false fl' (k : Int) = true
  root : ∀ k : Nat, k ∈ roots → rdOf false fl' (k : Int) = false
  high : ∀ k : Nat, b + n ≤ k → rdOf false fl' (k : Int) = false
theorem leaf_run (l P Q : List S39) (x : S39) (hl : l = P ++ (x :: Q)) (hp : plainOf x = true) (h5 : x.f5 = []) (h0 : ¬ 5 ≤ x.f0) (d : Nat) (fl : List Bool) (dp : List Int) (hfl : fl.length = l.length) (hdp : dp.length = l.length) (H : ∀ k : Nat, P.length ≤ k → rdOf false fl (k : Int) = false) :
    ∃ fl' dp', nodesGo l (1 + d) P.length fl dp = nodesGo l d (P.length + 1) fl' dp' ∧ Ran l P.length 1 [P.length + 1 - 1] fl dp fl' dp' ∧ rd dp' ((P.length + 1 - 1 : Nat) : Int) = ((0 : Nat) : Int) := by
  have hx : rd_T39 l ((P.length : Nat) : Int) = x := by rw [hl]; exact rd_mid P Q x _ rfl
  have hlt : P.length < l.length := by rw [hl, List.length_append, List.length_cons]; omega
  refine ⟨fl, dp.set P.length 0, ?_, ⟨hfl, by rw [List.length_set, hdp], fun k hk => ⟨rfl, ?_⟩, fun k h1 h2 h3 => ?_, fun k hk => H k ?_, fun k hk => H k (by omega)⟩, ?_⟩
  · rw [Nat.add_comm 1 d, nodesGo, hx, if_pos hp, h5]
    show nodesGo l d (P.length + 1) fl (dp.set P.length (if 5 ≤ x.f0 then (0 : Int) + 1 else 0)) = _
    rw [if_neg h0]
  · rw [rd_set dp P.length k 0 (by omega), if_neg (by omega)]
  · exact absurd (List.mem_singleton.2 (by omega)) h3
  · have := List.mem_singleton.1 hk; omega
  · rw [Nat.add_sub_cancel, rd_set dp P.length P.length 0 (by omega), if_pos rfl]
    rfl
/-- A value with kids, its kids having been seen. -/
theorem node_run (l P : List S39) (x : S39) (n : Nat) (ids : List Nat) (deps : List Int) (dep : Nat) (hlt : P.length + n < l.length) (hx : rd_T39 l ((P.length + n : Nat) : Int) = x) (hp : plainOf x = true) (h0 : 5 ≤ x.f0) (h5 : x.f5 = ids.map fun (k : Nat) => (k : Int))
    (hin : ∀ k ∈ ids, P.length ≤ k ∧ k < P.length + n) (hnd : ids.Nodup) (d : Nat) (fl fl1 : List Bool) (dp dp1 : List Int) (hR : Ran l P.length n ids fl dp fl1 dp1) (hdeps : ids.map (fun (k : Nat) => rd dp1 (k : Int)) = deps) (hfold : deps.foldl mx (0 : Int) = (dep : Int)) :
    ∃ fl' dp', nodesGo l (1 + d) (P.length + n) fl1 dp1 = nodesGo l d (P.length + (n + 1)) fl' dp' ∧ Ran l P.length (n + 1) [P.length + (n + 1) - 1] fl dp fl' dp' ∧ rd dp' ((P.length + (n + 1) - 1 : Nat) : Int) = ((dep + 1 : Nat) : Int) := by
  obtain ⟨fl2, k1, k2, k3, k4⟩ := kids_run dp1 (P.length + n) ids fl1 0 (fun k hk => (hin k hk).2) (by rw [hR.lf]; omega) (fun k hk => hR.root k hk) hnd
  refine ⟨fl2, dp1.set (P.length + n) ((dep : Int) + 1), ?_, ⟨by rw [k2, hR.lf], by rw [List.length_set, hR.ld], fun k hk => ?_, fun k h1 h2 h3 => ?_, fun k hk => ?_, fun k hk => ?_⟩, ?_⟩
  · rw [Nat.add_comm 1 d, nodesGo, hx, if_pos hp, h5, k1, hdeps, hfold]
    show nodesGo l d (P.length + n + 1) fl2 (dp1.set (P.length + n) (if 5 ≤ x.f0 then (dep : Int) + 1 else (dep : Int))) = _
    rw [if_pos h0, Nat.add_assoc]
  · have hnk : k ∉ ids := fun h => by have := hin k h; omega
    refine ⟨by rw [k4 k hnk]; exact (hR.low k hk).1, ?_⟩
    rw [rd_set dp1 _ k _ (by rw [hR.ld]; omega), if_neg (by omega)]
    exact (hR.low k hk).2
  · have hk : k < P.length + n := by
      have : ¬ k = P.length + (n + 1) - 1 := fun e => h3 (List.mem_singleton.2 e)
      omega
    by_cases hm : k ∈ ids
    · exact k3 k hm
    · rw [k4 k hm]; exact hR.kid k h1 hk hm
  · have e := List.mem_singleton.1 hk
    have hnk : k ∉ ids := fun h => by have := hin k h; omega
    rw [k4 k hnk]
    exact hR.high k (by omega)
  · have hnk : k ∉ ids := fun h => by have := hin k h; omega
    rw [k4 k hnk]
    exact hR.high k (by omega)
  · rw [show P.length + (n + 1) - 1 = P.length + n by omega, rd_set dp1 _ _ _ (by rw [hR.ld]; omega), if_pos rfl]
    omega
theorem emp_list : (⟨#[]⟩ : ByteArray).toList = [] := by exact ByteArray.toList_eq _
theorem plain_1 : plainOf ⟨1, false, 0, ⟨#[]⟩, [], []⟩ = true := by unfold plainOf plainB; simp [namesGo, emp_list]
theorem plain_2 (b : Bool) : plainOf ⟨2, b, 0, ⟨#[]⟩, [], []⟩ = true := by unfold plainOf plainB; simp [namesGo, emp_list]
theorem plain_3 (n : Int) (h : fit n) : plainOf ⟨3, false, n, ⟨#[]⟩, [], []⟩ = true := by
  have h1 : decide (-4611686018427387903 ≤ n ∧ n ≤ 4611686018427387903) = true := decide_eq_true h
  unfold plainOf plainB
  dsimp only
  rw [if_pos (show namesGo [] [] = true from rfl), if_neg (by decide), if_neg (by decide), if_pos rfl, emp_list, h1]
  rfl
theorem plain_4 (s : ByteArray) (h : utf s.data.toList = true) : plainOf ⟨4, false, 0, s, [], []⟩ = true := by
  unfold plainOf plainB
  dsimp only
  rw [if_pos (show namesGo [] [] = true from rfl), if_neg (by decide), if_neg (by decide), if_neg (by decide), if_pos rfl, h]
  rfl
theorem plain_5 (ks : List Int) : plainOf ⟨5, false, 0, ⟨#[]⟩, [], ks⟩ = true := by
  unfold plainOf plainB
  dsimp only
  rw [if_pos (show namesGo [] [] = true from rfl), if_neg (by decide), if_neg (by decide), if_neg (by decide), if_neg (by decide), if_pos rfl, emp_list]
  rfl
theorem plain_6 (ns : List ByteArray) (ks : List Int) (h : namesGo [] ns = true) (hl : ns.length = ks.length) : plainOf ⟨6, false, 0, ⟨#[]⟩, ns, ks⟩ = true := by
  unfold plainOf plainB
  dsimp only
  rw [if_pos h, if_neg (by decide), if_neg (by decide), if_neg (by decide), if_neg (by decide), if_neg (by decide), if_pos rfl, emp_list, hl, beq_self_eq_true]
  rfl
mutual
theorem J.run : ∀ (j : J) (hj : j.ok) (l P Q : List S39), l = P ++ (j.enc P.length ++ Q) → ∀ (d : Nat) (fl : List Bool) (dp : List Int), fl.length = l.length → dp.length = l.length → (∀ k : Nat, P.length ≤ k → rdOf false fl (k : Int) = false) →
    ∃ fl' dp', nodesGo l (j.size + d) P.length fl dp = nodesGo l d (P.length + j.size) fl' dp' ∧ Ran l P.length j.size [P.length + j.size - 1] fl dp fl' dp' ∧ rd dp' ((P.length + j.size - 1 : Nat) : Int) = (j.depth : Int)
  | .null, hj, l, P, Q, hl, d, fl, dp, hfl, hdp, H => by
    rw [J.enc] at hl
    rw [J.size, J.depth]
    exact leaf_run l P Q _ hl plain_1 rfl (by decide) d fl dp hfl hdp H
  | .bool b, hj, l, P, Q, hl, d, fl, dp, hfl, hdp, H => by
    rw [J.enc] at hl
    rw [J.size, J.depth]
    exact leaf_run l P Q _ hl (plain_2 b) rfl (by show ¬ (5 : Int) ≤ 2; decide) d fl dp hfl hdp H
  | .num n, hj, l, P, Q, hl, d, fl, dp, hfl, hdp, H => by
    rw [J.enc] at hl
    rw [J.ok] at hj
    rw [J.size, J.depth]
    exact leaf_run l P Q _ hl (plain_3 n hj) rfl (by show ¬ (5 : Int) ≤ 3; decide) d fl dp hfl hdp H
  | .str s, hj, l, P, Q, hl, d, fl, dp, hfl, hdp, H => by
    rw [J.enc] at hl
    rw [J.ok] at hj
    rw [J.size, J.depth]
    exact leaf_run l P Q _ hl (plain_4 s hj) rfl (by show ¬ (5 : Int) ≤ 4; decide) d fl dp hfl hdp H
  | .list js, hj, l, P, Q, hl, d, fl, dp, hfl, hdp, H => by
    rw [J.enc, List.append_assoc, List.singleton_append] at hl
    rw [J.ok] at hj
    rw [J.size, J.depth, Nat.add_assoc]
    obtain ⟨fl1, dp1, e1, hR, hds⟩ := JL.run js hj l P _ hl (1 + d) fl dp hfl hdp H
    have hlen := js.enc_len P.length
    have hx : rd_T39 l ((P.length + js.size : Nat) : Int) = ⟨5, false, 0, ⟨#[]⟩, [], js.idx P.length⟩ := by
      rw [hl, ← List.append_assoc]
      exact rd_mid _ _ _ _ (by rw [List.length_append, hlen])
    have hlt : P.length + js.size < l.length := by rw [hl, List.length_append, List.length_append, hlen, List.length_cons]; omega
    rw [e1]
    exact node_run l P _ js.size (js.ids P.length) _ js.depth hlt hx (plain_5 _) (by show (5 : Int) ≤ 5; decide) (js.idx_ids _) (js.ids_in _) (js.ids_nodup _) d fl fl1 dp dp1 hR hds (by have := js.fold_mx 0; rw [Nat.zero_max] at this; exact this)
  | .obj ms, hj, l, P, Q, hl, d, fl, dp, hfl, hdp, H => by
    rw [J.enc, List.append_assoc, List.singleton_append] at hl
    rw [J.ok] at hj
    rw [J.size, J.depth, Nat.add_assoc]
    obtain ⟨fl1, dp1, e1, hR, hds⟩ := JO.run ms hj.1 l P _ hl (1 + d) fl dp hfl hdp H
    have hlen := ms.enc_len P.length
    have hx : rd_T39 l ((P.length + ms.size : Nat) : Int) = ⟨6, false, 0, ⟨#[]⟩, ms.names, ms.idx P.length⟩ := by
      rw [hl, ← List.append_assoc]
      exact rd_mid _ _ _ _ (by rw [List.length_append, hlen])
    have hlt : P.length + ms.size < l.length := by rw [hl, List.length_append, List.length_append, hlen, List.length_cons]; omega
    rw [e1]
    exact node_run l P _ ms.size (ms.ids P.length) _ ms.depth hlt hx (plain_6 _ _ hj.2 (by rw [ms.names_len, ms.idx_len])) (by show (5 : Int) ≤ 6; decide) (ms.idx_ids _) (ms.ids_in _) (ms.ids_nodup _) d fl fl1 dp dp1 hR hds (by have := ms.fold_mx 0; rw [Nat.zero_max] at this; exact this)
theorem JL.run : ∀ (js : JL) (hj : js.ok) (l P Q : List S39), l = P ++ (js.enc P.length ++ Q) → ∀ (d : Nat) (fl : List Bool) (dp : List Int), fl.length = l.length → dp.length = l.length → (∀ k : Nat, P.length ≤ k → rdOf false fl (k : Int) = false) →
    ∃ fl' dp', nodesGo l (js.size + d) P.length fl dp = nodesGo l d (P.length + js.size) fl' dp' ∧ Ran l P.length js.size (js.ids P.length) fl dp fl' dp' ∧ (js.ids P.length).map (fun (k : Nat) => rd dp' (k : Int)) = js.toL.map fun j => (j.depth : Int)
  | .nil, hj, l, P, Q, hl, d, fl, dp, hfl, hdp, H => by
    rw [JL.size, Nat.zero_add]
    exact ⟨fl, dp, rfl, ⟨hfl, hdp, fun k hk => ⟨rfl, rfl⟩, fun k h1 h2 _ => by omega, fun k hk => absurd hk List.not_mem_nil, fun k hk => H k (by omega)⟩, rfl⟩
  | .cons j js, hj, l, P, Q, hl, d, fl, dp, hfl, hdp, H => by
    rw [JL.enc, List.append_assoc] at hl
    rw [JL.ok] at hj
    rw [JL.size, Nat.add_assoc]
    have hpos := j.size_pos
    obtain ⟨fl1, dp1, e1, hR, hd1⟩ := J.run j hj.1 l P _ hl (js.size + d) fl dp hfl hdp H
    have hlen : (P ++ j.enc P.length).length = P.length + j.size := by rw [List.length_append, j.enc_len]
    obtain ⟨fl2, dp2, e2, hR2, hd2⟩ := JL.run js hj.2 l (P ++ j.enc P.length) Q (by rw [hlen, List.append_assoc]; exact hl) d fl1 dp1 hR.lf hR.ld (fun k hk => hR.high k (by omega))
    rw [hlen] at e2 hR2 hd2
    refine ⟨fl2, dp2, by rw [e1, e2, Nat.add_assoc], ⟨hR2.lf, hR2.ld, fun k hk => ?_, fun k h1 h2 h3 => ?_, fun k hk => ?_, fun k hk => hR2.high k (by omega)⟩, ?_⟩
    · exact ⟨(hR2.low k (by omega)).1.trans (hR.low k hk).1, (hR2.low k (by omega)).2.trans (hR.low k hk).2⟩
    · rw [JL.ids, List.mem_cons, not_or] at h3
      by_cases hk : k < P.length + j.size
      · rw [(hR2.low k hk).1]
        exact hR.kid k h1 hk (fun h => h3.1 (List.mem_singleton.1 h))
      · exact hR2.kid k (by omega) (by omega) h3.2
    · rw [JL.ids] at hk
      rcases List.mem_cons.1 hk with rfl | hk
      · rw [(hR2.low _ (by omega)).1]
        exact hR.root _ (List.mem_singleton.2 rfl)
      · exact hR2.root k hk
    · rw [JL.ids, List.map_cons, JL.toL, List.map_cons, hd2, (hR2.low _ (by omega)).2, hd1]
theorem JO.run : ∀ (ms : JO) (hj : ms.ok) (l P Q : List S39), l = P ++ (ms.enc P.length ++ Q) → ∀ (d : Nat) (fl : List Bool) (dp : List Int), fl.length = l.length → dp.length = l.length → (∀ k : Nat, P.length ≤ k → rdOf false fl (k : Int) = false) →
    ∃ fl' dp', nodesGo l (ms.size + d) P.length fl dp = nodesGo l d (P.length + ms.size) fl' dp' ∧ Ran l P.length ms.size (ms.ids P.length) fl dp fl' dp' ∧ (ms.ids P.length).map (fun (k : Nat) => rd dp' (k : Int)) = ms.toL.map fun j => (j.depth : Int)
  | .nil, hj, l, P, Q, hl, d, fl, dp, hfl, hdp, H => by
    rw [JO.size, Nat.zero_add]
    exact ⟨fl, dp, rfl, ⟨hfl, hdp, fun k hk => ⟨rfl, rfl⟩, fun k h1 h2 _ => by omega, fun k hk => absurd hk List.not_mem_nil, fun k hk => H k (by omega)⟩, rfl⟩
  | .cons s j ms, hj, l, P, Q, hl, d, fl, dp, hfl, hdp, H => by
    rw [JO.enc, List.append_assoc] at hl
    rw [JO.ok] at hj
    rw [JO.size, Nat.add_assoc]
    have hpos := j.size_pos
    obtain ⟨fl1, dp1, e1, hR, hd1⟩ := J.run j hj.1 l P _ hl (ms.size + d) fl dp hfl hdp H
    have hlen : (P ++ j.enc P.length).length = P.length + j.size := by rw [List.length_append, j.enc_len]
    obtain ⟨fl2, dp2, e2, hR2, hd2⟩ := JO.run ms hj.2 l (P ++ j.enc P.length) Q (by rw [hlen, List.append_assoc]; exact hl) d fl1 dp1 hR.lf hR.ld (fun k hk => hR.high k (by omega))
    rw [hlen] at e2 hR2 hd2
    refine ⟨fl2, dp2, by rw [e1, e2, Nat.add_assoc], ⟨hR2.lf, hR2.ld, fun k hk => ?_, fun k h1 h2 h3 => ?_, fun k hk => ?_, fun k hk => hR2.high k (by omega)⟩, ?_⟩
    · exact ⟨(hR2.low k (by omega)).1.trans (hR.low k hk).1, (hR2.low k (by omega)).2.trans (hR.low k hk).2⟩
    · rw [JO.ids, List.mem_cons, not_or] at h3
      by_cases hk : k < P.length + j.size
      · rw [(hR2.low k hk).1]
        exact hR.kid k h1 hk (fun h => h3.1 (List.mem_singleton.1 h))
      · exact hR2.kid k (by omega) (by omega) h3.2
    · rw [JO.ids] at hk
      rcases List.mem_cons.1 hk with rfl | hk
      · rw [(hR2.low _ (by omega)).1]
        exact hR.root _ (List.mem_singleton.2 rfl)
      · exact hR2.root k hk
    · rw [JO.ids, List.map_cons, JO.toL, List.map_cons, hd2, (hR2.low _ (by omega)).2, hd1]
end
/-- The check finds nothing. -/
theorem J.check_enc (j : J) (hj : j.ok) (hd : j.depth ≤ 16) (hs : j.size ≤ 8192) : checkOf (j.enc 0) = 0 := by
  have hl := j.enc_len 0
  have hp := j.size_pos
  obtain ⟨fl, dp, e, hR, hdep⟩ := J.run j hj (j.enc 0) [] [] (by simp) 0 (List.replicate j.size false) (List.replicate j.size 0) (by rw [List.length_replicate, hl]) (by rw [List.length_replicate, hl]) (fun k _ => by
    unfold rdOf
    rw [Int.toNat_natCast, List.getD_eq_getElem?_getD, List.getElem?_replicate]
    split <;> rfl)
  rw [List.length_nil, Nat.zero_add, Nat.add_zero] at e
  rw [List.length_nil, Nat.zero_add] at hR hdep
  unfold checkOf
  rw [hl, if_neg (by omega), if_neg (by omega), e]
  show endOf j.size (some (fl, dp)) = 0
  have hall : (fl.take (j.size - 1)).contains false = false := by
    cases hc : (fl.take (j.size - 1)).contains false with
    | false => rfl
    | true =>
      exfalso
      rw [List.contains_iff_mem] at hc
      obtain ⟨i, hi, hv⟩ := List.getElem_of_mem hc
      rw [List.length_take, hR.lf, hl] at hi
      have hk := hR.kid i (Nat.zero_le _) (by omega) (fun h => by have := List.mem_singleton.1 h; omega)
      rw [List.getElem_take] at hv
      have : rdOf false fl (i : Int) = fl[i]'(by rw [hR.lf, hl]; omega) := by
        unfold rdOf
        rw [Int.toNat_natCast, List.getD_eq_getElem?_getD, List.getElem?_eq_getElem (by rw [hR.lf, hl]; omega)]
        rfl
      rw [this, hv] at hk
      cases hk
  unfold endOf
  dsimp only
  rw [hall, if_neg (by decide), if_neg]
  rw [show (j.size : Int) - 1 = ((j.size - 1 : Nat) : Int) by omega, hdep]
  omega
end Go.Proofs.YtldlkoncndlbhaaDoor.Js
set_option linter.unusedVariables false
set_option linter.unusedSimpArgs false
namespace Go.Proofs.YtldlkoncndlbhaaDoor.Js
open Go.RowKit Go.Lib Go.Proofs.YtldlkoncndlbhaaDoor.PSh Go.Proofs.YtldlkoncndlbhaaDoor.Utf Go.Proofs.YtldlkoncndlbhaaDoor.Mb Go.Proofs.YtldlkoncndlbhaaDoor.Pl Go.Proofs.YtldlkoncndlbhaaDoor.Np Go.Proofs.YtldlkoncndlbhaaDoor.Tx Go.Proofs.YtldlkoncndlbhaaDoor.Pure Go.Proofs.YtldlkoncndlbhaaDoor.Wr Go.Proofs.YtldlkoncndlbhaaDoorW.PrintWords Go.Proofs.YtldlkoncndlbhaaDoorW.PrintLast Go.Proofs.YtldlkoncndlbhaaDoorW.PrintMore
def JL.of : List J → JL
  | [] => .nil
  | j :: r => .cons j (JL.of r)
def JO.of : List ByteArray → List J → JO
  | s :: ss, j :: r => .cons s j (JO.of ss r)
  | _, _ => .nil
theorem JL.of_toL : ∀ js : List J, (JL.of js).toL = js
  | [] => rfl
  | j :: r => by rw [JL.of, JL.toL, JL.of_toL r]
theorem JO.of_toL : ∀ (ss : List ByteArray) (js : List J), ss.length = js.length → (JO.of ss js).toL = js ∧ (JO.of ss js).names = ss
  | [], [], _ => ⟨rfl, rfl⟩
  | [], _ :: _, h => by cases h
  | _ :: _, [], h => by cases h
  | s :: ss, j :: r, h => by
    obtain ⟨h1, h2⟩ := JO.of_toL ss r (by simpa using h)
    rw [JO.of, JO.toL, JO.names, h1, h2]
    exact ⟨rfl, rfl⟩
theorem JO.of_texts : ∀ (ss : List ByteArray) (js : List J), ss.length = js.length → ∀ (i : Nat) (h : i < (JO.of ss js).texts.length) (h1 : i < ss.length) (h2 : i < js.length), (JO.of ss js).texts[i] = inQuotes (ss[i]).data.toList ++ 58 :: (js[i]).txt
  | [], _, _, i, _, h1, _ => absurd h1 (Nat.not_lt_zero _)
  | _ :: _, [], h, _, _, _, _ => by cases h
  | s :: ss, j :: r, h, i, hi, h1, h2 => by
    cases i with
    | zero => rfl
    | succ i => exact JO.of_texts ss r (by simpa using h) i (by simpa [JO.of, JO.texts] using hi) (by simpa using h1) (by simpa using h2)
theorem JL.of_size : ∀ js : List J, (JL.of js).size = (js.map J.size).sum
  | [] => rfl
  | j :: r => by rw [JL.of, JL.size, JL.of_size r, List.map_cons, List.sum_cons]
theorem JO.of_size : ∀ (ss : List ByteArray) (js : List J), ss.length = js.length → (JO.of ss js).size = (js.map J.size).sum
  | [], [], _ => rfl
  | [], _ :: _, h => by cases h
  | _ :: _, [], h => by cases h
  | s :: ss, j :: r, h => by rw [JO.of, JO.size, JO.of_size ss r (by simpa using h), List.map_cons, List.sum_cons]
theorem JL.of_ok : ∀ js : List J, (∀ j ∈ js, j.ok) → (JL.of js).ok
  | [], _ => trivial
  | j :: r, h => ⟨h j (List.mem_cons_self ..), JL.of_ok r fun x hx => h x (List.mem_cons_of_mem _ hx)⟩
theorem JO.of_ok : ∀ (ss : List ByteArray) (js : List J), (∀ j ∈ js, j.ok) → (JO.of ss js).ok
  | [], _, _ => trivial
  | _ :: _, [], _ => trivial
  | s :: ss, j :: r, h => ⟨h j (List.mem_cons_self ..), JO.of_ok ss r fun x hx => h x (List.mem_cons_of_mem _ hx)⟩
/-- The value that stands at a place, of its kids. -/
def absOf (g : Int → J) (x : S39) : J :=
  if x.f0 = 1 then .null else if x.f0 = 2 then .bool x.f1 else if x.f0 = 3 then .num x.f2 else if x.f0 = 4 then .str x.f3
  else if x.f0 = 5 then .list (JL.of (x.f5.map g)) else .obj (JO.of x.f4 (x.f5.map g))
def absJ (l : List S39) : Nat → Int → J
  | 0, _ => .null
  | f + 1, a => absOf (absJ l f) (rd_T39 l a)
theorem absOf_congr (g h : Int → J) (x : S39) (e : ∀ k ∈ x.f5, g k = h k) : absOf g x = absOf h x := by
  unfold absOf
  rw [List.map_congr_left e]
theorem mem_rd {x : List Int} {k : Int} (h : k ∈ x) : ∃ i : Nat, i < x.length ∧ rd x (i : Int) = k := by
  obtain ⟨i, hi, e⟩ := List.getElem_of_mem h
  exact ⟨i, hi, by rw [rd_nat x i hi, e]⟩
theorem tree_kid {l : List S39} (ht : Tree l) {a : Int} (h0 : 0 ≤ a) (h1 : a < l.length) {k : Int} (hk : k ∈ (rd_T39 l a).f5) : 0 ≤ k ∧ k < a := by
  obtain ⟨i, hi, rfl⟩ := mem_rd hk
  exact (ht a h0 h1).2 i hi
theorem absJ_stable (l : List S39) (ht : Tree l) : ∀ (f g : Nat) (a : Int), 0 ≤ a → a < l.length → a.toNat < f → a.toNat < g → absJ l f a = absJ l g a
  | 0, g, a, h0, h1, h2, h3 => by omega
  | f + 1, 0, a, h0, h1, h2, h3 => by omega
  | f + 1, g + 1, a, h0, h1, h2, h3 => by
    rw [absJ, absJ]
    refine absOf_congr _ _ _ fun k hk => ?_
    obtain ⟨k0, k1⟩ := tree_kid ht h0 h1 hk
    exact absJ_stable l ht f g k k0 (by omega) (by omega) (by omega)
/-! What a plain value is -/
theorem plain_leaf {x : S39} (h : plainOf x = true) (h5 : x.f0 < 5) : x.f5 = [] := by
  rcases plain_kind h with k | k | k | k | k | k
  · unfold plainOf plainB at h
    split at h
    · simp only [Bool.and_eq_true, beq_iff_eq] at h
      exact List.eq_nil_of_length_eq_zero h.1.1.1.2
    · cases h
  · unfold plainOf plainB at h
    split at h
    · rw [if_neg (by omega)] at h
      simp only [Bool.and_eq_true, beq_iff_eq] at h
      exact List.eq_nil_of_length_eq_zero h.1.1.2
    · cases h
  · unfold plainOf plainB at h
    split at h
    · rw [if_neg (by omega), if_neg (by omega), if_pos k.1] at h
      simp only [Bool.and_eq_true, beq_iff_eq] at h
      exact List.eq_nil_of_length_eq_zero h.1.1.1.2
    · cases h
  · unfold plainOf plainB at h
    split at h
    · rw [if_neg (by omega), if_neg (by omega), if_neg (by omega)] at h
      simp only [Bool.and_eq_true, beq_iff_eq] at h
      exact List.eq_nil_of_length_eq_zero h.1.1.1.2
    · cases h
  · omega
  · omega
theorem plain_str {x : S39} (h : plainOf x = true) (k : x.f0 = 4) : utf x.f3.data.toList = true := by
  unfold plainOf plainB at h
  split at h
  · rw [if_neg (by omega), if_neg (by omega), if_neg (by omega)] at h
    simp only [Bool.and_eq_true] at h
    exact h.2
  · cases h
theorem plain_names {x : S39} (h : plainOf x = true) : namesGo [] x.f4 = true := by
  unfold plainOf plainB at h
  split at h
  · assumption
  · cases h
/-! The tree as it is meant -/
theorem absJ_txt (l : List S39) (ht : Tree l) : ∀ (f : Nat) (a : Int), 0 ≤ a → a < l.length → a.toNat < f → txt l f a = (absJ l f a).txt ∧ (absJ l f a).ok
  | 0, a, h0, h1, h2 => by omega
  | f + 1, a, h0, h1, h2 => by
    have hp := (ht a h0 h1).1
    have ih : ∀ k ∈ (rd_T39 l a).f5, txt l f k = (absJ l f k).txt ∧ (absJ l f k).ok := fun k hk => by
      obtain ⟨k0, k1⟩ := tree_kid ht h0 h1 hk
      exact absJ_txt l ht f k k0 (by omega) (by omega)
    rw [txt_succ, absJ]
    generalize rd_T39 l a = x at *
    unfold absOf
    rcases plain_kind hp with k | k | k | k | k | k
    · rw [txtOf_1 _ _ k, if_pos k]
      exact ⟨by rw [J.txt], trivial⟩
    · rw [txtOf_2 _ _ k, if_neg (show ¬ x.f0 = 1 by omega), if_pos k]
      exact ⟨by rw [J.txt], trivial⟩
    · rw [txtOf_3 _ _ k.1, if_neg (by omega), if_neg (by omega), if_pos k.1]
      exact ⟨by rw [J.txt], k.2⟩
    · rw [txtOf_4 _ _ k, if_neg (by omega), if_neg (by omega), if_neg (by omega), if_pos k]
      exact ⟨by rw [J.txt], plain_str hp k⟩
    · rw [txtOf_5 _ _ k, if_neg (by omega), if_neg (by omega), if_neg (by omega), if_neg (by omega), if_pos k]
      refine ⟨?_, JL.of_ok _ fun j hj => ?_⟩
      · rw [J.txt_list, JL.of_toL, joined_glue _ ((x.f5.map (absJ l f)).map J.txt) _ (by rw [List.length_map, List.length_map]) (fun i h => by
          rw [List.length_map, List.length_map] at h
          rw [List.getElem_map, List.getElem_map, rd_nat _ _ h]
          exact (ih _ (List.getElem_mem h)).1)]
        simp
      · obtain ⟨k', hk', rfl⟩ := List.mem_map.1 hj
        exact (ih k' hk').2
    · rw [txtOf_6 _ _ k.1, if_neg (by omega), if_neg (by omega), if_neg (by omega), if_neg (by omega), if_neg (by omega)]
      have hlen : x.f4.length = (x.f5.map (absJ l f)).length := by rw [List.length_map]; exact k.2
      obtain ⟨e1, e2⟩ := JO.of_toL x.f4 _ hlen
      refine ⟨?_, JO.of_ok _ _ fun j hj => ?_, ?_⟩
      · rw [J.txt_obj, joined_glue _ (JO.of x.f4 (x.f5.map (absJ l f))).texts _ (by rw [JO.texts_len, e1, List.length_map]) (fun i h => by
          have h' : i < x.f5.length := by rw [JO.texts_len, e1, List.length_map] at h; exact h
          have h4 : i < x.f4.length := by rw [k.2]; exact h'
          rw [JO.of_texts x.f4 _ hlen i h h4 (by rw [List.length_map]; exact h'), List.getElem_map, rd_nat _ _ h', rdB_elem _ _ h4, (ih _ (List.getElem_mem h')).1]
          simp)]
        simp
      · obtain ⟨k', hk', rfl⟩ := List.mem_map.1 hj
        exact (ih k' hk').2
      · rw [e2]
        exact plain_names hp
theorem kids_mx (dp : List Int) (i : Nat) : ∀ (kids : List Int) (fl fl' : List Bool) (m m' : Int), kidsGo dp i fl kids m = some (fl', m') → m' = (kids.map (rd dp)).foldl mx m
  | [], fl, fl', m, m', h => by cases h; rfl
  | k :: r, fl, fl', m, m', h => by
    rw [kidsGo] at h
    split at h
    · rw [kids_mx dp i r _ fl' _ m' h]
      rfl
    · cases h
/-- Size and depth of the value at a place, of its kids'. -/
theorem absJ_node (l : List S39) (ht : Tree l) (i : Nat) (hi : i < l.length) :
    (absJ l l.length (i : Int)).size = 1 + ((rd_T39 l (i : Int)).f5.map fun k => (absJ l l.length (k.toNat : Int)).size).sum ∧
    ((absJ l l.length (i : Int)).depth : Int) = if 5 ≤ (rd_T39 l (i : Int)).f0 then ((rd_T39 l (i : Int)).f5.map fun k => ((absJ l l.length (k.toNat : Int)).depth : Int)).foldl mx 0 + 1 else ((rd_T39 l (i : Int)).f5.map fun k => ((absJ l l.length (k.toNat : Int)).depth : Int)).foldl mx 0 := by
  have hp := (ht (i : Int) (by omega) (by omega)).1
  have hk : ∀ k ∈ (rd_T39 l (i : Int)).f5, ((k.toNat : Nat) : Int) = k := fun k hk => Int.toNat_of_nonneg (tree_kid ht (by omega) (by omega) hk).1
  have e1 : ((rd_T39 l (i : Int)).f5.map fun k => (absJ l l.length (k.toNat : Int)).size) = ((rd_T39 l (i : Int)).f5.map (absJ l l.length)).map J.size := by
    rw [List.map_map]
    exact List.map_congr_left fun k h => by rw [hk k h]; rfl
  have e2 : ((rd_T39 l (i : Int)).f5.map fun k => ((absJ l l.length (k.toNat : Int)).depth : Int)) = ((rd_T39 l (i : Int)).f5.map (absJ l l.length)).map fun j => (j.depth : Int) := by
    rw [List.map_map]
    exact List.map_congr_left fun k h => by rw [hk k h]; rfl
  rw [e1, e2, absJ_stable l ht l.length (l.length + 1) (i : Int) (by omega) (by omega) (by omega) (by omega), absJ]
  generalize rd_T39 l (i : Int) = x at *
  clear e1 e2 hk
  by_cases h5 : x.f0 < 5
  · have hn := plain_leaf hp h5
    rw [hn, if_neg (by omega)]
    unfold absOf
    rcases plain_kind hp with k | k | k | k | k | k
    · rw [if_pos k]; exact ⟨rfl, rfl⟩
    · rw [if_neg (by omega), if_pos k]; exact ⟨rfl, rfl⟩
    · rw [if_neg (by omega), if_neg (by omega), if_pos k.1]; exact ⟨rfl, rfl⟩
    · rw [if_neg (by omega), if_neg (by omega), if_neg (by omega), if_pos k]; exact ⟨rfl, rfl⟩
    · omega
    · omega
  · rw [if_pos (by omega)]
    unfold absOf
    rw [if_neg (by omega), if_neg (by omega), if_neg (by omega), if_neg (by omega)]
    by_cases k : x.f0 = 5
    · rw [if_pos k]
      have hf := (JL.of (x.f5.map (absJ l l.length))).fold_mx 0
      rw [JL.of_toL] at hf
      refine ⟨by rw [J.size, JL.of_size]; omega, ?_⟩
      have hf' : ((x.f5.map (absJ l l.length)).map fun j => (j.depth : Int)).foldl mx 0 = _ := hf
      rw [hf', J.depth]
      omega
    · rw [if_neg k]
      have hlen : x.f4.length = (x.f5.map (absJ l l.length)).length := by
        rw [List.length_map]
        rcases plain_kind hp with k' | k' | k' | k' | k' | k'
        · omega
        · omega
        · omega
        · omega
        · omega
        · exact k'.2
      have hf := (JO.of x.f4 (x.f5.map (absJ l l.length))).fold_mx 0
      rw [(JO.of_toL _ _ hlen).1] at hf
      refine ⟨by rw [J.size, JO.of_size _ _ hlen]; omega, ?_⟩
      have hf' : ((x.f5.map (absJ l l.length)).map fun j => (j.depth : Int)).foldl mx 0 = _ := hf
      rw [hf', J.depth]
      omega
/-- The check counts: what is open has the size of what has been seen; the depths are the values' depths. -/
theorem nodes_abs (l : List S39) (ht : Tree l) : ∀ (d i : Nat) (fl : List Bool) (dp : List Int) (z : List Bool × List Int), nodesGo l d i fl dp = some z → i + d = l.length → fl.length = l.length → dp.length = l.length →
    openSum (fun j => (absJ l l.length (j : Int)).size) fl i = i → (∀ j : Nat, i ≤ j → rdOf false fl (j : Int) = false) → (∀ k : Nat, k < i → rd dp (k : Int) = ((absJ l l.length (k : Int)).depth : Int)) →
    openSum (fun j => (absJ l l.length (j : Int)).size) z.1 l.length = l.length ∧ (0 < d → rdOf false z.1 ((l.length - 1 : Nat) : Int) = false) ∧ (∀ k : Nat, k < l.length → rd z.2 (k : Int) = ((absJ l l.length (k : Int)).depth : Int))
  | 0, i, fl, dp, z, h, hi, hf, hd, hs, ho, hdp => by
    obtain rfl : i = l.length := by omega
    cases h
    exact ⟨hs, fun e => absurd e (Nat.lt_irrefl _), hdp⟩
  | d + 1, i, fl, dp, z, h, hi, hf, hd, hs, ho, hdp => by
    obtain ⟨hp, fl', m, hk, hn⟩ := nodes_succ l d i fl dp z h
    obtain ⟨g1, g2, g3⟩ := kids_sum (fun j => (absJ l l.length (j : Int)).size) dp i _ fl fl' 0 m hk (by omega)
    have hin := kids_in dp i _ fl fl' 0 m hk
    have hm := kids_mx dp i _ fl fl' 0 m hk
    obtain ⟨hsz, hdep⟩ := absJ_node l ht i (by omega)
    have hmd : m = ((rd_T39 l (i : Int)).f5.map fun k => ((absJ l l.length (k.toNat : Int)).depth : Int)).foldl mx 0 := by
      rw [hm]
      congr 1
      refine List.map_congr_left fun k hk' => ?_
      obtain ⟨k0, k1⟩ := hin k hk'
      have e : ((k.toNat : Nat) : Int) = k := Int.toNat_of_nonneg k0
      have := hdp k.toNat (by omega)
      rw [e] at this ⊢
      exact this
    rw [← hmd] at hdep
    have hs2 : openSum (fun j => (absJ l l.length (j : Int)).size) fl' (i + 1) = i + 1 := by
      unfold openSum at g2 hs ⊢
      rw [sumN]
      have e1 : (if rdOf false fl' (i : Int) = true then 0 else (absJ l l.length (i : Int)).size) = (absJ l l.length (i : Int)).size := by rw [g3 i (Nat.le_refl _), ho i (Nat.le_refl _), if_neg (by decide)]
      show _ + (if rdOf false fl' (i : Int) = true then 0 else (absJ l l.length (i : Int)).size) = _
      rw [e1]
      simp only at g2 hs ⊢
      omega
    have ho2 : ∀ j : Nat, i + 1 ≤ j → rdOf false fl' (j : Int) = false := fun j hj => by rw [g3 j (by omega)]; exact ho j (by omega)
    obtain ⟨r1, r2, r3⟩ := nodes_abs l ht d (i + 1) fl' _ z hn (by omega) (by omega) (by rw [List.length_set]; exact hd) hs2 ho2 (fun k hk' => by
      rw [rd_set dp i k _ (by omega)]
      by_cases e : i = k
      · subst e; rw [if_pos rfl]; exact hdep.symm
      · rw [if_neg e]; exact hdp k (by omega))
    refine ⟨r1, fun _ => ?_, r3⟩
    by_cases hd0 : 0 < d
    · exact r2 hd0
    · obtain rfl : d = 0 := by omega
      cases hn
      rw [g3 _ (by omega)]
      exact ho _ (by omega)
theorem check_end (l : List S39) (h : checkOf l = 0) : 0 < l.length ∧ l.length ≤ 8192 ∧ ∃ z, nodesGo l l.length 0 (List.replicate l.length false) (List.replicate l.length 0) = some z ∧ rd z.2 ((l.length : Int) - 1) ≤ 16 := by
  obtain ⟨h0, h1, z, hz⟩ := check_nodes l h
  refine ⟨h0, h1, z, hz, ?_⟩
  unfold checkOf at h
  rw [if_neg (by omega), if_neg (by omega), hz] at h
  unfold endOf at h
  dsimp only at h
  split at h
  · cases h
  · split at h
    · cases h
    · omega
/-- A tree that passes the check. -/
theorem check_abs (l : List S39) (h : checkOf l = 0) : ∃ j : J, j.ok ∧ j.depth ≤ 16 ∧ j.size ≤ 8192 ∧ Wr.textOf l = j.txt := by
  have ht := check_tree l h
  obtain ⟨h0, h1, z, hz, hd⟩ := check_end l h
  obtain ⟨r1, r2, r3⟩ := nodes_abs l ht _ 0 _ _ z hz (by omega) List.length_replicate List.length_replicate rfl (fun j _ => by
    unfold rdOf
    rw [Int.toNat_natCast, List.getD_eq_getElem?_getD, List.getElem?_replicate]
    split <;> rfl) (fun k hk => by omega)
  have e : (l.length : Int) - 1 = ((l.length - 1 : Nat) : Int) := by omega
  obtain ⟨ht1, hok⟩ := absJ_txt l ht l.length ((l.length - 1 : Nat) : Int) (by omega) (by omega) (by omega)
  refine ⟨absJ l l.length ((l.length - 1 : Nat) : Int), hok, ?_, ?_, ?_⟩
  · rw [e, r3 (l.length - 1) (by omega)] at hd
    omega
  · have h2 := sumN_one (fun j => if rdOf false z.1 (j : Int) = true then 0 else (absJ l l.length (j : Int)).size) l.length (l.length - 1) (by omega)
    have e1 : (if rdOf false z.1 ((l.length - 1 : Nat) : Int) = true then 0 else (absJ l l.length ((l.length - 1 : Nat) : Int)).size) = (absJ l l.length ((l.length - 1 : Nat) : Int)).size := by rw [r2 h0, if_neg (by decide)]
    have h3 := Nat.le_trans (Nat.le_of_eq e1.symm) h2
    have r1' : sumN (fun j => if rdOf false z.1 (j : Int) = true then 0 else (absJ l l.length (j : Int)).size) l.length = l.length := r1
    omega
  · unfold Wr.textOf
    rw [e]
    exact ht1
/-- What is printed of a checked tree is read as a tree that is printed so. -/
theorem read_back (l : List S39) (h : checkOf l = 0) (hl : (Wr.textOf l).length ≤ 65536) : ∃ u, parse (Wr.textOf l) = .ok [] 0 u ∧ checkOf u = 0 ∧ Wr.textOf u = Wr.textOf l ∧ 0 < u.length ∧ u.length ≤ 8192 := by
  obtain ⟨j, hj, hd, hs, e⟩ := check_abs l h
  rw [e] at hl ⊢
  have hp := j.size_pos
  exact ⟨j.enc 0, j.parse_txt hj hl hd hs, j.check_enc hj hd hs, j.textOf_enc, by rw [j.enc_len]; omega, by rw [j.enc_len]; exact hs⟩
end Go.Proofs.YtldlkoncndlbhaaDoor.Js
set_option linter.unusedVariables false
set_option linter.unusedSimpArgs false
namespace Go.Proofs.YtldlkoncndlbhaaDoor.Js
open Go.RowKit Go.Lib Go.Proofs.YtldlkoncndlbhaaDoor.PSh Go.Proofs.YtldlkoncndlbhaaDoor.Np
/-- What a tree costs. -/
def C (t : List S39) : Nat := (t.map Rd.cost).sum
theorem C_snoc (t : List S39) (v : S39) : C (t ++ [v]) = C t + Rd.cost v := by unfold C; rw [List.map_append, List.sum_append]; simp
def NC (ns : List ByteArray) : Nat := (ns.map fun s => s.size + 1).sum
theorem NC_snoc (ns : List ByteArray) (s : ByteArray) : NC (ns ++ [s]) = NC ns + (s.size + 1) := by unfold NC; rw [List.map_append, List.sum_append]; simp
theorem here_len {l : List UInt8} {p : Nat} {l1 : List UInt8} {q : Nat} {c : UInt8} (h : here l p = .ok l1 q c) : l1.length ≤ l.length ∧ ∃ r, l1 = c :: r := by
  rcases here_cases l p with ⟨c', r, e, _, hl⟩ | ⟨e, _, _⟩
  · rw [e] at h; cases h; exact ⟨by rw [List.length_cons]; omega, r, rfl⟩
  · rw [e] at h; cases h
theorem word_len : ∀ (v l : List UInt8) (p : Nat) {l' : List UInt8} {q : Nat} {u : Unit}, word v l p = .ok l' q u → l'.length + v.length = l.length
  | [], l, p, _, _, _, h => by cases h; rfl
  | c :: v, [], p, _, _, _, h => by cases h
  | c :: v, x :: l, p, _, _, _, h => by
    rw [word_cons] at h
    split at h
    · have := word_len v l (p + 1) h
      rw [List.length_cons, List.length_cons]; omega
    · cases h
theorem hex_len : ∀ (k : Nat) (l : List UInt8) (p fr n : Nat) {l' : List UInt8} {q m : Nat}, hex k l p fr n = .ok l' q m → l'.length + k = l.length
  | 0, l, p, fr, n, _, _, _, h => by rw [hex] at h; cases h; rfl
  | k + 1, [], p, fr, n, _, _, _, h => by cases h
  | k + 1, c :: r, p, fr, n, _, _, _, h => by
    rw [hex] at h
    cases hd : digit c with
    | none => rw [hd] at h; cases h
    | some d =>
      rw [hd] at h
      have := hex_len k r (p + 1) fr _ h
      rw [List.length_cons]; omega
theorem mark_small (c : UInt8) (n : Nat) (h : mark c = some n) : n < 128 := by
  unfold mark at h
  split at h
  · rename_i hc
    cases h
    rcases hc with rfl | rfl | rfl <;> decide
  · split at h
    · cases h; decide
    · split at h
      · cases h; decide
      · split at h
        · cases h; decide
        · split at h
          · cases h; decide
          · split at h
            · cases h; decide
            · cases h
theorem half_len (l : List UInt8) (p fr : Nat) {l' : List UInt8} {q n : Nat} (h : half l p fr = .ok l' q n) : (n < 128 ∧ l'.length + 2 ≤ l.length) ∨ l'.length + 6 ≤ l.length := by
  match l, h with
  | [], h => cases h
  | [_], h => cases h
  | a :: c :: r, h =>
    unfold half at h
    dsimp only at h
    cases hm : mark c with
    | some m =>
      rw [hm] at h
      cases h
      exact .inl ⟨mark_small c n hm, by rw [List.length_cons, List.length_cons]; omega⟩
    | none =>
      rw [hm] at h
      dsimp only at h
      split at h
      · have := hex_len 4 r _ _ _ h
        exact .inr (by rw [List.length_cons, List.length_cons]; omega)
      · cases h
theorem enc_len_le (n : Nat) : (encodeRune (n : Int)).length ≤ 4 := by unfold encodeRune; rw [List.length_map]; exact (encodeRuneZ_length _).2
theorem enc_len_one (n : Nat) (h : n < 128) : (encodeRune (n : Int)).length = 1 := by
  unfold encodeRune
  rw [encodeRuneZ_one (by omega) (by omega)]
  rfl
theorem escape_len (l : List UInt8) (p : Nat) {l' : List UInt8} {q n : Nat} (h : escape l p = .ok l' q n) : (encodeRune (n : Int)).length + l'.length ≤ l.length := by
  have h4 := enc_len_le n
  unfold escape at h
  cases hh : half l p p with
  | no a b => rw [hh] at h; cases h
  | ok l1 p1 x =>
    have hl := half_len l p p hh
    rw [hh, R.bind_ok] at h
    split at h
    · cases h
    · split at h
      · cases h
        rcases hl with ⟨hn, hl⟩ | hl
        · rw [enc_len_one n hn]; omega
        · omega
      · rename_i h1 h2
        split at h
        · cases hh2 : half l1 p1 p with
          | no a b => rw [hh2] at h; cases h
          | ok l2 p2 y =>
            have hl2 := half_len l1 p1 p hh2
            rw [hh2, R.bind_ok] at h
            split at h
            · cases h
            · cases h
              rcases hl with ⟨hn, hl⟩ | hl
              · omega
              · rcases hl2 with ⟨hn, hl2⟩ | hl2 <;> omega
        · cases h
theorem textGo_len : ∀ (f : Nat) (l : List UInt8) (p : Nat) (out : List UInt8) {l' : List UInt8} {q : Nat} {s : List UInt8}, textGo f l p out = .ok l' q s → s.length + l'.length + 1 ≤ out.length + l.length
  | 0, l, p, out, _, _, _, h => by cases h
  | f + 1, [], p, out, _, _, _, h => by cases h
  | f + 1, c :: r, p, out, _, _, _, h => by
    rw [textGo_cons] at h
    split at h
    · cases h; rw [List.length_cons]; omega
    · split at h
      · cases h
      · split at h
        · cases he : escape (c :: r) p with
          | no a b => rw [he] at h; cases h
          | ok l1 p1 n =>
            rw [he, R.bind_ok] at h
            have h1 := escape_len _ _ he
            have h2 := textGo_len f l1 p1 _ h
            rw [List.length_append] at h2
            omega
        · split at h
          · cases h
          · have h2 := textGo_len f _ _ _ h
            rw [List.length_append, List.length_take, List.length_drop] at h2
            omega
theorem text_len' (l : List UInt8) (p : Nat) {l' : List UInt8} {q : Nat} {s : List UInt8} (h : text l p = .ok l' q s) : s.length + l'.length + 1 ≤ l.length := by
  have := textGo_len _ l p [] h
  rw [List.length_nil] at this
  omega
theorem number_len {c : UInt8} {r : List UInt8} (hc : c = 45 ∨ (48 ≤ c.toNat ∧ c.toNat ≤ 57)) (p : Nat) {l' : List UInt8} {q : Nat} {n : Int} (h : number (c :: r) p = .ok l' q n) : l'.length + 1 ≤ (c :: r).length := by
  have hb : numByte c = true := by
    unfold numByte
    rcases hc with rfl | ⟨h1, h2⟩
    · rfl
    · rw [decide_eq_true h1, decide_eq_true h2]; simp
  have hn : 1 ≤ numLen (c :: r) := by rw [numLen, if_pos hb]; omega
  unfold number at h
  split at h
  · cases h
    have hle := numLen_le (c :: r)
    rw [List.length_drop]
    rw [List.length_cons] at hle ⊢
    omega
  · cases h
theorem put_len {t : List S39} {fr : Nat} {v : S39} {l : List UInt8} {p : Nat} {l' : List UInt8} {q : Nat} {x : List S39 × Int} (h : put t fr v l p = .ok l' q x) : l' = l ∧ C x.1 = C t + Rd.cost v := by
  unfold put at h
  split at h
  · cases h
  · cases h; exact ⟨rfl, C_snoc t v⟩
def CV (f : Nat) : Prop := ∀ deep l p t l' q x, value f deep l p t = .ok l' q x → C x.1 + l'.length ≤ C t + l.length
def CL (f : Nat) : Prop := ∀ deep fr kids l p t l' q x, list f deep fr kids l p t = .ok l' q x → C x.1 + l'.length ≤ C t + l.length + kids.length + 1
def CO (f : Nat) : Prop := ∀ deep fr names kids l p t l' q x, object f deep fr names kids l p t = .ok l' q x → C x.1 + l'.length ≤ C t + l.length + kids.length + NC names + 1
theorem cost_leaf (f0 : Int) (f1 : Bool) (f2 : Int) (s : ByteArray) : Rd.cost ⟨f0, f1, f2, s, [], []⟩ = 1 + s.size := by unfold Rd.cost; simp
theorem cost_node (f0 : Int) (ns : List ByteArray) (ks : List Int) : Rd.cost ⟨f0, false, 0, ⟨#[]⟩, ns, ks⟩ = 1 + NC ns + ks.length := by
  unfold Rd.cost NC
  show 1 + 0 + (ns.map fun s => s.size + 1).sum + ks.length = 1 + (ns.map fun s => s.size + 1).sum + ks.length
  omega
theorem str_len (s : List UInt8) : (str s).size = s.length := by
  show s.toArray.size = _
  simp
theorem cost_value (f : Nat) (hl : CL f) (ho : CO f) : CV (f + 1) := by
  intro deep l0 p0 t l' q x h
  rw [value_succ] at h
  cases h0 : here l0 p0 with
  | no a b => rw [h0] at h; cases h
  | ok l p c =>
    rw [h0, R.bind_ok] at h
    obtain ⟨hle, r, rfl⟩ := here_len h0
    clear h0
    unfold valueOn at h
    split at h
    · cases hw : word [110, 117, 108, 108] (c :: r) p with
      | no a b => rw [hw] at h; cases h
      | ok l1 p1 u =>
        rw [hw, R.bind_ok] at h
        have := word_len _ _ _ hw
        obtain ⟨rfl, e⟩ := put_len h
        rw [cost_leaf] at e
        have : (⟨#[]⟩ : ByteArray).size = 0 := rfl
        simp only [List.length_cons, List.length_nil] at *
        omega
    split at h
    · cases hw : word [116, 114, 117, 101] (c :: r) p with
      | no a b => rw [hw] at h; cases h
      | ok l1 p1 u =>
        rw [hw, R.bind_ok] at h
        have := word_len _ _ _ hw
        obtain ⟨rfl, e⟩ := put_len h
        rw [cost_leaf] at e
        have : (⟨#[]⟩ : ByteArray).size = 0 := rfl
        simp only [List.length_cons, List.length_nil] at *
        omega
    split at h
    · cases hw : word [102, 97, 108, 115, 101] (c :: r) p with
      | no a b => rw [hw] at h; cases h
      | ok l1 p1 u =>
        rw [hw, R.bind_ok] at h
        have := word_len _ _ _ hw
        obtain ⟨rfl, e⟩ := put_len h
        rw [cost_leaf] at e
        have : (⟨#[]⟩ : ByteArray).size = 0 := rfl
        simp only [List.length_cons, List.length_nil] at *
        omega
    split at h
    · rw [List.tail_cons] at h
      cases hw : text r (p + 1) with
      | no a b => rw [hw] at h; cases h
      | ok l1 p1 s =>
        rw [hw, R.bind_ok] at h
        have := text_len' _ _ hw
        obtain ⟨rfl, e⟩ := put_len h
        rw [cost_leaf, str_len] at e
        rw [List.length_cons] at hle
        omega
    split at h
    · rename_i hc
      cases hw : number (c :: r) p with
      | no a b => rw [hw] at h; cases h
      | ok l1 p1 n =>
        rw [hw, R.bind_ok] at h
        have := number_len hc _ hw
        obtain ⟨rfl, e⟩ := put_len h
        rw [cost_leaf] at e
        have : (⟨#[]⟩ : ByteArray).size = 0 := rfl
        omega
    split at h
    case isFalse => cases h
    split at h
    · cases h
    rw [List.length_cons] at hle
    split at h
    · unfold listF at h
      rw [List.tail_cons] at h
      cases h1 : here r (p + 1) with
      | no a b => rw [h1] at h; cases h
      | ok k q1 c1 =>
        rw [h1, R.bind_ok] at h
        obtain ⟨hk, r1, rfl⟩ := here_len h1
        split at h
        · obtain ⟨e1, e⟩ := put_len h
          rw [List.tail_cons] at e1
          subst e1
          rw [cost_leaf] at e
          have : (⟨#[]⟩ : ByteArray).size = 0 := rfl
          rw [List.length_cons] at hk
          omega
        · have := hl _ _ _ _ _ _ _ _ _ h
          rw [List.length_nil] at this
          omega
    · unfold objectF at h
      rw [List.tail_cons] at h
      cases h1 : here r (p + 1) with
      | no a b => rw [h1] at h; cases h
      | ok k q1 c1 =>
        rw [h1, R.bind_ok] at h
        obtain ⟨hk, r1, rfl⟩ := here_len h1
        split at h
        · obtain ⟨e1, e⟩ := put_len h
          rw [List.tail_cons] at e1
          subst e1
          rw [cost_leaf] at e
          have : (⟨#[]⟩ : ByteArray).size = 0 := rfl
          rw [List.length_cons] at hk
          omega
        · have := ho _ _ _ _ _ _ _ _ _ _ h
          have hz : NC [] = 0 := rfl
          rw [List.length_nil, hz] at this
          omega
theorem cost_list (f : Nat) (hv : CV f) (hl : CL f) : CL (f + 1) := by
  intro deep fr kids l p t l' q x h
  rw [list_succ] at h
  cases he : value f (deep + 1) l p t with
  | no a b => rw [he] at h; cases h
  | ok l1 p1 v =>
    rw [he, R.bind_ok] at h
    have h1 := hv _ _ _ _ _ _ _ he
    cases hm : more 93 l1 p1 with
    | no a b => rw [hm] at h; cases h
    | ok l2 p2 d =>
      rw [hm, R.bind_ok] at h
      have h2 := more_adv _ _ _ hm
      cases d with
      | true =>
        rw [if_pos rfl] at h
        obtain ⟨rfl, e⟩ := put_len h
        have hz : NC [] = 0 := rfl
        rw [cost_node, hz, List.length_append, List.length_singleton] at e
        omega
      | false =>
        rw [if_neg (by decide)] at h
        have := hl _ _ _ _ _ _ _ _ _ h
        rw [List.length_append, List.length_singleton] at this
        omega
theorem cost_object (f : Nat) (hv : CV f) (ho : CO f) : CO (f + 1) := by
  intro deep fr names kids l p t l' q x h
  rw [object_succ] at h
  cases h0 : here l p with
  | no a b => rw [h0] at h; cases h
  | ok k0 q0 c0 =>
    rw [h0, R.bind_ok] at h
    obtain ⟨hk0, r0, rfl⟩ := here_len h0
    rw [List.length_cons] at hk0
    split at h
    case isFalse => cases h
    case isTrue =>
      rw [List.tail_cons] at h
      cases h1 : text r0 (q0 + 1) with
      | no a b => rw [h1] at h; cases h
      | ok k1 q1 s =>
        rw [h1, R.bind_ok] at h
        have hs := text_len' _ _ h1
        split at h
        case isTrue => cases h
        case isFalse =>
          cases h2 : here k1 q1 with
          | no a b => rw [h2] at h; cases h
          | ok k2 q2 c2 =>
            rw [h2, R.bind_ok] at h
            obtain ⟨hk2, r2, rfl⟩ := here_len h2
            rw [List.length_cons] at hk2
            split at h
            case isFalse => cases h
            case isTrue =>
              rw [List.tail_cons] at h
              cases he : value f (deep + 1) r2 (q2 + 1) t with
              | no a b => rw [he] at h; cases h
              | ok l1 p1 v =>
                rw [he, R.bind_ok] at h
                have hv1 := hv _ _ _ _ _ _ _ he
                cases hm : more 125 l1 p1 with
                | no a b => rw [hm] at h; cases h
                | ok l2 p2 d =>
                  rw [hm, R.bind_ok] at h
                  have hm1 := more_adv _ _ _ hm
                  cases d with
                  | true =>
                    rw [if_pos rfl] at h
                    obtain ⟨rfl, e⟩ := put_len h
                    rw [cost_node, NC_snoc, str_len, List.length_append, List.length_singleton] at e
                    omega
                  | false =>
                    rw [if_neg (by decide)] at h
                    have := ho _ _ _ _ _ _ _ _ _ _ h
                    rw [NC_snoc, str_len, List.length_append, List.length_singleton] at this
                    omega
theorem cost_all : ∀ f, CV f ∧ CL f ∧ CO f
  | 0 => ⟨fun _ _ _ _ _ _ _ h => by rw [value] at h; (cases h), fun _ _ _ _ _ _ _ _ _ h => by rw [list] at h; (cases h), fun _ _ _ _ _ _ _ _ _ _ h => by rw [object] at h; (cases h)⟩
  | f + 1 => by
    obtain ⟨hv, hl, ho⟩ := cost_all f
    exact ⟨cost_value f hl ho, cost_list f hv hl, cost_object f hv ho⟩
/-- What is read costs no more than its text. -/
theorem parse_cost (b : List UInt8) {l : List UInt8} {p : Nat} {t : List S39} (h : parse b = .ok l p t) : (t.map Rd.cost).sum ≤ b.length := by
  unfold parse at h
  split at h
  · cases h
  · cases hv : value (2 * b.length + 2) 0 b 0 [] with
    | no a c => rw [hv] at h; cases h
    | ok l1 q v =>
      rw [hv, R.bind_ok] at h
      have := (cost_all _).1 _ _ _ _ _ _ _ hv
      split at h
      · cases h
        have hz : C [] = 0 := rfl
        rw [hz] at this
        show C v.1 ≤ _
        omega
      · cases h
end Go.Proofs.YtldlkoncndlbhaaDoor.Js
set_option linter.unusedVariables false
set_option linter.unusedSimpArgs false
namespace Go.Proofs.YtldlkoncndlbhaaDoor.Js
open Go.RowKit Go.Lib Go.Proofs.YtldlkoncndlbhaaDoor.PSh Go.Proofs.YtldlkoncndlbhaaDoor.Np
section
variable {α β : Type} {x : List UInt8}
/-- What is read is read with more bytes behind too. -/
def Ext (x : List UInt8) (r r' : R α) : Prop := ∀ l q v, r = .ok l q v → r' = .ok (l ++ x) q v
/-- The same, where something is left. -/
def Exl (x : List UInt8) (r r' : R α) : Prop := ∀ l q v, l ≠ [] → r = .ok l q v → r' = .ok (l ++ x) q v
end
section
variable (x : List UInt8)
end
end Go.Proofs.YtldlkoncndlbhaaDoor.Js
set_option linter.unusedVariables false
set_option linter.unusedSimpArgs false
namespace Go.Proofs.YtldlkoncndlbhaaDoor.Js
open Go.RowKit Go.Lib Go.Proofs.YtldlkoncndlbhaaDoor.PSh Go.Proofs.YtldlkoncndlbhaaDoor.Np
/-- What is left is an end of what was given. -/
def Sfx {α : Type} (l : List UInt8) (r : R α) : Prop := ∀ l' q v, r = .ok l' q v → l' <:+ l
section
variable {α β : Type} {l : List UInt8}
end
/-! The bracket behind -/
/-- Behind a bracket that closes. -/
def Closed {α : Type} (l : List UInt8) (r : R α) : Prop := ∀ l' q v, r = .ok l' q v → ∃ c, (c = 93 ∨ c = 125) ∧ c :: l' <:+ l
end Go.Proofs.YtldlkoncndlbhaaDoor.Js
set_option linter.unusedVariables false
set_option linter.unusedSimpArgs false
namespace Go.Proofs.YtldlkoncndlbhaaDoor.Js
open Go.RowKit Go.Lib Go.Proofs.YtldlkoncndlbhaaDoor.PSh Go.Proofs.YtldlkoncndlbhaaDoorW.PrintWords Go.Proofs.YtldlkoncndlbhaaDoorW.PrintLast Go.Proofs.YtldlkoncndlbhaaDoorW.PrintMore
def boxOf (f0 : Int) (v4 v5 : Value) : Array Value := #[.int .i64 f0, .bool false, .int .i64 0, .string ⟨#[]⟩, v4, v5]
structure LSt (w0 w : World) (b vb : Nat) (s : ByteArray) (p : Nat) (ok : Nat → Prop) (tv : Value) (f0 : Int) (tv' v4 v5 : Value) (names : List ByteArray) (kids : List Int) (t : List S39) (wr : World) : Prop where
  rdr : Rdr w0 b s (p : Int) (fun k => ok k ∧ k ≠ vb ∧ some k ≠ v4.ownBlock ∧ some k ≠ v5.ownBlock) tv' t wr
  box : wr.heap[vb]? = some (.cells (boxOf f0 v4 v5) 39 (0, 0))
  names_ : wr.ownsRow w.heap.size 9 1 v4 names.length (encs Value.string names)
  kids_ : wr.ownsRow w.heap.size 3 1 v5 kids.length (encs (Value.int .i64) kids)
  keep : KeepBut w wr b tv.ownBlock
  row : Row w tv tv'
  hvb : w.heap.size ≤ vb
  hb : b < w.heap.size
  hw0 : w0.heap.size ≤ w.heap.size
  fresh : ∀ k, w.heap.size ≤ k → ok k
section
variable {w0 w wr w' : World} {b vb : Nat} {s : ByteArray} {p : Nat} {ok : Nat → Prop} {tv : Value} {f0 : Int} {tv' tv'' v4 v5 v' : Value} {names : List ByteArray} {kids : List Int} {t t' : List S39}
theorem LSt.apart4 (h : LSt w0 w b vb s p ok tv f0 tv' v4 v5 names kids t wr) : ∀ k, v4.ownBlock = some k → w.heap.size ≤ k ∧ k < wr.heap.size ∧ k ≠ b ∧ k ≠ vb ∧ some k ≠ tv'.ownBlock ∧ some k ≠ v5.ownBlock := fun k hk => by
  have h1 := own_base h.names_ k hk
  obtain ⟨c1, hc1⟩ := own_typed h.names_ k hk
  refine ⟨h1, own_lt h.names_ k hk, by have := h.hb; omega, ?_, ?_, ?_⟩
  · exact blk_ne hc1 h.box (by decide)
  · exact fun e => (h.rdr.2.1 k e.symm).1.2.2.1 hk.symm
  · intro e
    obtain ⟨c2, hc2⟩ := own_typed h.kids_ k e.symm
    exact blk_ne hc1 hc2 (by decide) rfl
theorem LSt.apart5 (h : LSt w0 w b vb s p ok tv f0 tv' v4 v5 names kids t wr) : ∀ k, v5.ownBlock = some k → w.heap.size ≤ k ∧ k < wr.heap.size ∧ k ≠ b ∧ k ≠ vb ∧ some k ≠ tv'.ownBlock ∧ some k ≠ v4.ownBlock := fun k hk => by
  have h1 := own_base h.kids_ k hk
  obtain ⟨c1, hc1⟩ := own_typed h.kids_ k hk
  refine ⟨h1, own_lt h.kids_ k hk, by have := h.hb; omega, ?_, ?_, ?_⟩
  · exact blk_ne hc1 h.box (by decide)
  · exact fun e => (h.rdr.2.1 k e.symm).1.2.2.2 hk.symm
  · intro e
    obtain ⟨c2, hc2⟩ := own_typed h.names_ k e.symm
    exact blk_ne hc1 hc2 (by decide) rfl
theorem LSt.below (h : LSt w0 w b vb s p ok tv f0 tv' v4 v5 names kids t wr) (hb : Below wr.heap.size wr w') : LSt w0 w b vb s p ok tv f0 tv' v4 v5 names kids t w' :=
  ⟨h.rdr.below hb, blk_below h.box hb, own_move h.names_ (fun k hk => hb.block k (h.apart4 k hk).2.1), own_move h.kids_ (fun k hk => hb.block k (h.apart5 k hk).2.1), h.keep.trans (KeepBut.of_below hb b tv.ownBlock) (.inl rfl), h.row, h.hvb, h.hb, h.hw0, h.fresh⟩
theorem LSt.drew (h : LSt w0 w b vb s p ok tv f0 tv' v4 v5 names kids t wr) : LSt w0 w b vb s p ok tv f0 tv' v4 v5 names kids t wr.drew := h.below (below_drew (Below.refl _ _))
theorem LSt.vb_ne (h : LSt w0 w b vb s p ok tv f0 tv' v4 v5 names kids t wr) : vb ≠ b := by have := h.hvb; have := h.hb; omega
theorem LSt.vb_row (h : LSt w0 w b vb s p ok tv f0 tv' v4 v5 names kids t wr) : some vb ≠ tv'.ownBlock := fun e => (h.rdr.2.1 vb e.symm).1.2.1 rfl
theorem LSt.vb4 (h : LSt w0 w b vb s p ok tv f0 tv' v4 v5 names kids t wr) : some vb ≠ v4.ownBlock := fun e => (h.apart4 vb e.symm).2.2.2.1 rfl
theorem LSt.vb5 (h : LSt w0 w b vb s p ok tv f0 tv' v4 v5 names kids t wr) : some vb ≠ v5.ownBlock := fun e => (h.apart5 vb e.symm).2.2.2.1 rfl
/-- The reader alone has moved. -/
theorem LSt.moved {q : Nat} (h : LSt w0 w b vb s p ok tv f0 tv' v4 v5 names kids t wr) (hA : At w0 b s (q : Int) tv' w') (hk : KeepBut wr w' b none) : LSt w0 w b vb s q ok tv f0 tv' v4 v5 names kids t w' :=
  ⟨h.rdr.moved hA hk, hk.blk h.box h.vb_ne (by simp), own_move h.names_ (fun k hk' => hk.2 k (h.apart4 k hk').2.1 (h.apart4 k hk').2.2.1 (by simp)), own_move h.kids_ (fun k hk' => hk.2 k (h.apart5 k hk').2.1 (h.apart5 k hk').2.2.1 (by simp)), h.keep.trans (keep_none hk) (.inl rfl), h.row, h.hvb, h.hb, h.hw0, h.fresh⟩
theorem LSt.step (h : LSt w0 w b vb s p ok tv f0 tv' v4 v5 names kids t wr) : LSt w0 w b vb s (p + 1) ok tv f0 tv' v4 v5 names kids t (wr.setCell ⟨b, 1, none⟩ (.int .i64 ((p : Int) + 1))) :=
  h.moved (h.rdr.1.set1 _) ((KeepBut.refl _ _ _).set_ 1 _)
/-- What a call for a kid is given, and what it leaves. -/
theorem LSt.given (h : LSt w0 w b vb s p ok tv f0 tv' v4 v5 names kids t wr) (hp : p ≤ s.size) : Given w0 b s p (fun k => ok k ∧ k ≠ vb ∧ some k ≠ v4.ownBlock ∧ some k ≠ v5.ownBlock) tv' t wr :=
  ⟨h.rdr, fun k hk => ⟨h.fresh k (Nat.le_trans h.keep.1 hk), fun e => by have := blk_lt h.box; omega, fun e => by have := (h.apart4 k e.symm).2.1; omega, fun e => by have := (h.apart5 k e.symm).2.1; omega⟩, hp⟩
theorem LSt.grewn {q : Nat} (h : LSt w0 w b vb s p ok tv f0 tv' v4 v5 names kids t wr) (hg : Grew w0 b s q (fun k => ok k ∧ k ≠ vb ∧ some k ≠ v4.ownBlock ∧ some k ≠ v5.ownBlock) tv' t' wr w') : ∃ tv'', LSt w0 w b vb s q ok tv f0 tv'' v4 v5 names kids t' w' := by
  obtain ⟨tv'', hR, hK, hW⟩ := hg
  exact ⟨tv'', hR, hK.blk h.box h.vb_ne h.vb_row, own_move h.names_ (fun k hk' => hK.2 k (h.apart4 k hk').2.1 (h.apart4 k hk').2.2.1 (h.apart4 k hk').2.2.2.2.1), own_move h.kids_ (fun k hk' => hK.2 k (h.apart5 k hk').2.1 (h.apart5 k hk').2.2.1 (h.apart5 k hk').2.2.2.2.1), keep_trans h.keep hK h.row, h.row.trans hW h.keep.1, h.hvb, h.hb, h.hw0, h.fresh⟩
/-- A kid more. -/
theorem LSt.kidded {w1 : World} {v1 : Value} {kids' : List Int} (h : LSt w0 w b vb s p ok tv f0 tv' v4 v5 names kids t wr) (ho : w1.ownsRow w.heap.size 3 1 v1 kids'.length (encs (Value.int .i64) kids'))
    (hg : wr.grownBy w1 v5.ownBlock) (hat : v1.ownBlock = v5.ownBlock ∨ ∃ k, v1.ownBlock = some k ∧ wr.heap.size ≤ k) : LSt w0 w b vb s p ok tv f0 tv' v4 v1 names kids' t (w1.setCell ⟨vb, 5, none⟩ v1) := by
  have hvl := blk_lt h.box
  have hv1 : some vb ≠ v1.ownBlock := by
    rcases hat with e | ⟨k, e, hk⟩
    · rw [e]; exact h.vb5
    · rw [e]; intro e2; injection e2 with e2; omega
  have hA : At w0 b s (p : Int) tv' (w1.setCell ⟨vb, 5, none⟩ v1) := by
    have hA1 := h.rdr.1.grown hg (fun g hg' => ⟨(h.apart5 g hg').2.2.1, by have := (h.apart5 g hg').1; have := h.hw0; omega⟩)
    exact ⟨hA1.1, hA1.2.1.setCell (show w0.heap.size ≤ vb by have := h.hvb; have := h.hw0; omega) _, blk_far hA1.2.2 (fun e => h.vb_ne e.symm) _⟩
  refine ⟨⟨hA, ?_⟩, ?_, ?_, own_setCell ho hv1 _, ?_, h.row, h.hvb, h.hb, h.hw0, h.fresh⟩
  · have h1 := Kd.R_bound h.rdr.2
    have h2 := Kd.R_move h1 (w1 := w1) (fun k hk => hg.block k hk.2.2.1 hk.1.1.2.2.2)
    refine Kd.R_mono (Kd.R_far h2 (p := ⟨vb, 5, none⟩) (fun k hk => hk.1.1.2.1) v1) (fun k hk => ⟨⟨hk.1.1.1, hk.1.1.2.1, hk.1.1.2.2.1, ?_⟩, hk.1.2⟩)
    rcases hat with e | ⟨g, e, hg'⟩
    · rw [e]; exact hk.1.1.2.2.2
    · rw [e]; intro e2; injection e2 with e2; have := hk.2.2.1; omega
  · exact blk_put (blk_grown h.box hg h.vb5) 5 v1 rfl
  · refine own_move h.names_ (fun k hk => ?_)
    have hk4 := h.apart4 k hk
    exact (Below.heap_setCell _ _ _ _ hk4.2.2.2.1).trans (hg.block k hk4.2.1 hk4.2.2.2.2.2)
  · refine keep_far (p := ⟨vb, 5, none⟩) ⟨Nat.le_trans h.keep.1 hg.size, fun i hi hib hr => ?_⟩ h.hvb _
    rw [hg.block i (Nat.lt_of_lt_of_le hi h.keep.1) (fun e => by have := (h.apart5 i e.symm).1; omega)]
    exact h.keep.2 i hi hib hr
/-- A name more. -/
theorem LSt.named {w1 : World} {v1 : Value} {names' : List ByteArray} (h : LSt w0 w b vb s p ok tv f0 tv' v4 v5 names kids t wr) (ho : w1.ownsRow w.heap.size 9 1 v1 names'.length (encs Value.string names'))
    (hg : wr.grownBy w1 v4.ownBlock) (hat : v1.ownBlock = v4.ownBlock ∨ ∃ k, v1.ownBlock = some k ∧ wr.heap.size ≤ k) : LSt w0 w b vb s p ok tv f0 tv' v1 v5 names' kids t (w1.setCell ⟨vb, 4, none⟩ v1) := by
  have hvl := blk_lt h.box
  have hv1 : some vb ≠ v1.ownBlock := by
    rcases hat with e | ⟨k, e, hk⟩
    · rw [e]; exact h.vb4
    · rw [e]; intro e2; injection e2 with e2; omega
  have hA : At w0 b s (p : Int) tv' (w1.setCell ⟨vb, 4, none⟩ v1) := by
    have hA1 := h.rdr.1.grown hg (fun g hg' => ⟨(h.apart4 g hg').2.2.1, by have := (h.apart4 g hg').1; have := h.hw0; omega⟩)
    exact ⟨hA1.1, hA1.2.1.setCell (show w0.heap.size ≤ vb by have := h.hvb; have := h.hw0; omega) _, blk_far hA1.2.2 (fun e => h.vb_ne e.symm) _⟩
  refine ⟨⟨hA, ?_⟩, ?_, own_setCell ho hv1 _, ?_, ?_, h.row, h.hvb, h.hb, h.hw0, h.fresh⟩
  · have h1 := Kd.R_bound h.rdr.2
    have h2 := Kd.R_move h1 (w1 := w1) (fun k hk => hg.block k hk.2.2.1 hk.1.1.2.2.1)
    refine Kd.R_mono (Kd.R_far h2 (p := ⟨vb, 4, none⟩) (fun k hk => hk.1.1.2.1) v1) (fun k hk => ⟨⟨hk.1.1.1, hk.1.1.2.1, ?_, hk.1.1.2.2.2⟩, hk.1.2⟩)
    rcases hat with e | ⟨g, e, hg'⟩
    · rw [e]; exact hk.1.1.2.2.1
    · rw [e]; intro e2; injection e2 with e2; have := hk.2.2.1; omega
  · exact blk_put (blk_grown h.box hg h.vb4) 4 v1 rfl
  · refine own_move h.kids_ (fun k hk => ?_)
    have hk5 := h.apart5 k hk
    exact (Below.heap_setCell _ _ _ _ hk5.2.2.2.1).trans (hg.block k hk5.2.1 hk5.2.2.2.2.2)
  · refine keep_far (p := ⟨vb, 4, none⟩) ⟨Nat.le_trans h.keep.1 hg.size, fun i hi hib hr => ?_⟩ h.hvb _
    rw [hg.block i (Nat.lt_of_lt_of_le hi h.keep.1) (fun e => by have := (h.apart4 i e.symm).1; omega)]
    exact h.keep.2 i hi hib hr
/-- The value is put. -/
theorem LSt.put_ (h : LSt w0 w b vb s p ok tv f0 tv' v4 v5 names kids t wr) (fr : Nat) :
    Calls Tryd.prog 47 #[.pointer (some ⟨b, 0, none⟩), .agg (boxOf f0 v4 v5), .int .i64 (fr : Int)] wr (PutEnds w0 b s (p : Int) ok tv' t ⟨f0, false, 0, ⟨#[]⟩, names, kids⟩ fr wr) := by
  refine put_walk w0 wr b s (p : Int) ok (fun k => v4.ownBlock = some k ∨ v5.ownBlock = some k) tv' t ⟨f0, false, 0, ⟨#[]⟩, names, kids⟩ v4 v5 fr (h.rdr.mono (fun k hk => hk.1)) (k39_mkM _ _ _ _ (Kd.R_of_own (own_weaken h.names_ h.hw0) (fun k hk => .inl hk)) (Kd.R_of_own (own_weaken h.kids_ h.hw0) (fun k hk => .inr hk))) (fun k hk => ?_) (fun k hk => h.fresh k (Nat.le_trans h.keep.1 hk))
  rcases hk with hk | hk
  · have hk4 := h.apart4 k hk
    exact ⟨⟨h.fresh k hk4.1, hk4.2.2.1⟩, hk4.2.2.2.2.1⟩
  · have hk5 := h.apart5 k hk
    exact ⟨⟨h.fresh k hk5.1, hk5.2.2.1⟩, hk5.2.2.2.2.1⟩
theorem LSt.put_no (h : LSt w0 w b vb s p ok tv f0 tv' v4 v5 names kids t wr) (fr : Nat) (hbig : 8192 ≤ t.length) :
    Calls Tryd.prog 47 #[.pointer (some ⟨b, 0, none⟩), .agg (boxOf f0 v4 v5), .int .i64 (fr : Int)] wr fun e w' => e = halted (fr : Int) 27 ∧ Below w0.heap.size w0 w' :=
  (h.put_ fr).mono fun e w' he => by
    unfold PutEnds at he
    rw [if_pos hbig] at he
    exact he
theorem LSt.put_ok (h : LSt w0 w b vb s p ok tv f0 tv' v4 v5 names kids t wr) (fr : Nat) (hbig : ¬ 8192 ≤ t.length) :
    Calls Tryd.prog 47 #[.pointer (some ⟨b, 0, none⟩), .agg (boxOf f0 v4 v5), .int .i64 (fr : Int)] wr fun e w' => e = .returned (.int .i64 (t.length : Int)) ∧ Grew w0 b s p ok tv (t ++ [⟨f0, false, 0, ⟨#[]⟩, names, kids⟩]) w w' :=
  (h.put_ fr).mono fun e w' he => by
    unfold PutEnds at he
    rw [if_neg hbig] at he
    obtain ⟨he1, tv'', h1, h2, h3⟩ := he
    exact ⟨he1, tv'', h1, keep_trans h.keep h2 h.row, h.row.trans h3 h.keep.1⟩
/-- At the beginning: a box alone. -/
theorem LSt.start (g : Given w0 b s p ok tv t w) (hw0 : w0.heap.size ≤ w.heap.size) : LSt w0 w b w.heap.size s p ok tv f0 tv (.slice none 0 0) (.slice none 0 0) [] [] t (w.alloc (.cells (boxOf f0 (.slice none 0 0) (.slice none 0 0)) 39)) := by
  have hb := below_alloc (Below.refl w.heap.size w) (.cells (boxOf f0 (.slice none 0 0) (.slice none 0 0)) 39)
  have hx := (g.rdr.below hb)
  refine ⟨⟨hx.1, ?_⟩, blk_new w _, own_nil _ _ _ _, own_nil _ _ _ _, KeepBut.of_below hb b _, Row.refl _ _, Nat.le_refl _, g.rdr.1.lt, hw0, g.fresh⟩
  exact Kd.R_below (Kd.R_mono (Kd.R_bound g.rdr.2) (fun k hk => ⟨⟨hk.1.1, by have := hk.2.2.1; omega, by simp [Value.ownBlock], by simp [Value.ownBlock]⟩, hk.1.2⟩)) hb
end
end Go.Proofs.YtldlkoncndlbhaaDoor.Js
