/- What can be read as a tree, within the reach, is one: the step from the row's reading to the walk's. -/
import Derived.Test.YtldlkoncndlbhaaDoorShowChecks
import Derived.SliceStrings
import Derived.ChangeSlices
import Derived.Deep.Slices
import Derived.SizedLaws
import Derived.DataReads
namespace Go.Proofs.YtldlkoncndlbhaaDoor.Rd
open Go.ChangeShapes Go.WideShapes Go.RowKit Go.Proofs.YtldlkoncndlbhaaDoor.PSh Go.Proofs.YtldlkoncndlbhaaDoor.Pure Go.Proofs.YtldlkoncndlbhaaDoorW.PrintWords Go.Proofs.YtldlkoncndlbhaaDoorW.PrintLast Go.Proofs.YtldlkoncndlbhaaDoorW.PrintMore
set_option linter.unusedSimpArgs false
set_option linter.unusedVariables false

section
variable {H : Type} {enc : TypeId × Value → H} {W : World} {base : Nat} {spare : Nat → Bool} {held : Bool} {fuel : Nat} {cs : List Value} {x : DataW H × List MemPlace}
/-- Within the reach. -/
def Fits (t : TypeId) (d : DataW H) : Prop := ∀ n ∈ d.weights Tryd.prog t, n ≤ reachBytes
theorem weights_slice {t e : TypeId} (ht : Tryd.prog.underlying t = some (.slice e)) (es sp : List (DataW H)) : (DataW.slice es sp).weights Tryd.prog t = (es.length + sp.length) * Tryd.prog.bytesOf e :: (DataW.weightsAll Tryd.prog e es ++ DataW.weightsAll Tryd.prog e sp) := by
  rw [DataW.weights, ht]
theorem all_mem (e : TypeId) : ∀ (l : List (DataW H)) (d : DataW H), d ∈ l → ∀ n ∈ d.weights Tryd.prog e, n ∈ DataW.weightsAll Tryd.prog e l
  | [], _, h, _, _ => by cases h
  | y :: r, d, h, n, hn => by
    rw [DataW.weightsAll, List.mem_append]
    rcases List.mem_cons.1 h with rfl | h
    · exact .inl hn
    · exact .inr (all_mem e r d h n hn)
/-- A list of names. -/
theorem names_of (h : DataW.trod enc Tryd.prog W base spare held fuel 36 cs = some x) (hf : Fits 36 x.1) :
    ∃ (A : Option Addr) (c : Nat) (ss : List ByteArray), cs = [.slice A ss.length c] ∧ ss.length ≤ c ∧ Kd.string.C W A ss.length ss ∧ ss.length * 16 ≤ 140737488351232 ∧ ∀ s ∈ ss, s.size ≤ 140737488351232 := by
  have hb : Tryd.prog.bytesOf 9 = 16 := by kernel_rfl
  rcases open_strings Tryd.underlying36 Tryd.underlying9 (by kernel_rfl) h with ⟨rfl, rfl⟩ | ⟨a, len, cap, ss, rfl, _, hl, hm, hlen, rfl, hcell, hsz⟩
  · exact ⟨none, 0, [], rfl, Nat.le_refl _, Kd.C_nil _ _, by decide, fun s hs => by cases hs⟩
  · have hls : len ≤ ss.length := by rw [hlen]; split <;> omega
    have hlt : (ss.take len).length = len := by rw [List.length_take]; omega
    unfold Fits at hf
    rw [weights_slice Tryd.underlying36, hb] at hf
    have h1 := hf _ (List.mem_cons_self ..)
    have hs1 : (strs (H := H) (ss.take len)).length = len := by unfold strs; rw [List.length_map, hlt]
    refine ⟨some a, cap, ss.take len, by rw [hlt], by rw [hlt]; exact hl, ?_, ?_, fun s hs => ?_⟩
    · rw [hlt]
      refine ⟨hlt, by unfold maxLen at hm; omega, fun hp => ⟨a, rfl, fun j p hj => ⟨[.string p], rfl, rfl, fun i u hu => ?_⟩⟩⟩
      match i, hu with
      | 0, hu =>
        cases hu
        have hjl : j < len := by have := (List.getElem?_eq_some_iff.1 hj).1; omega
        rw [Nat.add_zero, show j * Kd.string.sz = j from Nat.mul_one j, hcell j (by omega)]
        rw [List.getElem?_take, if_pos hjl] at hj
        rw [List.getD_eq_getElem?_getD, hj]
        rfl
      | i + 1, hu => cases hu
    · rw [hlt]
      unfold reachBytes at h1
      rw [hs1] at h1
      omega
    · have hm2 : (DataW.lit (.string s.data.toList) : DataW H) ∈ strs (H := H) (ss.take len) := List.mem_map.2 ⟨s, hs, rfl⟩
      have h2 := hf s.data.toList.length (List.mem_cons_of_mem _ (List.mem_append.2 (.inl (all_mem _ _ _ hm2 _ (by rw [DataW.weights]; exact List.mem_singleton.2 rfl)))))
      unfold reachBytes at h2
      rw [data_length] at h2
      exact h2
/-- A list of places. -/
theorem kids_of (h : DataW.trod enc Tryd.prog W base spare held fuel 37 cs = some x) (hf : Fits 37 x.1) :
    ∃ (A : Option Addr) (c : Nat) (zs : List Int), cs = [.slice A zs.length c] ∧ zs.length ≤ c ∧ (Kd.int .i64).C W A zs.length zs ∧ zs.length * 8 ≤ 140737488351232 := by
  have hb : Tryd.prog.bytesOf 3 = 8 := by kernel_rfl
  rcases open_ints Tryd.underlying37 Tryd.underlying3 (by kernel_rfl) h with ⟨rfl, rfl⟩ | ⟨a, len, cap, zs, rfl, _, hl, hm, hlen, rfl, hcell, _⟩
  · exact ⟨none, 0, [], rfl, Nat.le_refl _, Kd.C_nil _ _, by decide⟩
  · have hls : len ≤ zs.length := by rw [hlen]; split <;> omega
    have hlt : (zs.take len).length = len := by rw [List.length_take]; omega
    unfold Fits at hf
    rw [weights_slice Tryd.underlying37, hb] at hf
    have h1 := hf _ (List.mem_cons_self ..)
    have hs1 : (lits (H := H) .i64 (zs.take len)).length = len := by unfold lits; rw [List.length_map, hlt]
    refine ⟨some a, cap, zs.take len, by rw [hlt], by rw [hlt]; exact hl, ?_, ?_⟩
    · rw [hlt]
      refine ⟨hlt, by unfold maxLen at hm; omega, fun hp => ⟨a, rfl, fun j p hj => ⟨[.int .i64 p], rfl, rfl, fun i u hu => ?_⟩⟩⟩
      match i, hu with
      | 0, hu =>
        cases hu
        have hjl : j < len := by have := (List.getElem?_eq_some_iff.1 hj).1; omega
        rw [Nat.add_zero, show j * (Kd.int .i64).sz = j from Nat.mul_one j, hcell j (by omega)]
        rw [List.getElem?_take, if_pos hjl] at hj
        rw [List.getD_eq_getElem?_getD, hj]
        rfl
      | i + 1, hu => cases hu
    · rw [hlt]
      unfold reachBytes at h1
      rw [hs1] at h1
      omega
theorem each_mem : ∀ (ts : List TypeId) (ds : List (DataW H)) (j : Nat) (t : TypeId) (d : DataW H), ts[j]? = some t → ds[j]? = some d → ∀ n ∈ d.weights Tryd.prog t, n ∈ DataW.weightsEach Tryd.prog ts ds
  | [], _, j, _, _, h, _, _, _ => by cases h
  | _ :: _, [], _, _, _, _, h, _, _ => by cases h
  | t0 :: ts, d0 :: ds, 0, t, d, h1, h2, n, hn => by
    cases h1
    cases h2
    rw [DataW.weightsEach, List.mem_append]
    exact .inl hn
  | t0 :: ts, d0 :: ds, j + 1, t, d, h1, h2, n, hn => by
    rw [DataW.weightsEach, List.mem_append]
    exact .inr (each_mem ts ds j t d h1 h2 n hn)
theorem six {α : Type} (l : List α) (h : l.length = 6) : ∃ a b c d e f, l = [a, b, c, d, e, f] := by
  cases l with
  | nil => cases h
  | cons a l => cases l with
    | nil => cases h
    | cons b l => cases l with
      | nil => cases h
      | cons c l => cases l with
        | nil => cases h
        | cons d l => cases l with
          | nil => cases h
          | cons e l => cases l with
            | nil => cases h
            | cons f l => cases l with
              | nil => exact ⟨a, b, c, d, e, f, rfl⟩
              | cons g l => simp at h
/-- What a value's sizes are. -/
def Ok (v : S39) : Prop := (∀ s ∈ v.f4, s.size ≤ 140737488351232) ∧ v.f3.size ≤ 140737488351232 ∧ v.f4.length * 16 ≤ 140737488351232 ∧ v.f5.length * 8 ≤ 140737488351232
/-- A value. -/
theorem value_of (h : DataW.trod enc Tryd.prog W base spare held fuel 39 cs = some x) (hf : Fits 39 x.1) : ∃ v : S39, k39.K W v cs ∧ Ok v := by
  obtain ⟨xs, n, _, rfl, hcl, hxl, hfi⟩ := DataW.trod_struct Tryd.underlying39 h
  have hc6 : cs.length = 6 := hcl.trans (by kernel_rfl)
  have hx6 : xs.length = 6 := hxl
  obtain ⟨x0, x1, x2, x3, x4, x5, rfl⟩ := six xs hx6
  obtain ⟨c0, c1, c2, c3, c4, c5, rfl⟩ := six cs hc6
  have e35 : Tryd.prog.cellsOf 35 = 1 := by kernel_rfl
  have e4 : Tryd.prog.cellsOf 4 = 1 := by kernel_rfl
  have e3 : Tryd.prog.cellsOf 3 = 1 := by kernel_rfl
  have e9 : Tryd.prog.cellsOf 9 = 1 := by kernel_rfl
  have e36 : Tryd.prog.cellsOf 36 = 1 := by kernel_rfl
  have e37 : Tryd.prog.cellsOf 37 = 1 := by kernel_rfl
  have h0 : DataW.trod enc Tryd.prog W base spare held n 35 (([c0, c1, c2, c3, c4, c5].drop 0).take (Tryd.prog.cellsOf 35)) = some x0 := hfi 0 _ rfl
  have h1 : DataW.trod enc Tryd.prog W base spare held n 4 (([c0, c1, c2, c3, c4, c5].drop 1).take (Tryd.prog.cellsOf 4)) = some x1 := hfi 1 _ rfl
  have h2 : DataW.trod enc Tryd.prog W base spare held n 3 (([c0, c1, c2, c3, c4, c5].drop 2).take (Tryd.prog.cellsOf 3)) = some x2 := hfi 2 _ rfl
  have h3 : DataW.trod enc Tryd.prog W base spare held n 9 (([c0, c1, c2, c3, c4, c5].drop 3).take (Tryd.prog.cellsOf 9)) = some x3 := hfi 3 _ rfl
  have h4 : DataW.trod enc Tryd.prog W base spare held n 36 (([c0, c1, c2, c3, c4, c5].drop 4).take (Tryd.prog.cellsOf 36)) = some x4 := hfi 4 _ rfl
  have h5 : DataW.trod enc Tryd.prog W base spare held n 37 (([c0, c1, c2, c3, c4, c5].drop 5).take (Tryd.prog.cellsOf 37)) = some x5 := hfi 5 _ rfl
  rw [e35] at h0
  rw [e4] at h1
  rw [e3] at h2
  rw [e9] at h3
  rw [e36] at h4
  rw [e37] at h5
  obtain ⟨n0, g0, _, _⟩ := DataW.trod_int Tryd.underlying35 h0
  obtain ⟨b1, g1, _⟩ := DataW.trod_bool Tryd.underlying4 h1
  obtain ⟨n2, g2, _, _⟩ := DataW.trod_int Tryd.underlying3 h2
  obtain ⟨s3, g3, hx3, _⟩ := DataW.trod_string Tryd.underlying9 h3
  have hw : ∀ (j : Nat) (t : TypeId) (d : DataW H), ([35, 4, 3, 9, 36, 37] : List TypeId)[j]? = some t → (([x0, x1, x2, x3, x4, x5].map (·.1)) : List (DataW H))[j]? = some d → Fits t d := fun j t d ht hd n hn => by
    refine hf n ?_
    rw [DataW.weights, Tryd.underlying39]
    exact each_mem _ _ j t d ht hd n hn
  obtain ⟨A4, k4, ss, g4, l4, C4, z4, y4⟩ := names_of h4 (hw 4 _ _ rfl rfl)
  obtain ⟨A5, k5, zs, g5, l5, C5, z5⟩ := kids_of h5 (hw 5 _ _ rfl rfl)
  have w3 := hw 3 9 x3.1 rfl rfl s3.data.toList.length (by rw [hx3, DataW.weights]; exact List.mem_singleton.2 rfl)
  cases g0
  cases g1
  cases g2
  cases g3
  cases g4
  cases g5
  unfold reachBytes at w3
  rw [data_length] at w3
  exact ⟨⟨n0, b1, n2, s3, ss, zs⟩, k39_mk W ⟨n0, b1, n2, s3, ss, zs⟩ l4 C4 l5 C5, y4, w3, z4, z5⟩
/-- A tree. -/
theorem tree_of (h : DataW.trod enc Tryd.prog W base spare held fuel 23 cs = some x) (hf : Fits 23 x.1) :
    ∃ (A : Option Addr) (c : Nat) (l : List S39), cs = [.slice A l.length c] ∧ l.length ≤ c ∧ Kd.C k39 W A l.length l ∧ ∀ v ∈ l, Ok v := by
  have e39 : Tryd.prog.cellsOf 39 = 6 := by kernel_rfl
  rcases Go.Deep.open_slice Tryd.underlying23 h with ⟨rfl, rfl⟩ | ⟨a, len, cap, m, n, D, Pl, rfl, _, hl, hm, hmm, rfl, hel⟩
  · exact ⟨none, 0, [], rfl, Nat.le_refl _, Kd.C_nil _ _, fun v hv => by cases hv⟩
  · have hlm : len ≤ m := by rw [hmm]; split <;> omega
    unfold Fits at hf
    rw [weights_slice Tryd.underlying23] at hf
    have hval : ∀ i, i < len → ∃ v : S39, (∃ c : List Value, c.length = 6 ∧ k39.K W v c ∧ ∀ j u, c[j]? = some u → W.cell? (a.add (i * 6 + j)) = some u) ∧ Ok v := by
      intro i hi
      obtain ⟨cs', hcs, htr⟩ := hel i (by omega)
      rw [e39] at hcs
      obtain ⟨_, hcl, hce⟩ := World.cells?_some hcs
      have hfi : Fits 39 (D i) := fun n' hn' => hf n' (List.mem_cons_of_mem _ (List.mem_append.2 (.inl (all_mem _ _ (D i) (List.mem_map.2 ⟨i, List.mem_range.2 hi, rfl⟩) _ hn'))))
      obtain ⟨v, hK, hok⟩ := value_of htr hfi
      refine ⟨v, ⟨cs', hcl, hK, fun j u hu => ?_⟩, hok⟩
      have hj : j < 6 := by have := (List.getElem?_eq_some_iff.1 hu).1; omega
      rw [← Go.Deep.add_add, hce j hj]
      exact hu
    let f : Nat → S39 := fun i => if hi : i < len then Classical.choose (hval i hi) else z39
    have hfs : ∀ i (hi : i < len), f i = Classical.choose (hval i hi) := fun i hi => dif_pos hi
    refine ⟨some a, cap, (List.range len).map f, by rw [List.length_map, List.length_range], by rw [List.length_map, List.length_range]; exact hl, ?_, fun v hv => ?_⟩
    · rw [List.length_map, List.length_range]
      refine ⟨by rw [List.length_map, List.length_range], by unfold maxLen at hm; omega, fun hp => ⟨a, rfl, fun j p hj => ?_⟩⟩
      have hjl : j < len := by have := (List.getElem?_eq_some_iff.1 hj).1; rwa [List.length_map, List.length_range] at this
      rw [List.getElem?_map, List.getElem?_range hjl] at hj
      cases hj
      obtain ⟨c, h1, h2, h3⟩ := (Classical.choose_spec (hval j hjl)).1
      rw [hfs j hjl]
      exact ⟨c, h1, h2, h3⟩
    · obtain ⟨i, hi, rfl⟩ := List.mem_map.1 hv
      rw [hfs i (List.mem_range.1 hi)]
      exact (Classical.choose_spec (hval i (List.mem_range.1 hi))).2
end

end Go.Proofs.YtldlkoncndlbhaaDoor.Rd
