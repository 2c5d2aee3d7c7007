/- The layer's fixed fact, walked: chapter 3's examples. -/
import Derived.Test.YtldlkoncndlbhaaDoorPrint
import Derived.Test.YtldlkoncndlbhaaDoorRefCheck
namespace Go.Proofs.YtldlkoncndlbhaaDoor.Aw
open Go.RowKit Go.Proofs.YtldlkoncndlbhaaDoor.Utf Go.Proofs.YtldlkoncndlbhaaDoor.Pl Go.Proofs.YtldlkoncndlbhaaDoor.Tx Go.Proofs.YtldlkoncndlbhaaDoor.Wr Go.Proofs.YtldlkoncndlbhaaDoor.Pure Go.Proofs.YtldlkoncndlbhaaDoor.PSh Go.Proofs.YtldlkoncndlbhaaDoorW.PrintWords Go.Proofs.YtldlkoncndlbhaaDoorW.PrintLast Go.Proofs.YtldlkoncndlbhaaDoorW.PrintMore
set_option linter.unusedSimpArgs false
set_option linter.unusedVariables false

def t0 : S39 := ⟨3, false, 1, ⟨#[]⟩, [], []⟩
def t1 : S39 := ⟨4, false, 0, ⟨#[97, 10]⟩, [], []⟩
def t2 : S39 := ⟨5, false, 0, ⟨#[]⟩, [], [0, 1]⟩
def tr : List S39 := [t0, t1, t2]
theorem wid_low (a : UInt8) (r : List UInt8) (h : a.toNat < 128) : wid (a :: r) = 1 := (dec_head a r h).2
theorem utf_a : utf [97, 10] = true := by
  unfold utf
  rw [dif_neg (by simp), dif_neg (by rw [wid_low _ _ (by decide)]; decide), wid_low _ _ (by decide)]
  show utf [10] = true
  unfold utf
  rw [dif_neg (by simp), dif_neg (by rw [wid_low _ _ (by decide)]; decide), wid_low _ _ (by decide)]
  exact utf_nil
theorem toList_nil : (⟨#[]⟩ : ByteArray).toList = [] := by rw [Pure.toList_data]
theorem p0 : plainOf t0 = true := by unfold plainOf plainB t0; simp [namesGo, toList_nil]
theorem p1 : plainOf t1 = true := by unfold plainOf plainB t1; simp [namesGo, utf_a]
theorem p2 : plainOf t2 = true := by unfold plainOf plainB t2; simp [namesGo, toList_nil]
theorem at0 : rd_T39 tr 0 = t0 := rfl
theorem at1 : rd_T39 tr 1 = t1 := rfl
theorem at2 : rd_T39 tr 2 = t2 := rfl
theorem cases3 {a : Int} (h0 : 0 ≤ a) (h1 : a < tr.length) : a = 0 ∨ a = 1 ∨ a = 2 := by
  have : (tr.length : Int) = 3 := rfl
  omega
theorem check_tr : checkOf tr = 0 := by
  have e : nodesGo tr 3 0 [false, false, false] [0, 0, 0] = some ([true, true, false], [0, 0, 1]) := by
    have k0 : t0.f5 = [] := rfl
    have k1 : t1.f5 = [] := rfl
    have k2 : t2.f5 = [0, 1] := rfl
    have z0 : t0.f0 = 3 := rfl
    have z1 : t1.f0 = 4 := rfl
    have z2 : t2.f0 = 5 := rfl
    rw [nodesGo, show rd_T39 tr ((0 : Nat) : Int) = t0 from rfl, if_pos p0, k0, kidsGo, z0]
    show nodesGo tr 2 1 [false, false, false] [0, 0, 0] = _
    rw [nodesGo, show rd_T39 tr ((1 : Nat) : Int) = t1 from rfl, if_pos p1, k1, kidsGo, z1]
    show nodesGo tr 1 2 [false, false, false] [0, 0, 0] = _
    rw [nodesGo, show rd_T39 tr ((2 : Nat) : Int) = t2 from rfl, if_pos p2, k2, z2]
    decide
  unfold checkOf
  rw [if_neg (by decide), if_neg (by decide)]
  show endOf 3 (nodesGo tr 3 0 [false, false, false] [0, 0, 0]) = 0
  rw [e]
  decide
theorem sz_tr : Sz tr := by
  intro a h0 h1
  rcases cases3 h0 h1 with rfl | rfl | rfl
  · rw [at0]; exact ⟨⟨fun s h => (by cases h), by decide, by decide⟩, by decide⟩
  · rw [at1]; exact ⟨⟨fun s h => (by cases h), by decide, by decide⟩, by decide⟩
  · rw [at2]; exact ⟨⟨fun s h => (by cases h), by decide, by decide⟩, by decide⟩
theorem tree_tr : Tree tr := by
  intro a h0 h1
  rcases cases3 h0 h1 with rfl | rfl | rfl
  · rw [at0]; exact ⟨p0, fun i hi => absurd hi (by decide +revert)⟩
  · rw [at1]; exact ⟨p1, fun i hi => absurd hi (by decide +revert)⟩
  · rw [at2]
    refine ⟨p2, fun i hi => ?_⟩
    have : i < 2 := hi
    match i, this with
    | 0, _ => decide
    | 1, _ => decide
theorem sized_tr : Sized tr := by
  intro a h0 h1
  rcases cases3 h0 h1 with rfl | rfl | rfl
  · rw [at0]; exact ⟨by decide, by decide, fun i hi => absurd hi (by decide +revert)⟩
  · rw [at1]; exact ⟨by decide, by decide, fun i hi => absurd hi (by decide +revert)⟩
  · rw [at2]; exact ⟨by decide, by decide, fun i hi => absurd hi (by decide +revert)⟩
theorem inner_a : inner [97, 10] = [97, 92, 117, 48, 48, 48, 97] := by
  rw [Qu.inner_step _ (by simp), show piece [97, 10] = [97] by (unfold piece; rw [if_neg (by rw [wid_low _ _ (by decide)]; decide), if_neg (by decide), if_neg (by decide), wid_low _ _ (by decide)]; rfl), show adv [97, 10] = 1 by (unfold adv; rw [if_neg (by rw [wid_low _ _ (by decide)]; decide), wid_low _ _ (by decide)])]
  show [97] ++ inner [10] = _
  rw [Qu.inner_step _ (by simp), show piece [10] = [92, 117, 48, 48, 48, 97] by (unfold piece; rw [if_neg (by rw [wid_low _ _ (by decide)]; decide), if_neg (by decide), if_pos (by decide)]; decide), show adv [10] = 1 by (unfold adv; rw [if_neg (by rw [wid_low _ _ (by decide)]; decide), wid_low _ _ (by decide)])]
  show [97] ++ ([92, 117, 48, 48, 48, 97] ++ inner []) = _
  rw [Qu.inner_nil]
  rfl
theorem itoa_one : Lib.itoa 1 = [49] := by
  unfold Lib.itoa
  rw [if_neg (by decide)]
  show Lib.decDigits 1 = [49]
  unfold Lib.decDigits
  rfl
theorem text_tr : textOf tr = [91, 49, 44, 34, 97, 92, 117, 48, 48, 48, 97, 34, 93] := by
  unfold textOf
  show txt tr 3 2 = _
  rw [txt_succ, at2, txtOf_5 _ _ rfl]
  show [91] ++ joined (fun i : Nat => txt tr 2 (rd [0, 1] (i : Int))) 2 ++ [93] = _
  simp only [joined]
  rw [show rd [0, 1] ((0 : Nat) : Int) = 0 from rfl, show rd [0, 1] ((1 : Nat) : Int) = 1 from rfl, txt_succ, txt_succ, at0, at1, txtOf_3 _ _ rfl, txtOf_4 _ _ rfl]
  show [91] ++ ([] ++ (([]) ++ Lib.itoa 1) ++ ([44] ++ inQuotes [97, 10])) ++ [93] = _
  rw [itoa_one, inQuotes, inner_a]
  rfl

theorem str_nums (t : List UInt8) : strOfNums (numsOf t) = ⟨t.toArray⟩ := by
  unfold strOfNums numsOf
  rw [List.map_map]
  have : (fun n : Int => UInt8.ofNat n.toNat) ∘ (fun b : UInt8 => (b.toNat : Int)) = id := by
    funext b
    simp
  rw [this, List.map_id]

/-- The fixed tree, as it is laid. -/
theorem lies_tr (w : World) : Kd.C k39 ((w.alloc (.cells #[.int .i64 0, .int .i64 1] 3)).alloc (.cells #[.int .i64 3, .bool false, .int .i64 1, .string ⟨#[]⟩, .slice none 0 0, .slice none 0 0, .int .i64 4, .bool false, .int .i64 0, .string ⟨#[97, 10]⟩, .slice none 0 0, .slice none 0 0, .int .i64 5, .bool false, .int .i64 0, .string ⟨#[]⟩, .slice none 0 0, .slice (some ⟨w.heap.size, 0, none⟩) 2 2] 39)) (some ⟨w.heap.size + 1, 0, none⟩) tr.length tr := by
  have hz : (w.alloc (.cells #[.int .i64 0, .int .i64 1] 3)).heap.size = w.heap.size + 1 := Array.size_push _
  have h1 : ((w.alloc (.cells #[.int .i64 0, .int .i64 1] 3)).alloc (.cells #[.int .i64 3, .bool false, .int .i64 1, .string ⟨#[]⟩, .slice none 0 0, .slice none 0 0, .int .i64 4, .bool false, .int .i64 0, .string ⟨#[97, 10]⟩, .slice none 0 0, .slice none 0 0, .int .i64 5, .bool false, .int .i64 0, .string ⟨#[]⟩, .slice none 0 0, .slice (some ⟨w.heap.size, 0, none⟩) 2 2] 39)).heap[w.heap.size + 1]? = some (.cells #[.int .i64 3, .bool false, .int .i64 1, .string ⟨#[]⟩, .slice none 0 0, .slice none 0 0, .int .i64 4, .bool false, .int .i64 0, .string ⟨#[97, 10]⟩, .slice none 0 0, .slice none 0 0, .int .i64 5, .bool false, .int .i64 0, .string ⟨#[]⟩, .slice none 0 0, .slice (some ⟨w.heap.size, 0, none⟩) 2 2] 39) := by
    rw [← hz]
    exact Array.getElem?_push_size
  have h0 : ((w.alloc (.cells #[.int .i64 0, .int .i64 1] 3)).alloc (.cells #[.int .i64 3, .bool false, .int .i64 1, .string ⟨#[]⟩, .slice none 0 0, .slice none 0 0, .int .i64 4, .bool false, .int .i64 0, .string ⟨#[97, 10]⟩, .slice none 0 0, .slice none 0 0, .int .i64 5, .bool false, .int .i64 0, .string ⟨#[]⟩, .slice none 0 0, .slice (some ⟨w.heap.size, 0, none⟩) 2 2] 39)).heap[w.heap.size]? = some (.cells #[.int .i64 0, .int .i64 1] 3) := by
    rw [Lib.alloc_old _ _ _ (by rw [hz]; omega)]
    exact Array.getElem?_push_size
  generalize (w.alloc (.cells #[.int .i64 0, .int .i64 1] 3)).alloc (.cells #[.int .i64 3, .bool false, .int .i64 1, .string ⟨#[]⟩, .slice none 0 0, .slice none 0 0, .int .i64 4, .bool false, .int .i64 0, .string ⟨#[97, 10]⟩, .slice none 0 0, .slice none 0 0, .int .i64 5, .bool false, .int .i64 0, .string ⟨#[]⟩, .slice none 0 0, .slice (some ⟨w.heap.size, 0, none⟩) 2 2] 39) = W at *
  have hk : (Kd.int .i64).C W (some ⟨w.heap.size, 0, none⟩) 2 [0, 1] := by
    refine ⟨rfl, by decide, fun _ => ⟨⟨w.heap.size, 0, none⟩, rfl, fun j p hj => ⟨[.int .i64 p], rfl, rfl, fun i u hu => ?_⟩⟩⟩
    rw [add_plain, World.cell?, h0]
    match j, i, hj, hu with
    | 0, 0, hj, hu => cases hj; cases hu; rfl
    | 1, 0, hj, hu => cases hj; cases hu; rfl
    | 0, i + 1, hj, hu => cases hu
    | 1, i + 1, hj, hu => cases hu
    | j + 2, _, hj, hu => cases hj
  have hn9 : Kd.string.C W none 0 [] := Kd.C_nil _ _
  have hn3 : (Kd.int .i64).C W none 0 [] := Kd.C_nil _ _
  refine ⟨rfl, by decide, fun _ => ⟨⟨w.heap.size + 1, 0, none⟩, rfl, fun j p hj => ?_⟩⟩
  match j, hj with
  | 0, hj =>
    cases hj
    refine ⟨_, rfl, k39_mk W t0 (A4 := none) (c4 := 0) (Nat.le_refl _) hn9 (A5 := none) (c5 := 0) (Nat.le_refl _) hn3, fun i u hu => ?_⟩
    rw [add_plain, World.cell?, h1]
    match i, hu with
    | 0, hu => cases hu; rfl
    | 1, hu => cases hu; rfl
    | 2, hu => cases hu; rfl
    | 3, hu => cases hu; rfl
    | 4, hu => cases hu; rfl
    | 5, hu => cases hu; rfl
    | i + 6, hu => cases hu
  | 1, hj =>
    cases hj
    refine ⟨_, rfl, k39_mk W t1 (A4 := none) (c4 := 0) (Nat.le_refl _) hn9 (A5 := none) (c5 := 0) (Nat.le_refl _) hn3, fun i u hu => ?_⟩
    rw [add_plain, World.cell?, h1]
    match i, hu with
    | 0, hu => cases hu; rfl
    | 1, hu => cases hu; rfl
    | 2, hu => cases hu; rfl
    | 3, hu => cases hu; rfl
    | 4, hu => cases hu; rfl
    | 5, hu => cases hu; rfl
    | i + 6, hu => cases hu
  | 2, hj =>
    cases hj
    refine ⟨_, rfl, k39_mk W t2 (A4 := none) (c4 := 0) (Nat.le_refl _) hn9 (A5 := some ⟨w.heap.size, 0, none⟩) (c5 := 2) (Nat.le_refl _) hk, fun i u hu => ?_⟩
    rw [add_plain, World.cell?, h1]
    match i, hu with
    | 0, hu => cases hu; rfl
    | 1, hu => cases hu; rfl
    | 2, hu => cases hu; rfl
    | 3, hu => cases hu; rfl
    | 4, hu => cases hu; rfl
    | 5, hu => cases hu; rfl
    | i + 6, hu => cases hu
  | j + 3, hj => cases hj

set_option maxHeartbeats 4000000 in
set_option maxRecDepth 100000 in
theorem awake_walk (w : World) (hG : Aside0 (Glob w)) : Calls Tryd.prog 10 #[] w fun e w' => e = .returned (.bool true) ∧ Below w.heap.size w w' := by
  obtain ⟨K, hK⟩ := check_tells tr sz_tr
  have hck := hK K (Nat.le_refl _)
  rw [check_tr] at hck
  obtain ⟨K2, hK2⟩ := check_tells [] (fun a h0 h1 => by simp at h1; omega)
  have hck2 : show_Check.f K2 [] = some 29 := hK2 K2 (Nat.le_refl _)
  have hl := lies_tr w
  have hB1 := below_alloc (below_alloc (Below.refl w.heap.size w) (.cells #[.int .i64 0, .int .i64 1] 3)) (.cells #[.int .i64 3, .bool false, .int .i64 1, .string ⟨#[]⟩, .slice none 0 0, .slice none 0 0, .int .i64 4, .bool false, .int .i64 0, .string ⟨#[97, 10]⟩, .slice none 0 0, .slice none 0 0, .int .i64 5, .bool false, .int .i64 0, .string ⟨#[]⟩, .slice none 0 0, .slice (some ⟨w.heap.size, 0, none⟩) 2 2] 39)
  have hG1 := hG.out.below hB1
  have hpr := print_walk K tr (some ⟨w.heap.size + 1, 0, none⟩) 3 0 _ ⟨hG1⟩ hl (Nat.le_refl _) (by decide) hck (fun _ => ⟨by decide, tree_tr, sized_tr, by rw [text_tr]; decide⟩)
  go_enter Tryd.func10, Tryd.ntmps10
  go_wp2_with (first
    | (go_at_call 14; refine hpr.mono ?_; rintro e w2 ⟨A', c', t, rfl, hrd, hb2, ht⟩; rw [if_pos rfl, text_tr] at ht; subst ht; have hcv : (convert 30 9 (.slice A' 13 c')).run Tryd.prog w2 = .ok (.string ⟨#[91, 49, 44, 34, 97, 92, 117, 48, 48, 48, 97, 34, 93]⟩) w2 := (string_of_reads (P := Tryd.prog) (src := 30) (dst := 9) (e := 5) (c := c') Tryd.underlying30 Tryd.underlying5 Tryd.underlying9 hrd).trans (by rw [str_nums]); have hB2 := hB1.trans (hb2.mono hB1.size))
    | (go_at_call 11; refine (show_Check.calls K2 none 0 [] 29 _ ⟨hG.out.below hB2⟩ (Kd.C_nil _ _) (Nat.le_refl _) hck2).mono ?_; rintro e w3 ⟨rfl, hb3⟩))
  go_ret
  exact ⟨rfl, hB2.trans (hb3.mono hB2.size)⟩

end Go.Proofs.YtldlkoncndlbhaaDoor.Aw
