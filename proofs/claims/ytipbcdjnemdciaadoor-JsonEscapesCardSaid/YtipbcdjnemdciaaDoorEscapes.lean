/- JsonEscapes, walked. -/
import Derived.Test.YtipbcdjnemdciaaDoorPut
import Derived.Test.YtipbcdjnemdciaaDoorKb
set_option linter.unusedVariables false
set_option linter.unusedSimpArgs false
namespace Go.Proofs.YtipbcdjnemdciaaDoor.Js
open Go.RowKit Go.Lib Go.Proofs.YtipbcdjnemdciaaDoor.PSh Go.Proofs.YtipbcdjnemdciaaDoor.Np Go.Proofs.YtipbcdjnemdciaaDoorW.PrintWords Go.Proofs.YtipbcdjnemdciaaDoorW.PrintLast Go.Proofs.YtipbcdjnemdciaaDoorW.PrintMore

theorem small_nat0 (n k : Int) (hk : 0 < k) (hk1 : k ≤ 10000000) : ∃ m : Nat, wrap64 ((IntKind.u64.wrap n).tmod k) = (m : Int) ∧ m < k := by
  have h0 := wrapU_nonneg n
  generalize IntKind.u64.wrap n = a at *
  rw [Int.tmod_eq_emod_of_nonneg h0]
  have h1 := Int.emod_nonneg a (show k ≠ 0 by omega)
  have h2 := Int.emod_lt_of_pos a hk
  generalize a % k = b at *
  refine ⟨b.toNat, ?_, by omega⟩
  unfold wrap64
  omega
theorem and1023 (x : Int) (h0 : 0 ≤ x) (h : x < 2 ^ 62) : Go.bits .and .i64 x 1023 = x % 1024 := bits_mask .i64 63 (by decide) wide_i64 10 (by omega) x h0 (by omega)
theorem new_string (w : World) (s : ByteArray) (t : TypeId) (fz : Nat × Nat) : (w.alloc (.cells #[.string s] t fz)).cell? ⟨w.heap.size, 0, none⟩ = some (.string s) := by
  rw [World.cell?, show (w.alloc (.cells #[.string s] t fz)).heap[w.heap.size]? = some (.cells #[.string s] t fz) from Array.getElem?_push_size]
  rfl
theorem esc_len (sm : Bool) (x : Nat) : (esc sm x).length ≤ 12 := by
  unfold esc
  split <;> simp [h4]
theorem whole_len (sm : Bool) (x : Nat) : (whole sm x).length ≤ 16 := by
  have := esc_len sm x
  unfold whole
  simp only [List.length_cons, List.length_append, List.length_nil]
  omega
def escapes.T14 : Bool × List (List Nat × List Nat) := (true, [([], []), ([0], [0]), ([1], [1]), ([2], [2]), ([3, 2], [2, 3]), ([4, 2], [2, 4]), ([2, 5], [2, 5]), ([6, 2], [6]), ([7], [7]), ([8, 7], [7, 8]), ([9, 7], [7, 9]), ([10, 7], [7, 10]), ([7], [7]), ([12, 7, 7], [7, 12]), ([13, 7], [7, 13]), ([14, 7], [7, 14]), ([15, 7], [7, 15]), ([11, 16, 7], [7, 11, 16]), ([7, 17], [7, 17]), ([18, 13, 0, 1, 2, 3, 4, 5, 6, 7, 8, 9, 10, 11, 12, 13, 14, 15, 16, 17, 18], [18])])
def escapes.B14 : List Nat := [0, 1, 3, 7, 15, 31, 63, 127, 255, 511, 1023, 2047, 255, 4351, 12543, 28927, 61695, 131071, 262143, 524287]
theorem escapes.tab14 : rtab .any (opsOf Tryd.f8 14) = escapes.T14 := by kernel_rfl
theorem escapes.bits14 : waitsOk escapes.T14.2 escapes.B14 = true := by kernel_rfl

set_option maxHeartbeats 4000000 in
set_option maxRecDepth 100000 in
theorem escapes_a_false (n : Int) (m : Nat) (hm : Aside0 (wrap64 ((IntKind.u64.wrap n).tmod 1114112) = (m : Int))) (w : World) (hG : Aside0 (Glob w)) (hGN : Aside0 (GlobN w)) (h1 : 55296 ≤ m) (h2 : m ≤ 57343) :
    Calls Tryd.prog 8 #[.int .i64 n, .bool false] w fun e w' => e = .returned (.bool true) ∧ Below w.heap.size w w' := by
  have hx2 : m < 2097152 := by omega
  have c1 : ((m : Int) ≥ 65536) = False := eq_false (by omega)
  have c1' : ((65536 : Int) ≤ (m : Int)) = False := eq_false (by omega)
  have c2 : ((m : Int) ≥ 55296) = True := eq_true (by omega)
  have c2' : ((55296 : Int) ≤ (m : Int)) = True := eq_true (by omega)
  have c3 : ((m : Int) < 57344) = True := eq_true (by omega)
  have hes : esc false m = h4 false m := by unfold esc; rw [if_pos (by omega)]
  have hpe := parse_half false m h1 h2
  have e1 : (⟨#[34, 97]⟩ : ByteArray) ++ str (h4 false m) = str (34 :: 97 :: h4 false m) := str_app [34, 97] _
  have e2 : str (34 :: 97 :: h4 false m) ++ (⟨#[98, 34]⟩ : ByteArray) = str (whole false m) := by unfold whole; rw [hes]; exact str_app (34 :: 97 :: h4 false m) [98, 34]
  have s1 : (9223372036854775807 < 2 + (str (h4 false m)).size) = False := eq_false (by rw [str_size]; show ¬ 9223372036854775807 < 2 + 6; decide)
  have s2 : (9223372036854775807 < (str (34 :: 97 :: h4 false m)).size + 2) = False := eq_false (by rw [str_size]; show ¬ 9223372036854775807 < 8 + 2; decide)
  have k1 := fun W => kb (whole false m) W
  go_enter Tryd.func8, Tryd.ntmps8
  go_wp2_with (first
    | (go_at_call 9; refine (awake_walk w hG hGN).mono ?_; rintro e w2 ⟨rfl, hb2⟩; have hG2 := hG.out.below hb2; have hGN2 := hGN.out.below hb2)
    | (go_at_call 14; rw [hm.out]; (with_reducible refine (esc_walk false m hx2 _ w2.heap.size ?hg).mono ?_); (case hg => exact new_string w2 _ _ _); rintro e w3 ⟨rfl, hb3⟩; have hA := below_alloc (Below.refl w2.heap.size w2) (.cells #[.string (str (digs false))] 9); have hB3 := hb2.trans ((hA.trans (hb3.mono hA.size)).mono hb2.size); have hg3 := pw_cell_below hb3 (new_string w2 (str (digs false)) 9 (0, 0)))
    | (go_at_call 10; refine (parse_text (whole false m) w3 (hG.out.below hB3) (hGN.out.below hB3) (by have := whole_len false m; omega) _).mono ?_; rw [hpe]; rintro e w8 ⟨⟨_, rfl⟩, hb8⟩; have hB8 := hB3.trans (hb8.mono hB3.size)))
  go_ret
  exact ⟨rfl, hB8⟩

set_option maxHeartbeats 4000000 in
set_option maxRecDepth 100000 in
theorem escapes_a_true (n : Int) (m : Nat) (hm : Aside0 (wrap64 ((IntKind.u64.wrap n).tmod 1114112) = (m : Int))) (w : World) (hG : Aside0 (Glob w)) (hGN : Aside0 (GlobN w)) (h1 : 55296 ≤ m) (h2 : m ≤ 57343) :
    Calls Tryd.prog 8 #[.int .i64 n, .bool true] w fun e w' => e = .returned (.bool true) ∧ Below w.heap.size w w' := by
  have hx2 : m < 2097152 := by omega
  have c1 : ((m : Int) ≥ 65536) = False := eq_false (by omega)
  have c1' : ((65536 : Int) ≤ (m : Int)) = False := eq_false (by omega)
  have c2 : ((m : Int) ≥ 55296) = True := eq_true (by omega)
  have c2' : ((55296 : Int) ≤ (m : Int)) = True := eq_true (by omega)
  have c3 : ((m : Int) < 57344) = True := eq_true (by omega)
  have hes : esc true m = h4 true m := by unfold esc; rw [if_pos (by omega)]
  have hpe := parse_half true m h1 h2
  have e1 : (⟨#[34, 97]⟩ : ByteArray) ++ str (h4 true m) = str (34 :: 97 :: h4 true m) := str_app [34, 97] _
  have e2 : str (34 :: 97 :: h4 true m) ++ (⟨#[98, 34]⟩ : ByteArray) = str (whole true m) := by unfold whole; rw [hes]; exact str_app (34 :: 97 :: h4 true m) [98, 34]
  have s1 : (9223372036854775807 < 2 + (str (h4 true m)).size) = False := eq_false (by rw [str_size]; show ¬ 9223372036854775807 < 2 + 6; decide)
  have s2 : (9223372036854775807 < (str (34 :: 97 :: h4 true m)).size + 2) = False := eq_false (by rw [str_size]; show ¬ 9223372036854775807 < 8 + 2; decide)
  have k1 := fun W => kb (whole true m) W
  go_enter Tryd.func8, Tryd.ntmps8
  go_wp2_with (first
    | (go_at_call 9; refine (awake_walk w hG hGN).mono ?_; rintro e w2 ⟨rfl, hb2⟩; have hG2 := hG.out.below hb2; have hGN2 := hGN.out.below hb2)
    | (go_at_call 14; rw [hm.out]; (with_reducible refine (esc_walk true m hx2 _ w2.heap.size ?hg).mono ?_); (case hg => exact new_string w2 _ _ _); rintro e w3 ⟨rfl, hb3⟩; have hA := below_alloc (Below.refl w2.heap.size w2) (.cells #[.string (str (digs true))] 9); have hB3 := hb2.trans ((hA.trans (hb3.mono hA.size)).mono hb2.size); have hg3 := pw_cell_below hb3 (new_string w2 (str (digs true)) 9 (0, 0)))
    | (go_at_call 10; refine (parse_text (whole true m) w3 (hG.out.below hB3) (hGN.out.below hB3) (by have := whole_len true m; omega) _).mono ?_; rw [hpe]; rintro e w8 ⟨⟨_, rfl⟩, hb8⟩; have hB8 := hB3.trans (hb8.mono hB3.size)))
  go_ret
  exact ⟨rfl, hB8⟩

set_option maxHeartbeats 4000000 in
set_option maxRecDepth 100000 in
theorem escapes_b_false (n : Int) (m : Nat) (hm : Aside0 (wrap64 ((IntKind.u64.wrap n).tmod 1114112) = (m : Int))) (w : World) (hG : Aside0 (Glob w)) (hGN : Aside0 (GlobN w)) (hsr : m < 55296 ∨ 57343 < m) (h6 : m < 65536) :
    Calls Tryd.prog 8 #[.int .i64 n, .bool false] w fun e w' => e = .returned (.bool true) ∧ Below w.heap.size w w' := by
  have hx2 : m < 2097152 := by omega
  have hlt : m < 1114112 := by omega
  have c1 : ((m : Int) ≥ 65536) = False := eq_false (by omega)
  have c1' : ((65536 : Int) ≤ (m : Int)) = False := eq_false (by omega)
  have hsplit : ((m : Int) ≥ 55296) = False ∨ (((m : Int) ≥ 55296) = True ∧ ((m : Int) < 57344) = False) := by
    rcases hsr with h | h
    · exact .inl (eq_false (by omega))
    · exact .inr ⟨eq_true (by omega), eq_false (by omega)⟩
  have hes : esc false m = h4 false m := by unfold esc; rw [if_pos (by omega)]
  have hpe := parse_esc false m hlt hsr
  have henc : (encodeRune (m : Int)).length ≤ 4 := by unfold encodeRune; rw [List.length_map]; exact (encodeRuneZ_length _).2
  have e1 : (⟨#[34, 97]⟩ : ByteArray) ++ str (h4 false m) = str (34 :: 97 :: h4 false m) := str_app [34, 97] _
  have e2 : str (34 :: 97 :: h4 false m) ++ (⟨#[98, 34]⟩ : ByteArray) = str (whole false m) := by unfold whole; rw [hes]; exact str_app (34 :: 97 :: h4 false m) [98, 34]
  have s1 : (9223372036854775807 < 2 + (str (h4 false m)).size) = False := eq_false (by rw [str_size]; show ¬ 9223372036854775807 < 2 + 6; decide)
  have s2 : (9223372036854775807 < (str (34 :: 97 :: h4 false m)).size + 2) = False := eq_false (by rw [str_size]; show ¬ 9223372036854775807 < 8 + 2; decide)
  have k1 := fun W => kb (whole false m) W
  have key : ∀ (b1 : Bool), ((m : Int) ≥ 55296) = (b1 = true) → (b1 = true → ((m : Int) < 57344) = False) → Calls Tryd.prog 8 #[.int .i64 n, .bool false] w fun e w' => e = .returned (.bool true) ∧ Below w.heap.size w w' := by
    intro b1 c2 c3
    cases b1
    · have c2' : ((55296 : Int) ≤ (m : Int)) = False := by simpa using c2
      clear c3 hsplit
      go_enter Tryd.func8, Tryd.ntmps8
      go_wp2_with (first
        | (go_at_call 9; refine (awake_walk w hG hGN).mono ?_; rintro e w2 ⟨rfl, hb2⟩; have hG2 := hG.out.below hb2; have hGN2 := hGN.out.below hb2)
        | (go_at_call 14; rw [hm.out]; (with_reducible refine (esc_walk false m hx2 _ w2.heap.size ?hg).mono ?_); (case hg => exact new_string w2 _ _ _); rintro e w3 ⟨rfl, hb3⟩; have hA := below_alloc (Below.refl w2.heap.size w2) (.cells #[.string (str (digs false))] 9); have hB3 := hb2.trans ((hA.trans (hb3.mono hA.size)).mono hb2.size); have hg3 := pw_cell_below hb3 (new_string w2 (str (digs false)) 9 (0, 0)))
        | (go_at_call 10; refine (parse_text (whole false m) w3 (hG.out.below hB3) (hGN.out.below hB3) (by have := whole_len false m; omega) _).mono ?_; rw [hpe]; rintro e w8 ⟨⟨_, tv, rfl, hR⟩, hb8⟩; have hB8 := hB3.trans (hb8.mono hB3.size); obtain ⟨g1, c1, rfl, -, hg1, -⟩ := Kd.R_form hR (Nat.zero_lt_succ _); have hC := (Kd.R_reads' hR).2.2; rw [show ([⟨4, false, 0, str ([97] ++ encodeRune (m : Int) ++ [98]), [], []⟩] : List S39).length = 1 from rfl]; obtain ⟨ad, A4, c4, A5, c5, e0, hx0, hx1, hx2, hx3, hx4, hx5, hl4, hC4, hl5, hC5⟩ := at_T39 hC 0 (by decide) (by show (0 : Int) < 1; decide); obtain rfl := Option.some.inj e0; clear hx0 hx1 hx2 hx4 hx5 hC4 hC5 hC; replace hx3 : w8.cell? ⟨g1, 3, none⟩ = some (.string (str ([97] ++ encodeRune (m : Int) ++ [98]))) := hx3))
      refine start_ (n := 20) (S := fun w' => w'.cell? ⟨g1, 3, none⟩ = some (.string (str ([97] ++ encodeRune (m : Int) ++ [98])))) (ds := []) #[false, false, false, false, false, false, false, false, false, false, false, false, false, false, false, false, false, false, false, false] (by kernel_rfl) rfl rfl hx3 (fun hHeld => ?_)
      refine with_tabW escapes.tab14 escapes.bits14 (fun HT_ HW_ => ?_)
      have hbW : Below w8.heap.size w8 w8.drew := below_drew (Below.refl _ _)
      generalize w8.drew = W0 at *
      refine pure_ (i := 0) (N := some 63) (v := ?_) (a' := ?_) #[true, false, false, false, false, false, false, false, false, false, false, false, false, false, false, false, false, false, false, false] rfl rfl (any_of HT_.out (by kernel_rfl)) (fun _ _ _ h => h) (Or.inl ⟨by rfl, ?_⟩) ?_ ?_
      rotate_left
      · intro w'
        go_simp
        with_reducible rfl
      rotate_left
      · simp only [Act.put, List.setIfInBounds_toArray, List.set_cons_zero, List.set_cons_succ, i64_w, i32_w]
        rfl
      refine pure_ (i := 1) (N := some 64) (v := ?_) (a' := ?_) #[true, true, false, false, false, false, false, false, false, false, false, false, false, false, false, false, false, false, false, false] rfl rfl (any_of HT_.out (by kernel_rfl)) (fun _ _ _ h => h) (Or.inl ⟨by rfl, ?_⟩) ?_ ?_
      rotate_left
      · intro w'
        go_simp
        with_reducible rfl
      rotate_left
      · simp only [Act.put, List.setIfInBounds_toArray, List.set_cons_zero, List.set_cons_succ, i64_w, i32_w]
        rfl
      refine pure_ (i := 2) (N := some 65) (v := ?_) (a' := ?_) #[true, true, true, false, false, false, false, false, false, false, false, false, false, false, false, false, false, false, false, false] rfl rfl (any_of HT_.out (by kernel_rfl)) (fun _ _ _ h => h) (Or.inl ⟨by rfl, ?_⟩) ?_ ?_
      rotate_left
      · intro w'
        go_simp
        with_reducible rfl
      rotate_left
      · simp only [Act.put, List.setIfInBounds_toArray, List.set_cons_zero, List.set_cons_succ, i64_w, i32_w]
        rfl
      refine pure_ (i := 3) (N := some 66) (v := ?_) (a' := ?_) #[true, true, true, true, false, false, false, false, false, false, false, false, false, false, false, false, false, false, false, false] rfl rfl (any_of HT_.out (by kernel_rfl)) (fun _ _ _ h => h) (Or.inl ⟨by rfl, ?_⟩) ?_ ?_
      rotate_left
      · intro w'
        go_simp
        with_reducible rfl
      rotate_left
      · simp only [Act.put, List.setIfInBounds_toArray, List.set_cons_zero, List.set_cons_succ, i64_w, i32_w]
        rfl
      refine pure_ (i := 4) (N := some 67) (v := ?_) (a' := ?_) #[true, true, true, true, true, false, false, false, false, false, false, false, false, false, false, false, false, false, false, false] rfl rfl (any_of HT_.out (by kernel_rfl)) (fun _ _ _ h => h) (Or.inl ⟨by rfl, ?_⟩) ?_ ?_
      rotate_left
      · intro w'
        go_simp
        with_reducible rfl
      rotate_left
      · simp only [Act.put, List.setIfInBounds_toArray, List.set_cons_zero, List.set_cons_succ, i64_w, i32_w]
        rfl
      refine pure_ (i := 5) (N := some 68) (v := ?_) (a' := ?_) #[true, true, true, true, true, true, false, false, false, false, false, false, false, false, false, false, false, false, false, false] rfl rfl (any_of HT_.out (by kernel_rfl)) (fun _ _ _ h => h) (Or.inl ⟨by rfl, ?_⟩) ?_ ?_
      rotate_left
      · intro w'
        go_simp
        with_reducible rfl
      rotate_left
      · simp only [Act.put, List.setIfInBounds_toArray, List.set_cons_zero, List.set_cons_succ, i64_w, i32_w]
        rfl
      refine pure_ (i := 6) (N := some 69) (v := ?_) (a' := ?_) #[true, true, true, true, true, true, true, false, false, false, false, false, false, false, false, false, false, false, false, false] rfl rfl (any_of HT_.out (by kernel_rfl)) (fun _ _ _ h => h) (Or.inl ⟨by rfl, ?_⟩) ?_ ?_
      rotate_left
      · intro w'
        go_simp
        with_reducible rfl
      rotate_left
      · simp only [Act.put, List.setIfInBounds_toArray, List.set_cons_zero, List.set_cons_succ, i64_w, i32_w]
        rfl
      refine pure_ (i := 7) (N := some 70) (v := ?_) (a' := ?_) #[true, true, true, true, true, true, true, true, false, false, false, false, false, false, false, false, false, false, false, false] rfl rfl (any_of HT_.out (by kernel_rfl)) (fun _ _ _ h => h) (Or.inl ⟨by rfl, ?_⟩) ?_ ?_
      rotate_left
      · intro w'
        go_simp
        with_reducible rfl
      rotate_left
      · simp only [Act.put, List.setIfInBounds_toArray, List.set_cons_zero, List.set_cons_succ, i64_w, i32_w]
        rfl
      refine pure_ (i := 8) (N := some 71) (v := ?_) (a' := ?_) #[true, true, true, true, true, true, true, true, true, false, false, false, false, false, false, false, false, false, false, false] rfl rfl (any_of HT_.out (by kernel_rfl)) (fun _ _ _ h => h) (Or.inl ⟨by rfl, ?_⟩) ?_ ?_
      rotate_left
      · intro w'
        go_simp
        with_reducible rfl
      rotate_left
      · simp only [Act.put, List.setIfInBounds_toArray, List.set_cons_zero, List.set_cons_succ, i64_w, i32_w]
        rfl
      refine pure_ (i := 9) (N := some 72) (v := ?_) (a' := ?_) #[true, true, true, true, true, true, true, true, true, true, false, false, false, false, false, false, false, false, false, false] rfl rfl (any_of HT_.out (by kernel_rfl)) (fun _ _ _ h => h) (Or.inl ⟨by rfl, ?_⟩) ?_ ?_
      rotate_left
      · intro w'
        go_simp
        with_reducible rfl
      rotate_left
      · simp only [Act.put, List.setIfInBounds_toArray, List.set_cons_zero, List.set_cons_succ, i64_w, i32_w]
        rfl
      refine pure_ (i := 10) (N := some 73) (v := ?_) (a' := ?_) #[true, true, true, true, true, true, true, true, true, true, true, false, false, false, false, false, false, false, false, false] rfl rfl (any_of HT_.out (by kernel_rfl)) (fun _ _ _ h => h) (Or.inl ⟨by rfl, ?_⟩) ?_ ?_
      rotate_left
      · intro w'
        go_simp
        with_reducible rfl
      rotate_left
      · simp only [Act.put, List.setIfInBounds_toArray, List.set_cons_zero, List.set_cons_succ, i64_w, i32_w]
        rfl
      refine take_ (i := 11) (N := some 74) (v := ?_) (a' := ?_) #[true, true, true, true, true, true, true, true, true, true, true, true, false, false, false, false, false, false, false, false] rfl rfl (take_ofW HT_.out HW_.out (by kernel_rfl)) (fun _ _ _ h => h) (Or.inl ⟨by rfl, ?_⟩) hHeld ?_ ?_
      rotate_left
      · rintro w' s0
        go_simp
        with_reducible rfl
      rotate_left
      · simp only [Act.put, List.setIfInBounds_toArray, List.set_cons_zero, List.set_cons_succ, i64_w, i32_w]
        rfl
      refine pure_ (i := 12) (N := some 75) (v := ?_) (a' := ?_) #[true, true, true, true, true, true, true, true, true, true, true, true, true, false, false, false, false, false, false, false] rfl rfl (any_of HT_.out (by kernel_rfl)) (fun _ _ _ h => h) (Or.inl ⟨by rfl, ?_⟩) ?_ ?_
      rotate_left
      · intro w'
        go_simp
        with_reducible rfl
      rotate_left
      · simp only [Act.put, List.setIfInBounds_toArray, List.set_cons_zero, List.set_cons_succ, i64_w, i32_w]
        rfl
      refine one_ (i := 13) (N := some 76) #[true, true, true, true, true, true, true, true, true, true, true, true, true, true, false, false, false, false, false, false] rfl rfl (one_of HT_.out (by kernel_rfl)) (by decide) (fun K hK => ?_)
      refine goes_ Tryd.func15 (by kernel_rfl) rfl #[.slice none 0 0, .int .i64 (m : Int)] (by rfl) rfl rfl (by kernel_rfl) ?_
      refine (put_nil_walk m hlt hsr W0).mono ?_
      rintro e w9 ⟨v9, rfl, hR9⟩
      obtain ⟨A9, c9, rfl, hr9⟩ := hR9.reads' (by omega)
      have hb9 := hR9.2.1
      refine ⟨_, rfl, ?_⟩
      refine hK.out _ _ (pw_cell_below hb9 hHeld) (fun hh => ?_)
      clear hK K
      have hcv := string_of_reads (P := Tryd.prog) (src := 22) (dst := 9) (e := 5) (c := c9) Tryd.underlying22 Tryd.underlying5 Tryd.underlying9 hr9
      unfold bytesOf at hcv
      rw [strOfNums_bytes] at hcv
      refine one_ (i := 14) (N := some 77) #[true, true, true, true, true, true, true, true, true, true, true, true, true, true, true, false, false, false, false, false] rfl rfl (one_of HT_.out (by kernel_rfl)) (by decide) (fun K hK => ?_)
      refine value_ (v := .string (str (encodeRune (m : Int)))) (w1 := w9) (by rfl) rfl (by first | exact hcv | (go_simp; done) | (go_simp; exact hcv) | (go_simp; rw [hcv]; rfl)) ?_
      refine hK.out _ _ hh (fun hh2 => ?_)
      clear hK K
      refine pure_ (i := 15) (N := some 78) (v := (.string (str (97 :: encodeRune (m : Int))))) (a' := ?_) #[true, true, true, true, true, true, true, true, true, true, true, true, true, true, true, true, false, false, false, false] rfl rfl (any_of HT_.out (by kernel_rfl)) (fun _ _ _ h => h) (Or.inl ⟨by rfl, ?_⟩) ?_ ?_
      · intro w'
        go_simp
        rw [if_neg (by rw [str_size]; omega)]
        exact congrArg (fun x => Result.ok (Next.value (Value.string x)) w') (str_app [97] _)
      rotate_left
      · simp only [Act.put, List.setIfInBounds_toArray, List.set_cons_zero, List.set_cons_succ, i64_w, i32_w]
        rfl
      refine pure_ (i := 16) (N := some 79) (v := (.string (str (97 :: (encodeRune (m : Int) ++ [98]))))) (a' := ?_) #[true, true, true, true, true, true, true, true, true, true, true, true, true, true, true, true, true, false, false, false] rfl rfl (any_of HT_.out (by kernel_rfl)) (fun _ _ _ h => h) (Or.inl ⟨by rfl, ?_⟩) ?_ ?_
      · intro w'
        go_simp
        rw [if_neg (by rw [str_size, List.length_cons]; omega)]
        exact congrArg (fun x => Result.ok (Next.value (Value.string x)) w') (str_app (97 :: encodeRune (m : Int)) [98])
      rotate_left
      · simp only [Act.put, List.setIfInBounds_toArray, List.set_cons_zero, List.set_cons_succ, i64_w, i32_w]
        rfl
      refine pure_ (i := 17) (N := some 80) (v := (.bool true)) (a' := ?_) #[true, true, true, true, true, true, true, true, true, true, true, true, true, true, true, true, true, true, false, false] rfl rfl (any_of HT_.out (by kernel_rfl)) (fun _ _ _ h => h) (Or.inl ⟨by rfl, ?_⟩) ?_ ?_
      · intro w'
        first | (go_simp; done) | (go_simp; rfl) | (go_simp; simp [str])
      rotate_left
      · simp only [Act.put, List.setIfInBounds_toArray, List.set_cons_zero, List.set_cons_succ, i64_w, i32_w]
        rfl
      refine pure_ (i := 18) (N := some 81) (v := ?_) (a' := ?_) #[true, true, true, true, true, true, true, true, true, true, true, true, true, true, true, true, true, true, true, false] rfl rfl (any_of HT_.out (by kernel_rfl)) (fun _ _ _ h => h) (Or.inl ⟨by rfl, ?_⟩) ?_ ?_
      rotate_left
      · intro w'
        go_simp
        with_reducible rfl
      rotate_left
      · simp only [Act.put, List.setIfInBounds_toArray, List.set_cons_zero, List.set_cons_succ, i64_w, i32_w]
        rfl
      refine pure_ (i := 19) (N := some 4) (v := ?_) (a' := ?_) #[true, true, true, true, true, true, true, true, true, true, true, true, true, true, true, true, true, true, true, true] rfl rfl (any_of HT_.out (by kernel_rfl)) (fun _ _ _ h => h) (Or.inl ⟨by rfl, ?_⟩) ?_ ?_
      rotate_left
      · intro w'
        go_simp
        with_reducible rfl
      rotate_left
      · simp only [Act.put, List.setIfInBounds_toArray, List.set_cons_zero, List.set_cons_succ, i64_w, i32_w]
        rfl
      refine done_ (done_of HT_.out (by kernel_rfl)) ?_
      go_wp2
      go_ret
      exact ⟨rfl, hB8.trans ((hbW.trans (hb9.mono hbW.size)).mono hB8.size)⟩
    · have c2' : ((55296 : Int) ≤ (m : Int)) = True := by simpa using c2
      have c4 := c3 rfl
      clear c3 hsplit
      go_enter Tryd.func8, Tryd.ntmps8
      go_wp2_with (first
        | (go_at_call 9; refine (awake_walk w hG hGN).mono ?_; rintro e w2 ⟨rfl, hb2⟩; have hG2 := hG.out.below hb2; have hGN2 := hGN.out.below hb2)
        | (go_at_call 14; rw [hm.out]; (with_reducible refine (esc_walk false m hx2 _ w2.heap.size ?hg).mono ?_); (case hg => exact new_string w2 _ _ _); rintro e w3 ⟨rfl, hb3⟩; have hA := below_alloc (Below.refl w2.heap.size w2) (.cells #[.string (str (digs false))] 9); have hB3 := hb2.trans ((hA.trans (hb3.mono hA.size)).mono hb2.size); have hg3 := pw_cell_below hb3 (new_string w2 (str (digs false)) 9 (0, 0)))
        | (go_at_call 10; refine (parse_text (whole false m) w3 (hG.out.below hB3) (hGN.out.below hB3) (by have := whole_len false m; omega) _).mono ?_; rw [hpe]; rintro e w8 ⟨⟨_, tv, rfl, hR⟩, hb8⟩; have hB8 := hB3.trans (hb8.mono hB3.size); obtain ⟨g1, c1, rfl, -, hg1, -⟩ := Kd.R_form hR (Nat.zero_lt_succ _); have hC := (Kd.R_reads' hR).2.2; rw [show ([⟨4, false, 0, str ([97] ++ encodeRune (m : Int) ++ [98]), [], []⟩] : List S39).length = 1 from rfl]; obtain ⟨ad, A4, c4, A5, c5, e0, hx0, hx1, hx2, hx3, hx4, hx5, hl4, hC4, hl5, hC5⟩ := at_T39 hC 0 (by decide) (by show (0 : Int) < 1; decide); obtain rfl := Option.some.inj e0; clear hx0 hx1 hx2 hx4 hx5 hC4 hC5 hC; replace hx3 : w8.cell? ⟨g1, 3, none⟩ = some (.string (str ([97] ++ encodeRune (m : Int) ++ [98]))) := hx3))
      refine start_ (n := 20) (S := fun w' => w'.cell? ⟨g1, 3, none⟩ = some (.string (str ([97] ++ encodeRune (m : Int) ++ [98])))) (ds := []) #[false, false, false, false, false, false, false, false, false, false, false, false, false, false, false, false, false, false, false, false] (by kernel_rfl) rfl rfl hx3 (fun hHeld => ?_)
      refine with_tabW escapes.tab14 escapes.bits14 (fun HT_ HW_ => ?_)
      have hbW : Below w8.heap.size w8 w8.drew := below_drew (Below.refl _ _)
      generalize w8.drew = W0 at *
      refine pure_ (i := 0) (N := some 63) (v := ?_) (a' := ?_) #[true, false, false, false, false, false, false, false, false, false, false, false, false, false, false, false, false, false, false, false] rfl rfl (any_of HT_.out (by kernel_rfl)) (fun _ _ _ h => h) (Or.inl ⟨by rfl, ?_⟩) ?_ ?_
      rotate_left
      · intro w'
        go_simp
        with_reducible rfl
      rotate_left
      · simp only [Act.put, List.setIfInBounds_toArray, List.set_cons_zero, List.set_cons_succ, i64_w, i32_w]
        rfl
      refine pure_ (i := 1) (N := some 64) (v := ?_) (a' := ?_) #[true, true, false, false, false, false, false, false, false, false, false, false, false, false, false, false, false, false, false, false] rfl rfl (any_of HT_.out (by kernel_rfl)) (fun _ _ _ h => h) (Or.inl ⟨by rfl, ?_⟩) ?_ ?_
      rotate_left
      · intro w'
        go_simp
        with_reducible rfl
      rotate_left
      · simp only [Act.put, List.setIfInBounds_toArray, List.set_cons_zero, List.set_cons_succ, i64_w, i32_w]
        rfl
      refine pure_ (i := 2) (N := some 65) (v := ?_) (a' := ?_) #[true, true, true, false, false, false, false, false, false, false, false, false, false, false, false, false, false, false, false, false] rfl rfl (any_of HT_.out (by kernel_rfl)) (fun _ _ _ h => h) (Or.inl ⟨by rfl, ?_⟩) ?_ ?_
      rotate_left
      · intro w'
        go_simp
        with_reducible rfl
      rotate_left
      · simp only [Act.put, List.setIfInBounds_toArray, List.set_cons_zero, List.set_cons_succ, i64_w, i32_w]
        rfl
      refine pure_ (i := 3) (N := some 66) (v := ?_) (a' := ?_) #[true, true, true, true, false, false, false, false, false, false, false, false, false, false, false, false, false, false, false, false] rfl rfl (any_of HT_.out (by kernel_rfl)) (fun _ _ _ h => h) (Or.inl ⟨by rfl, ?_⟩) ?_ ?_
      rotate_left
      · intro w'
        go_simp
        with_reducible rfl
      rotate_left
      · simp only [Act.put, List.setIfInBounds_toArray, List.set_cons_zero, List.set_cons_succ, i64_w, i32_w]
        rfl
      refine pure_ (i := 4) (N := some 67) (v := ?_) (a' := ?_) #[true, true, true, true, true, false, false, false, false, false, false, false, false, false, false, false, false, false, false, false] rfl rfl (any_of HT_.out (by kernel_rfl)) (fun _ _ _ h => h) (Or.inl ⟨by rfl, ?_⟩) ?_ ?_
      rotate_left
      · intro w'
        go_simp
        with_reducible rfl
      rotate_left
      · simp only [Act.put, List.setIfInBounds_toArray, List.set_cons_zero, List.set_cons_succ, i64_w, i32_w]
        rfl
      refine pure_ (i := 5) (N := some 68) (v := ?_) (a' := ?_) #[true, true, true, true, true, true, false, false, false, false, false, false, false, false, false, false, false, false, false, false] rfl rfl (any_of HT_.out (by kernel_rfl)) (fun _ _ _ h => h) (Or.inl ⟨by rfl, ?_⟩) ?_ ?_
      rotate_left
      · intro w'
        go_simp
        with_reducible rfl
      rotate_left
      · simp only [Act.put, List.setIfInBounds_toArray, List.set_cons_zero, List.set_cons_succ, i64_w, i32_w]
        rfl
      refine pure_ (i := 6) (N := some 69) (v := ?_) (a' := ?_) #[true, true, true, true, true, true, true, false, false, false, false, false, false, false, false, false, false, false, false, false] rfl rfl (any_of HT_.out (by kernel_rfl)) (fun _ _ _ h => h) (Or.inl ⟨by rfl, ?_⟩) ?_ ?_
      rotate_left
      · intro w'
        go_simp
        with_reducible rfl
      rotate_left
      · simp only [Act.put, List.setIfInBounds_toArray, List.set_cons_zero, List.set_cons_succ, i64_w, i32_w]
        rfl
      refine pure_ (i := 7) (N := some 70) (v := ?_) (a' := ?_) #[true, true, true, true, true, true, true, true, false, false, false, false, false, false, false, false, false, false, false, false] rfl rfl (any_of HT_.out (by kernel_rfl)) (fun _ _ _ h => h) (Or.inl ⟨by rfl, ?_⟩) ?_ ?_
      rotate_left
      · intro w'
        go_simp
        with_reducible rfl
      rotate_left
      · simp only [Act.put, List.setIfInBounds_toArray, List.set_cons_zero, List.set_cons_succ, i64_w, i32_w]
        rfl
      refine pure_ (i := 8) (N := some 71) (v := ?_) (a' := ?_) #[true, true, true, true, true, true, true, true, true, false, false, false, false, false, false, false, false, false, false, false] rfl rfl (any_of HT_.out (by kernel_rfl)) (fun _ _ _ h => h) (Or.inl ⟨by rfl, ?_⟩) ?_ ?_
      rotate_left
      · intro w'
        go_simp
        with_reducible rfl
      rotate_left
      · simp only [Act.put, List.setIfInBounds_toArray, List.set_cons_zero, List.set_cons_succ, i64_w, i32_w]
        rfl
      refine pure_ (i := 9) (N := some 72) (v := ?_) (a' := ?_) #[true, true, true, true, true, true, true, true, true, true, false, false, false, false, false, false, false, false, false, false] rfl rfl (any_of HT_.out (by kernel_rfl)) (fun _ _ _ h => h) (Or.inl ⟨by rfl, ?_⟩) ?_ ?_
      rotate_left
      · intro w'
        go_simp
        with_reducible rfl
      rotate_left
      · simp only [Act.put, List.setIfInBounds_toArray, List.set_cons_zero, List.set_cons_succ, i64_w, i32_w]
        rfl
      refine pure_ (i := 10) (N := some 73) (v := ?_) (a' := ?_) #[true, true, true, true, true, true, true, true, true, true, true, false, false, false, false, false, false, false, false, false] rfl rfl (any_of HT_.out (by kernel_rfl)) (fun _ _ _ h => h) (Or.inl ⟨by rfl, ?_⟩) ?_ ?_
      rotate_left
      · intro w'
        go_simp
        with_reducible rfl
      rotate_left
      · simp only [Act.put, List.setIfInBounds_toArray, List.set_cons_zero, List.set_cons_succ, i64_w, i32_w]
        rfl
      refine take_ (i := 11) (N := some 74) (v := ?_) (a' := ?_) #[true, true, true, true, true, true, true, true, true, true, true, true, false, false, false, false, false, false, false, false] rfl rfl (take_ofW HT_.out HW_.out (by kernel_rfl)) (fun _ _ _ h => h) (Or.inl ⟨by rfl, ?_⟩) hHeld ?_ ?_
      rotate_left
      · rintro w' s0
        go_simp
        with_reducible rfl
      rotate_left
      · simp only [Act.put, List.setIfInBounds_toArray, List.set_cons_zero, List.set_cons_succ, i64_w, i32_w]
        rfl
      refine pure_ (i := 12) (N := some 75) (v := ?_) (a' := ?_) #[true, true, true, true, true, true, true, true, true, true, true, true, true, false, false, false, false, false, false, false] rfl rfl (any_of HT_.out (by kernel_rfl)) (fun _ _ _ h => h) (Or.inl ⟨by rfl, ?_⟩) ?_ ?_
      rotate_left
      · intro w'
        go_simp
        with_reducible rfl
      rotate_left
      · simp only [Act.put, List.setIfInBounds_toArray, List.set_cons_zero, List.set_cons_succ, i64_w, i32_w]
        rfl
      refine one_ (i := 13) (N := some 76) #[true, true, true, true, true, true, true, true, true, true, true, true, true, true, false, false, false, false, false, false] rfl rfl (one_of HT_.out (by kernel_rfl)) (by decide) (fun K hK => ?_)
      refine goes_ Tryd.func15 (by kernel_rfl) rfl #[.slice none 0 0, .int .i64 (m : Int)] (by rfl) rfl rfl (by kernel_rfl) ?_
      refine (put_nil_walk m hlt hsr W0).mono ?_
      rintro e w9 ⟨v9, rfl, hR9⟩
      obtain ⟨A9, c9, rfl, hr9⟩ := hR9.reads' (by omega)
      have hb9 := hR9.2.1
      refine ⟨_, rfl, ?_⟩
      refine hK.out _ _ (pw_cell_below hb9 hHeld) (fun hh => ?_)
      clear hK K
      have hcv := string_of_reads (P := Tryd.prog) (src := 22) (dst := 9) (e := 5) (c := c9) Tryd.underlying22 Tryd.underlying5 Tryd.underlying9 hr9
      unfold bytesOf at hcv
      rw [strOfNums_bytes] at hcv
      refine one_ (i := 14) (N := some 77) #[true, true, true, true, true, true, true, true, true, true, true, true, true, true, true, false, false, false, false, false] rfl rfl (one_of HT_.out (by kernel_rfl)) (by decide) (fun K hK => ?_)
      refine value_ (v := .string (str (encodeRune (m : Int)))) (w1 := w9) (by rfl) rfl (by first | exact hcv | (go_simp; done) | (go_simp; exact hcv) | (go_simp; rw [hcv]; rfl)) ?_
      refine hK.out _ _ hh (fun hh2 => ?_)
      clear hK K
      refine pure_ (i := 15) (N := some 78) (v := (.string (str (97 :: encodeRune (m : Int))))) (a' := ?_) #[true, true, true, true, true, true, true, true, true, true, true, true, true, true, true, true, false, false, false, false] rfl rfl (any_of HT_.out (by kernel_rfl)) (fun _ _ _ h => h) (Or.inl ⟨by rfl, ?_⟩) ?_ ?_
      · intro w'
        go_simp
        rw [if_neg (by rw [str_size]; omega)]
        exact congrArg (fun x => Result.ok (Next.value (Value.string x)) w') (str_app [97] _)
      rotate_left
      · simp only [Act.put, List.setIfInBounds_toArray, List.set_cons_zero, List.set_cons_succ, i64_w, i32_w]
        rfl
      refine pure_ (i := 16) (N := some 79) (v := (.string (str (97 :: (encodeRune (m : Int) ++ [98]))))) (a' := ?_) #[true, true, true, true, true, true, true, true, true, true, true, true, true, true, true, true, true, false, false, false] rfl rfl (any_of HT_.out (by kernel_rfl)) (fun _ _ _ h => h) (Or.inl ⟨by rfl, ?_⟩) ?_ ?_
      · intro w'
        go_simp
        rw [if_neg (by rw [str_size, List.length_cons]; omega)]
        exact congrArg (fun x => Result.ok (Next.value (Value.string x)) w') (str_app (97 :: encodeRune (m : Int)) [98])
      rotate_left
      · simp only [Act.put, List.setIfInBounds_toArray, List.set_cons_zero, List.set_cons_succ, i64_w, i32_w]
        rfl
      refine pure_ (i := 17) (N := some 80) (v := (.bool true)) (a' := ?_) #[true, true, true, true, true, true, true, true, true, true, true, true, true, true, true, true, true, true, false, false] rfl rfl (any_of HT_.out (by kernel_rfl)) (fun _ _ _ h => h) (Or.inl ⟨by rfl, ?_⟩) ?_ ?_
      · intro w'
        first | (go_simp; done) | (go_simp; rfl) | (go_simp; simp [str])
      rotate_left
      · simp only [Act.put, List.setIfInBounds_toArray, List.set_cons_zero, List.set_cons_succ, i64_w, i32_w]
        rfl
      refine pure_ (i := 18) (N := some 81) (v := ?_) (a' := ?_) #[true, true, true, true, true, true, true, true, true, true, true, true, true, true, true, true, true, true, true, false] rfl rfl (any_of HT_.out (by kernel_rfl)) (fun _ _ _ h => h) (Or.inl ⟨by rfl, ?_⟩) ?_ ?_
      rotate_left
      · intro w'
        go_simp
        with_reducible rfl
      rotate_left
      · simp only [Act.put, List.setIfInBounds_toArray, List.set_cons_zero, List.set_cons_succ, i64_w, i32_w]
        rfl
      refine pure_ (i := 19) (N := some 4) (v := ?_) (a' := ?_) #[true, true, true, true, true, true, true, true, true, true, true, true, true, true, true, true, true, true, true, true] rfl rfl (any_of HT_.out (by kernel_rfl)) (fun _ _ _ h => h) (Or.inl ⟨by rfl, ?_⟩) ?_ ?_
      rotate_left
      · intro w'
        go_simp
        with_reducible rfl
      rotate_left
      · simp only [Act.put, List.setIfInBounds_toArray, List.set_cons_zero, List.set_cons_succ, i64_w, i32_w]
        rfl
      refine done_ (done_of HT_.out (by kernel_rfl)) ?_
      go_wp2
      go_ret
      exact ⟨rfl, hB8.trans ((hbW.trans (hb9.mono hbW.size)).mono hB8.size)⟩
  rcases hsplit with h | ⟨h, h'⟩
  · exact key false (by rw [h]; simp) (fun e => by cases e)
  · exact key true (by rw [h]; simp) (fun _ => h')

set_option maxHeartbeats 4000000 in
set_option maxRecDepth 100000 in
theorem escapes_b_true (n : Int) (m : Nat) (hm : Aside0 (wrap64 ((IntKind.u64.wrap n).tmod 1114112) = (m : Int))) (w : World) (hG : Aside0 (Glob w)) (hGN : Aside0 (GlobN w)) (hsr : m < 55296 ∨ 57343 < m) (h6 : m < 65536) :
    Calls Tryd.prog 8 #[.int .i64 n, .bool true] w fun e w' => e = .returned (.bool true) ∧ Below w.heap.size w w' := by
  have hx2 : m < 2097152 := by omega
  have hlt : m < 1114112 := by omega
  have c1 : ((m : Int) ≥ 65536) = False := eq_false (by omega)
  have c1' : ((65536 : Int) ≤ (m : Int)) = False := eq_false (by omega)
  have hsplit : ((m : Int) ≥ 55296) = False ∨ (((m : Int) ≥ 55296) = True ∧ ((m : Int) < 57344) = False) := by
    rcases hsr with h | h
    · exact .inl (eq_false (by omega))
    · exact .inr ⟨eq_true (by omega), eq_false (by omega)⟩
  have hes : esc true m = h4 true m := by unfold esc; rw [if_pos (by omega)]
  have hpe := parse_esc true m hlt hsr
  have henc : (encodeRune (m : Int)).length ≤ 4 := by unfold encodeRune; rw [List.length_map]; exact (encodeRuneZ_length _).2
  have e1 : (⟨#[34, 97]⟩ : ByteArray) ++ str (h4 true m) = str (34 :: 97 :: h4 true m) := str_app [34, 97] _
  have e2 : str (34 :: 97 :: h4 true m) ++ (⟨#[98, 34]⟩ : ByteArray) = str (whole true m) := by unfold whole; rw [hes]; exact str_app (34 :: 97 :: h4 true m) [98, 34]
  have s1 : (9223372036854775807 < 2 + (str (h4 true m)).size) = False := eq_false (by rw [str_size]; show ¬ 9223372036854775807 < 2 + 6; decide)
  have s2 : (9223372036854775807 < (str (34 :: 97 :: h4 true m)).size + 2) = False := eq_false (by rw [str_size]; show ¬ 9223372036854775807 < 8 + 2; decide)
  have k1 := fun W => kb (whole true m) W
  have key : ∀ (b1 : Bool), ((m : Int) ≥ 55296) = (b1 = true) → (b1 = true → ((m : Int) < 57344) = False) → Calls Tryd.prog 8 #[.int .i64 n, .bool true] w fun e w' => e = .returned (.bool true) ∧ Below w.heap.size w w' := by
    intro b1 c2 c3
    cases b1
    · have c2' : ((55296 : Int) ≤ (m : Int)) = False := by simpa using c2
      clear c3 hsplit
      go_enter Tryd.func8, Tryd.ntmps8
      go_wp2_with (first
        | (go_at_call 9; refine (awake_walk w hG hGN).mono ?_; rintro e w2 ⟨rfl, hb2⟩; have hG2 := hG.out.below hb2; have hGN2 := hGN.out.below hb2)
        | (go_at_call 14; rw [hm.out]; (with_reducible refine (esc_walk true m hx2 _ w2.heap.size ?hg).mono ?_); (case hg => exact new_string w2 _ _ _); rintro e w3 ⟨rfl, hb3⟩; have hA := below_alloc (Below.refl w2.heap.size w2) (.cells #[.string (str (digs true))] 9); have hB3 := hb2.trans ((hA.trans (hb3.mono hA.size)).mono hb2.size); have hg3 := pw_cell_below hb3 (new_string w2 (str (digs true)) 9 (0, 0)))
        | (go_at_call 10; refine (parse_text (whole true m) w3 (hG.out.below hB3) (hGN.out.below hB3) (by have := whole_len true m; omega) _).mono ?_; rw [hpe]; rintro e w8 ⟨⟨_, tv, rfl, hR⟩, hb8⟩; have hB8 := hB3.trans (hb8.mono hB3.size); obtain ⟨g1, c1, rfl, -, hg1, -⟩ := Kd.R_form hR (Nat.zero_lt_succ _); have hC := (Kd.R_reads' hR).2.2; rw [show ([⟨4, false, 0, str ([97] ++ encodeRune (m : Int) ++ [98]), [], []⟩] : List S39).length = 1 from rfl]; obtain ⟨ad, A4, c4, A5, c5, e0, hx0, hx1, hx2, hx3, hx4, hx5, hl4, hC4, hl5, hC5⟩ := at_T39 hC 0 (by decide) (by show (0 : Int) < 1; decide); obtain rfl := Option.some.inj e0; clear hx0 hx1 hx2 hx4 hx5 hC4 hC5 hC; replace hx3 : w8.cell? ⟨g1, 3, none⟩ = some (.string (str ([97] ++ encodeRune (m : Int) ++ [98]))) := hx3))
      refine start_ (n := 20) (S := fun w' => w'.cell? ⟨g1, 3, none⟩ = some (.string (str ([97] ++ encodeRune (m : Int) ++ [98])))) (ds := []) #[false, false, false, false, false, false, false, false, false, false, false, false, false, false, false, false, false, false, false, false] (by kernel_rfl) rfl rfl hx3 (fun hHeld => ?_)
      refine with_tabW escapes.tab14 escapes.bits14 (fun HT_ HW_ => ?_)
      have hbW : Below w8.heap.size w8 w8.drew := below_drew (Below.refl _ _)
      generalize w8.drew = W0 at *
      refine pure_ (i := 0) (N := some 63) (v := ?_) (a' := ?_) #[true, false, false, false, false, false, false, false, false, false, false, false, false, false, false, false, false, false, false, false] rfl rfl (any_of HT_.out (by kernel_rfl)) (fun _ _ _ h => h) (Or.inl ⟨by rfl, ?_⟩) ?_ ?_
      rotate_left
      · intro w'
        go_simp
        with_reducible rfl
      rotate_left
      · simp only [Act.put, List.setIfInBounds_toArray, List.set_cons_zero, List.set_cons_succ, i64_w, i32_w]
        rfl
      refine pure_ (i := 1) (N := some 64) (v := ?_) (a' := ?_) #[true, true, false, false, false, false, false, false, false, false, false, false, false, false, false, false, false, false, false, false] rfl rfl (any_of HT_.out (by kernel_rfl)) (fun _ _ _ h => h) (Or.inl ⟨by rfl, ?_⟩) ?_ ?_
      rotate_left
      · intro w'
        go_simp
        with_reducible rfl
      rotate_left
      · simp only [Act.put, List.setIfInBounds_toArray, List.set_cons_zero, List.set_cons_succ, i64_w, i32_w]
        rfl
      refine pure_ (i := 2) (N := some 65) (v := ?_) (a' := ?_) #[true, true, true, false, false, false, false, false, false, false, false, false, false, false, false, false, false, false, false, false] rfl rfl (any_of HT_.out (by kernel_rfl)) (fun _ _ _ h => h) (Or.inl ⟨by rfl, ?_⟩) ?_ ?_
      rotate_left
      · intro w'
        go_simp
        with_reducible rfl
      rotate_left
      · simp only [Act.put, List.setIfInBounds_toArray, List.set_cons_zero, List.set_cons_succ, i64_w, i32_w]
        rfl
      refine pure_ (i := 3) (N := some 66) (v := ?_) (a' := ?_) #[true, true, true, true, false, false, false, false, false, false, false, false, false, false, false, false, false, false, false, false] rfl rfl (any_of HT_.out (by kernel_rfl)) (fun _ _ _ h => h) (Or.inl ⟨by rfl, ?_⟩) ?_ ?_
      rotate_left
      · intro w'
        go_simp
        with_reducible rfl
      rotate_left
      · simp only [Act.put, List.setIfInBounds_toArray, List.set_cons_zero, List.set_cons_succ, i64_w, i32_w]
        rfl
      refine pure_ (i := 4) (N := some 67) (v := ?_) (a' := ?_) #[true, true, true, true, true, false, false, false, false, false, false, false, false, false, false, false, false, false, false, false] rfl rfl (any_of HT_.out (by kernel_rfl)) (fun _ _ _ h => h) (Or.inl ⟨by rfl, ?_⟩) ?_ ?_
      rotate_left
      · intro w'
        go_simp
        with_reducible rfl
      rotate_left
      · simp only [Act.put, List.setIfInBounds_toArray, List.set_cons_zero, List.set_cons_succ, i64_w, i32_w]
        rfl
      refine pure_ (i := 5) (N := some 68) (v := ?_) (a' := ?_) #[true, true, true, true, true, true, false, false, false, false, false, false, false, false, false, false, false, false, false, false] rfl rfl (any_of HT_.out (by kernel_rfl)) (fun _ _ _ h => h) (Or.inl ⟨by rfl, ?_⟩) ?_ ?_
      rotate_left
      · intro w'
        go_simp
        with_reducible rfl
      rotate_left
      · simp only [Act.put, List.setIfInBounds_toArray, List.set_cons_zero, List.set_cons_succ, i64_w, i32_w]
        rfl
      refine pure_ (i := 6) (N := some 69) (v := ?_) (a' := ?_) #[true, true, true, true, true, true, true, false, false, false, false, false, false, false, false, false, false, false, false, false] rfl rfl (any_of HT_.out (by kernel_rfl)) (fun _ _ _ h => h) (Or.inl ⟨by rfl, ?_⟩) ?_ ?_
      rotate_left
      · intro w'
        go_simp
        with_reducible rfl
      rotate_left
      · simp only [Act.put, List.setIfInBounds_toArray, List.set_cons_zero, List.set_cons_succ, i64_w, i32_w]
        rfl
      refine pure_ (i := 7) (N := some 70) (v := ?_) (a' := ?_) #[true, true, true, true, true, true, true, true, false, false, false, false, false, false, false, false, false, false, false, false] rfl rfl (any_of HT_.out (by kernel_rfl)) (fun _ _ _ h => h) (Or.inl ⟨by rfl, ?_⟩) ?_ ?_
      rotate_left
      · intro w'
        go_simp
        with_reducible rfl
      rotate_left
      · simp only [Act.put, List.setIfInBounds_toArray, List.set_cons_zero, List.set_cons_succ, i64_w, i32_w]
        rfl
      refine pure_ (i := 8) (N := some 71) (v := ?_) (a' := ?_) #[true, true, true, true, true, true, true, true, true, false, false, false, false, false, false, false, false, false, false, false] rfl rfl (any_of HT_.out (by kernel_rfl)) (fun _ _ _ h => h) (Or.inl ⟨by rfl, ?_⟩) ?_ ?_
      rotate_left
      · intro w'
        go_simp
        with_reducible rfl
      rotate_left
      · simp only [Act.put, List.setIfInBounds_toArray, List.set_cons_zero, List.set_cons_succ, i64_w, i32_w]
        rfl
      refine pure_ (i := 9) (N := some 72) (v := ?_) (a' := ?_) #[true, true, true, true, true, true, true, true, true, true, false, false, false, false, false, false, false, false, false, false] rfl rfl (any_of HT_.out (by kernel_rfl)) (fun _ _ _ h => h) (Or.inl ⟨by rfl, ?_⟩) ?_ ?_
      rotate_left
      · intro w'
        go_simp
        with_reducible rfl
      rotate_left
      · simp only [Act.put, List.setIfInBounds_toArray, List.set_cons_zero, List.set_cons_succ, i64_w, i32_w]
        rfl
      refine pure_ (i := 10) (N := some 73) (v := ?_) (a' := ?_) #[true, true, true, true, true, true, true, true, true, true, true, false, false, false, false, false, false, false, false, false] rfl rfl (any_of HT_.out (by kernel_rfl)) (fun _ _ _ h => h) (Or.inl ⟨by rfl, ?_⟩) ?_ ?_
      rotate_left
      · intro w'
        go_simp
        with_reducible rfl
      rotate_left
      · simp only [Act.put, List.setIfInBounds_toArray, List.set_cons_zero, List.set_cons_succ, i64_w, i32_w]
        rfl
      refine take_ (i := 11) (N := some 74) (v := ?_) (a' := ?_) #[true, true, true, true, true, true, true, true, true, true, true, true, false, false, false, false, false, false, false, false] rfl rfl (take_ofW HT_.out HW_.out (by kernel_rfl)) (fun _ _ _ h => h) (Or.inl ⟨by rfl, ?_⟩) hHeld ?_ ?_
      rotate_left
      · rintro w' s0
        go_simp
        with_reducible rfl
      rotate_left
      · simp only [Act.put, List.setIfInBounds_toArray, List.set_cons_zero, List.set_cons_succ, i64_w, i32_w]
        rfl
      refine pure_ (i := 12) (N := some 75) (v := ?_) (a' := ?_) #[true, true, true, true, true, true, true, true, true, true, true, true, true, false, false, false, false, false, false, false] rfl rfl (any_of HT_.out (by kernel_rfl)) (fun _ _ _ h => h) (Or.inl ⟨by rfl, ?_⟩) ?_ ?_
      rotate_left
      · intro w'
        go_simp
        with_reducible rfl
      rotate_left
      · simp only [Act.put, List.setIfInBounds_toArray, List.set_cons_zero, List.set_cons_succ, i64_w, i32_w]
        rfl
      refine one_ (i := 13) (N := some 76) #[true, true, true, true, true, true, true, true, true, true, true, true, true, true, false, false, false, false, false, false] rfl rfl (one_of HT_.out (by kernel_rfl)) (by decide) (fun K hK => ?_)
      refine goes_ Tryd.func15 (by kernel_rfl) rfl #[.slice none 0 0, .int .i64 (m : Int)] (by rfl) rfl rfl (by kernel_rfl) ?_
      refine (put_nil_walk m hlt hsr W0).mono ?_
      rintro e w9 ⟨v9, rfl, hR9⟩
      obtain ⟨A9, c9, rfl, hr9⟩ := hR9.reads' (by omega)
      have hb9 := hR9.2.1
      refine ⟨_, rfl, ?_⟩
      refine hK.out _ _ (pw_cell_below hb9 hHeld) (fun hh => ?_)
      clear hK K
      have hcv := string_of_reads (P := Tryd.prog) (src := 22) (dst := 9) (e := 5) (c := c9) Tryd.underlying22 Tryd.underlying5 Tryd.underlying9 hr9
      unfold bytesOf at hcv
      rw [strOfNums_bytes] at hcv
      refine one_ (i := 14) (N := some 77) #[true, true, true, true, true, true, true, true, true, true, true, true, true, true, true, false, false, false, false, false] rfl rfl (one_of HT_.out (by kernel_rfl)) (by decide) (fun K hK => ?_)
      refine value_ (v := .string (str (encodeRune (m : Int)))) (w1 := w9) (by rfl) rfl (by first | exact hcv | (go_simp; done) | (go_simp; exact hcv) | (go_simp; rw [hcv]; rfl)) ?_
      refine hK.out _ _ hh (fun hh2 => ?_)
      clear hK K
      refine pure_ (i := 15) (N := some 78) (v := (.string (str (97 :: encodeRune (m : Int))))) (a' := ?_) #[true, true, true, true, true, true, true, true, true, true, true, true, true, true, true, true, false, false, false, false] rfl rfl (any_of HT_.out (by kernel_rfl)) (fun _ _ _ h => h) (Or.inl ⟨by rfl, ?_⟩) ?_ ?_
      · intro w'
        go_simp
        rw [if_neg (by rw [str_size]; omega)]
        exact congrArg (fun x => Result.ok (Next.value (Value.string x)) w') (str_app [97] _)
      rotate_left
      · simp only [Act.put, List.setIfInBounds_toArray, List.set_cons_zero, List.set_cons_succ, i64_w, i32_w]
        rfl
      refine pure_ (i := 16) (N := some 79) (v := (.string (str (97 :: (encodeRune (m : Int) ++ [98]))))) (a' := ?_) #[true, true, true, true, true, true, true, true, true, true, true, true, true, true, true, true, true, false, false, false] rfl rfl (any_of HT_.out (by kernel_rfl)) (fun _ _ _ h => h) (Or.inl ⟨by rfl, ?_⟩) ?_ ?_
      · intro w'
        go_simp
        rw [if_neg (by rw [str_size, List.length_cons]; omega)]
        exact congrArg (fun x => Result.ok (Next.value (Value.string x)) w') (str_app (97 :: encodeRune (m : Int)) [98])
      rotate_left
      · simp only [Act.put, List.setIfInBounds_toArray, List.set_cons_zero, List.set_cons_succ, i64_w, i32_w]
        rfl
      refine pure_ (i := 17) (N := some 80) (v := (.bool true)) (a' := ?_) #[true, true, true, true, true, true, true, true, true, true, true, true, true, true, true, true, true, true, false, false] rfl rfl (any_of HT_.out (by kernel_rfl)) (fun _ _ _ h => h) (Or.inl ⟨by rfl, ?_⟩) ?_ ?_
      · intro w'
        first | (go_simp; done) | (go_simp; rfl) | (go_simp; simp [str])
      rotate_left
      · simp only [Act.put, List.setIfInBounds_toArray, List.set_cons_zero, List.set_cons_succ, i64_w, i32_w]
        rfl
      refine pure_ (i := 18) (N := some 81) (v := ?_) (a' := ?_) #[true, true, true, true, true, true, true, true, true, true, true, true, true, true, true, true, true, true, true, false] rfl rfl (any_of HT_.out (by kernel_rfl)) (fun _ _ _ h => h) (Or.inl ⟨by rfl, ?_⟩) ?_ ?_
      rotate_left
      · intro w'
        go_simp
        with_reducible rfl
      rotate_left
      · simp only [Act.put, List.setIfInBounds_toArray, List.set_cons_zero, List.set_cons_succ, i64_w, i32_w]
        rfl
      refine pure_ (i := 19) (N := some 4) (v := ?_) (a' := ?_) #[true, true, true, true, true, true, true, true, true, true, true, true, true, true, true, true, true, true, true, true] rfl rfl (any_of HT_.out (by kernel_rfl)) (fun _ _ _ h => h) (Or.inl ⟨by rfl, ?_⟩) ?_ ?_
      rotate_left
      · intro w'
        go_simp
        with_reducible rfl
      rotate_left
      · simp only [Act.put, List.setIfInBounds_toArray, List.set_cons_zero, List.set_cons_succ, i64_w, i32_w]
        rfl
      refine done_ (done_of HT_.out (by kernel_rfl)) ?_
      go_wp2
      go_ret
      exact ⟨rfl, hB8.trans ((hbW.trans (hb9.mono hbW.size)).mono hB8.size)⟩
    · have c2' : ((55296 : Int) ≤ (m : Int)) = True := by simpa using c2
      have c4 := c3 rfl
      clear c3 hsplit
      go_enter Tryd.func8, Tryd.ntmps8
      go_wp2_with (first
        | (go_at_call 9; refine (awake_walk w hG hGN).mono ?_; rintro e w2 ⟨rfl, hb2⟩; have hG2 := hG.out.below hb2; have hGN2 := hGN.out.below hb2)
        | (go_at_call 14; rw [hm.out]; (with_reducible refine (esc_walk true m hx2 _ w2.heap.size ?hg).mono ?_); (case hg => exact new_string w2 _ _ _); rintro e w3 ⟨rfl, hb3⟩; have hA := below_alloc (Below.refl w2.heap.size w2) (.cells #[.string (str (digs true))] 9); have hB3 := hb2.trans ((hA.trans (hb3.mono hA.size)).mono hb2.size); have hg3 := pw_cell_below hb3 (new_string w2 (str (digs true)) 9 (0, 0)))
        | (go_at_call 10; refine (parse_text (whole true m) w3 (hG.out.below hB3) (hGN.out.below hB3) (by have := whole_len true m; omega) _).mono ?_; rw [hpe]; rintro e w8 ⟨⟨_, tv, rfl, hR⟩, hb8⟩; have hB8 := hB3.trans (hb8.mono hB3.size); obtain ⟨g1, c1, rfl, -, hg1, -⟩ := Kd.R_form hR (Nat.zero_lt_succ _); have hC := (Kd.R_reads' hR).2.2; rw [show ([⟨4, false, 0, str ([97] ++ encodeRune (m : Int) ++ [98]), [], []⟩] : List S39).length = 1 from rfl]; obtain ⟨ad, A4, c4, A5, c5, e0, hx0, hx1, hx2, hx3, hx4, hx5, hl4, hC4, hl5, hC5⟩ := at_T39 hC 0 (by decide) (by show (0 : Int) < 1; decide); obtain rfl := Option.some.inj e0; clear hx0 hx1 hx2 hx4 hx5 hC4 hC5 hC; replace hx3 : w8.cell? ⟨g1, 3, none⟩ = some (.string (str ([97] ++ encodeRune (m : Int) ++ [98]))) := hx3))
      refine start_ (n := 20) (S := fun w' => w'.cell? ⟨g1, 3, none⟩ = some (.string (str ([97] ++ encodeRune (m : Int) ++ [98])))) (ds := []) #[false, false, false, false, false, false, false, false, false, false, false, false, false, false, false, false, false, false, false, false] (by kernel_rfl) rfl rfl hx3 (fun hHeld => ?_)
      refine with_tabW escapes.tab14 escapes.bits14 (fun HT_ HW_ => ?_)
      have hbW : Below w8.heap.size w8 w8.drew := below_drew (Below.refl _ _)
      generalize w8.drew = W0 at *
      refine pure_ (i := 0) (N := some 63) (v := ?_) (a' := ?_) #[true, false, false, false, false, false, false, false, false, false, false, false, false, false, false, false, false, false, false, false] rfl rfl (any_of HT_.out (by kernel_rfl)) (fun _ _ _ h => h) (Or.inl ⟨by rfl, ?_⟩) ?_ ?_
      rotate_left
      · intro w'
        go_simp
        with_reducible rfl
      rotate_left
      · simp only [Act.put, List.setIfInBounds_toArray, List.set_cons_zero, List.set_cons_succ, i64_w, i32_w]
        rfl
      refine pure_ (i := 1) (N := some 64) (v := ?_) (a' := ?_) #[true, true, false, false, false, false, false, false, false, false, false, false, false, false, false, false, false, false, false, false] rfl rfl (any_of HT_.out (by kernel_rfl)) (fun _ _ _ h => h) (Or.inl ⟨by rfl, ?_⟩) ?_ ?_
      rotate_left
      · intro w'
        go_simp
        with_reducible rfl
      rotate_left
      · simp only [Act.put, List.setIfInBounds_toArray, List.set_cons_zero, List.set_cons_succ, i64_w, i32_w]
        rfl
      refine pure_ (i := 2) (N := some 65) (v := ?_) (a' := ?_) #[true, true, true, false, false, false, false, false, false, false, false, false, false, false, false, false, false, false, false, false] rfl rfl (any_of HT_.out (by kernel_rfl)) (fun _ _ _ h => h) (Or.inl ⟨by rfl, ?_⟩) ?_ ?_
      rotate_left
      · intro w'
        go_simp
        with_reducible rfl
      rotate_left
      · simp only [Act.put, List.setIfInBounds_toArray, List.set_cons_zero, List.set_cons_succ, i64_w, i32_w]
        rfl
      refine pure_ (i := 3) (N := some 66) (v := ?_) (a' := ?_) #[true, true, true, true, false, false, false, false, false, false, false, false, false, false, false, false, false, false, false, false] rfl rfl (any_of HT_.out (by kernel_rfl)) (fun _ _ _ h => h) (Or.inl ⟨by rfl, ?_⟩) ?_ ?_
      rotate_left
      · intro w'
        go_simp
        with_reducible rfl
      rotate_left
      · simp only [Act.put, List.setIfInBounds_toArray, List.set_cons_zero, List.set_cons_succ, i64_w, i32_w]
        rfl
      refine pure_ (i := 4) (N := some 67) (v := ?_) (a' := ?_) #[true, true, true, true, true, false, false, false, false, false, false, false, false, false, false, false, false, false, false, false] rfl rfl (any_of HT_.out (by kernel_rfl)) (fun _ _ _ h => h) (Or.inl ⟨by rfl, ?_⟩) ?_ ?_
      rotate_left
      · intro w'
        go_simp
        with_reducible rfl
      rotate_left
      · simp only [Act.put, List.setIfInBounds_toArray, List.set_cons_zero, List.set_cons_succ, i64_w, i32_w]
        rfl
      refine pure_ (i := 5) (N := some 68) (v := ?_) (a' := ?_) #[true, true, true, true, true, true, false, false, false, false, false, false, false, false, false, false, false, false, false, false] rfl rfl (any_of HT_.out (by kernel_rfl)) (fun _ _ _ h => h) (Or.inl ⟨by rfl, ?_⟩) ?_ ?_
      rotate_left
      · intro w'
        go_simp
        with_reducible rfl
      rotate_left
      · simp only [Act.put, List.setIfInBounds_toArray, List.set_cons_zero, List.set_cons_succ, i64_w, i32_w]
        rfl
      refine pure_ (i := 6) (N := some 69) (v := ?_) (a' := ?_) #[true, true, true, true, true, true, true, false, false, false, false, false, false, false, false, false, false, false, false, false] rfl rfl (any_of HT_.out (by kernel_rfl)) (fun _ _ _ h => h) (Or.inl ⟨by rfl, ?_⟩) ?_ ?_
      rotate_left
      · intro w'
        go_simp
        with_reducible rfl
      rotate_left
      · simp only [Act.put, List.setIfInBounds_toArray, List.set_cons_zero, List.set_cons_succ, i64_w, i32_w]
        rfl
      refine pure_ (i := 7) (N := some 70) (v := ?_) (a' := ?_) #[true, true, true, true, true, true, true, true, false, false, false, false, false, false, false, false, false, false, false, false] rfl rfl (any_of HT_.out (by kernel_rfl)) (fun _ _ _ h => h) (Or.inl ⟨by rfl, ?_⟩) ?_ ?_
      rotate_left
      · intro w'
        go_simp
        with_reducible rfl
      rotate_left
      · simp only [Act.put, List.setIfInBounds_toArray, List.set_cons_zero, List.set_cons_succ, i64_w, i32_w]
        rfl
      refine pure_ (i := 8) (N := some 71) (v := ?_) (a' := ?_) #[true, true, true, true, true, true, true, true, true, false, false, false, false, false, false, false, false, false, false, false] rfl rfl (any_of HT_.out (by kernel_rfl)) (fun _ _ _ h => h) (Or.inl ⟨by rfl, ?_⟩) ?_ ?_
      rotate_left
      · intro w'
        go_simp
        with_reducible rfl
      rotate_left
      · simp only [Act.put, List.setIfInBounds_toArray, List.set_cons_zero, List.set_cons_succ, i64_w, i32_w]
        rfl
      refine pure_ (i := 9) (N := some 72) (v := ?_) (a' := ?_) #[true, true, true, true, true, true, true, true, true, true, false, false, false, false, false, false, false, false, false, false] rfl rfl (any_of HT_.out (by kernel_rfl)) (fun _ _ _ h => h) (Or.inl ⟨by rfl, ?_⟩) ?_ ?_
      rotate_left
      · intro w'
        go_simp
        with_reducible rfl
      rotate_left
      · simp only [Act.put, List.setIfInBounds_toArray, List.set_cons_zero, List.set_cons_succ, i64_w, i32_w]
        rfl
      refine pure_ (i := 10) (N := some 73) (v := ?_) (a' := ?_) #[true, true, true, true, true, true, true, true, true, true, true, false, false, false, false, false, false, false, false, false] rfl rfl (any_of HT_.out (by kernel_rfl)) (fun _ _ _ h => h) (Or.inl ⟨by rfl, ?_⟩) ?_ ?_
      rotate_left
      · intro w'
        go_simp
        with_reducible rfl
      rotate_left
      · simp only [Act.put, List.setIfInBounds_toArray, List.set_cons_zero, List.set_cons_succ, i64_w, i32_w]
        rfl
      refine take_ (i := 11) (N := some 74) (v := ?_) (a' := ?_) #[true, true, true, true, true, true, true, true, true, true, true, true, false, false, false, false, false, false, false, false] rfl rfl (take_ofW HT_.out HW_.out (by kernel_rfl)) (fun _ _ _ h => h) (Or.inl ⟨by rfl, ?_⟩) hHeld ?_ ?_
      rotate_left
      · rintro w' s0
        go_simp
        with_reducible rfl
      rotate_left
      · simp only [Act.put, List.setIfInBounds_toArray, List.set_cons_zero, List.set_cons_succ, i64_w, i32_w]
        rfl
      refine pure_ (i := 12) (N := some 75) (v := ?_) (a' := ?_) #[true, true, true, true, true, true, true, true, true, true, true, true, true, false, false, false, false, false, false, false] rfl rfl (any_of HT_.out (by kernel_rfl)) (fun _ _ _ h => h) (Or.inl ⟨by rfl, ?_⟩) ?_ ?_
      rotate_left
      · intro w'
        go_simp
        with_reducible rfl
      rotate_left
      · simp only [Act.put, List.setIfInBounds_toArray, List.set_cons_zero, List.set_cons_succ, i64_w, i32_w]
        rfl
      refine one_ (i := 13) (N := some 76) #[true, true, true, true, true, true, true, true, true, true, true, true, true, true, false, false, false, false, false, false] rfl rfl (one_of HT_.out (by kernel_rfl)) (by decide) (fun K hK => ?_)
      refine goes_ Tryd.func15 (by kernel_rfl) rfl #[.slice none 0 0, .int .i64 (m : Int)] (by rfl) rfl rfl (by kernel_rfl) ?_
      refine (put_nil_walk m hlt hsr W0).mono ?_
      rintro e w9 ⟨v9, rfl, hR9⟩
      obtain ⟨A9, c9, rfl, hr9⟩ := hR9.reads' (by omega)
      have hb9 := hR9.2.1
      refine ⟨_, rfl, ?_⟩
      refine hK.out _ _ (pw_cell_below hb9 hHeld) (fun hh => ?_)
      clear hK K
      have hcv := string_of_reads (P := Tryd.prog) (src := 22) (dst := 9) (e := 5) (c := c9) Tryd.underlying22 Tryd.underlying5 Tryd.underlying9 hr9
      unfold bytesOf at hcv
      rw [strOfNums_bytes] at hcv
      refine one_ (i := 14) (N := some 77) #[true, true, true, true, true, true, true, true, true, true, true, true, true, true, true, false, false, false, false, false] rfl rfl (one_of HT_.out (by kernel_rfl)) (by decide) (fun K hK => ?_)
      refine value_ (v := .string (str (encodeRune (m : Int)))) (w1 := w9) (by rfl) rfl (by first | exact hcv | (go_simp; done) | (go_simp; exact hcv) | (go_simp; rw [hcv]; rfl)) ?_
      refine hK.out _ _ hh (fun hh2 => ?_)
      clear hK K
      refine pure_ (i := 15) (N := some 78) (v := (.string (str (97 :: encodeRune (m : Int))))) (a' := ?_) #[true, true, true, true, true, true, true, true, true, true, true, true, true, true, true, true, false, false, false, false] rfl rfl (any_of HT_.out (by kernel_rfl)) (fun _ _ _ h => h) (Or.inl ⟨by rfl, ?_⟩) ?_ ?_
      · intro w'
        go_simp
        rw [if_neg (by rw [str_size]; omega)]
        exact congrArg (fun x => Result.ok (Next.value (Value.string x)) w') (str_app [97] _)
      rotate_left
      · simp only [Act.put, List.setIfInBounds_toArray, List.set_cons_zero, List.set_cons_succ, i64_w, i32_w]
        rfl
      refine pure_ (i := 16) (N := some 79) (v := (.string (str (97 :: (encodeRune (m : Int) ++ [98]))))) (a' := ?_) #[true, true, true, true, true, true, true, true, true, true, true, true, true, true, true, true, true, false, false, false] rfl rfl (any_of HT_.out (by kernel_rfl)) (fun _ _ _ h => h) (Or.inl ⟨by rfl, ?_⟩) ?_ ?_
      · intro w'
        go_simp
        rw [if_neg (by rw [str_size, List.length_cons]; omega)]
        exact congrArg (fun x => Result.ok (Next.value (Value.string x)) w') (str_app (97 :: encodeRune (m : Int)) [98])
      rotate_left
      · simp only [Act.put, List.setIfInBounds_toArray, List.set_cons_zero, List.set_cons_succ, i64_w, i32_w]
        rfl
      refine pure_ (i := 17) (N := some 80) (v := (.bool true)) (a' := ?_) #[true, true, true, true, true, true, true, true, true, true, true, true, true, true, true, true, true, true, false, false] rfl rfl (any_of HT_.out (by kernel_rfl)) (fun _ _ _ h => h) (Or.inl ⟨by rfl, ?_⟩) ?_ ?_
      · intro w'
        first | (go_simp; done) | (go_simp; rfl) | (go_simp; simp [str])
      rotate_left
      · simp only [Act.put, List.setIfInBounds_toArray, List.set_cons_zero, List.set_cons_succ, i64_w, i32_w]
        rfl
      refine pure_ (i := 18) (N := some 81) (v := ?_) (a' := ?_) #[true, true, true, true, true, true, true, true, true, true, true, true, true, true, true, true, true, true, true, false] rfl rfl (any_of HT_.out (by kernel_rfl)) (fun _ _ _ h => h) (Or.inl ⟨by rfl, ?_⟩) ?_ ?_
      rotate_left
      · intro w'
        go_simp
        with_reducible rfl
      rotate_left
      · simp only [Act.put, List.setIfInBounds_toArray, List.set_cons_zero, List.set_cons_succ, i64_w, i32_w]
        rfl
      refine pure_ (i := 19) (N := some 4) (v := ?_) (a' := ?_) #[true, true, true, true, true, true, true, true, true, true, true, true, true, true, true, true, true, true, true, true] rfl rfl (any_of HT_.out (by kernel_rfl)) (fun _ _ _ h => h) (Or.inl ⟨by rfl, ?_⟩) ?_ ?_
      rotate_left
      · intro w'
        go_simp
        with_reducible rfl
      rotate_left
      · simp only [Act.put, List.setIfInBounds_toArray, List.set_cons_zero, List.set_cons_succ, i64_w, i32_w]
        rfl
      refine done_ (done_of HT_.out (by kernel_rfl)) ?_
      go_wp2
      go_ret
      exact ⟨rfl, hB8.trans ((hbW.trans (hb9.mono hbW.size)).mono hB8.size)⟩
  rcases hsplit with h | ⟨h, h'⟩
  · exact key false (by rw [h]; simp) (fun e => by cases e)
  · exact key true (by rw [h]; simp) (fun _ => h')

set_option maxHeartbeats 4000000 in
set_option maxRecDepth 100000 in
theorem escapes_c_false (n : Int) (m : Nat) (hm : Aside0 (wrap64 ((IntKind.u64.wrap n).tmod 1114112) = (m : Int))) (w : World) (hG : Aside0 (Glob w)) (hGN : Aside0 (GlobN w)) (hlt : m < 1114112) (h6 : ¬ m < 65536) :
    Calls Tryd.prog 8 #[.int .i64 n, .bool false] w fun e w' => e = .returned (.bool true) ∧ Below w.heap.size w w' := by
  have hx2 : m < 2097152 := by omega
  have hsr : m < 55296 ∨ 57343 < m := by omega
  obtain ⟨q, hq⟩ : ∃ q : Nat, q = m - 65536 := ⟨_, rfl⟩
  obtain ⟨hi, hhi⟩ : ∃ k : Nat, k = 55296 + q / 1024 := ⟨_, rfl⟩
  obtain ⟨lo, hlo⟩ : ∃ k : Nat, k = 56320 + q % 1024 := ⟨_, rfl⟩
  have eq2 : Aside0 (55296 + ((m : Int) - 65536) / 1024 = (hi : Int)) := ⟨by omega⟩
  have eq3 := and1023 ((m : Int) - 65536) (by omega) (by omega)
  have eq4 : Aside0 (56320 + ((m : Int) - 65536) % 1024 = (lo : Int)) := ⟨by omega⟩
  have hes : esc false m = h4 false hi ++ h4 false lo := by unfold esc; rw [if_neg (by omega), hhi, hlo, hq]
  have hhi2 : hi < 2097152 := by omega
  have hlo2 : lo < 2097152 := by omega
  clear hhi hlo hq
  have c1 : ((m : Int) ≥ 65536) = True := eq_true (by omega)
  have c1' : ((65536 : Int) ≤ (m : Int)) = True := eq_true (by omega)
  have c2 : ((m : Int) ≥ 55296) = True := eq_true (by omega)
  have c2' : ((55296 : Int) ≤ (m : Int)) = True := eq_true (by omega)
  have c3 : ((m : Int) < 57344) = False := eq_false (by omega)
  have hpe := parse_esc false m hlt hsr
  have henc : (encodeRune (m : Int)).length ≤ 4 := by unfold encodeRune; rw [List.length_map]; exact (encodeRuneZ_length _).2
  have e0 : str (h4 false hi) ++ str (h4 false lo) = str (h4 false hi ++ h4 false lo) := str_app _ _
  have e1 : (⟨#[34, 97]⟩ : ByteArray) ++ str (h4 false hi ++ h4 false lo) = str (34 :: 97 :: (h4 false hi ++ h4 false lo)) := str_app [34, 97] _
  have e2 : str (34 :: 97 :: (h4 false hi ++ h4 false lo)) ++ (⟨#[98, 34]⟩ : ByteArray) = str (whole false m) := by unfold whole; rw [hes]; exact str_app (34 :: 97 :: (h4 false hi ++ h4 false lo)) [98, 34]
  have s0 : (9223372036854775807 < (str (h4 false hi)).size + (str (h4 false lo)).size) = False := eq_false (by rw [str_size, str_size]; show ¬ 9223372036854775807 < 6 + 6; decide)
  have s1 : (9223372036854775807 < 2 + (str (h4 false hi ++ h4 false lo)).size) = False := eq_false (by rw [str_size]; show ¬ 9223372036854775807 < 2 + 12; decide)
  have s2 : (9223372036854775807 < (str (34 :: 97 :: (h4 false hi ++ h4 false lo))).size + 2) = False := eq_false (by rw [str_size]; show ¬ 9223372036854775807 < 14 + 2; decide)
  have k1 := fun W => kb (whole false m) W
  clear hes
  go_enter Tryd.func8, Tryd.ntmps8
  go_wp2_with (first
    | (go_at_call 9; refine (awake_walk w hG hGN).mono ?_; rintro e w2 ⟨rfl, hb2⟩; have hG2 := hG.out.below hb2; have hGN2 := hGN.out.below hb2)
    | (go_at_call 14; rw [hm.out]; (with_reducible refine (esc_walk false m hx2 _ w2.heap.size ?hg).mono ?_); (case hg => exact new_string w2 _ _ _); rintro e w3 ⟨rfl, hb3⟩; have hA := below_alloc (Below.refl w2.heap.size w2) (.cells #[.string (str (digs false))] 9); have hB3 := hb2.trans ((hA.trans (hb3.mono hA.size)).mono hb2.size); have hg3 := pw_cell_below hb3 (new_string w2 (str (digs false)) 9 (0, 0)))
    | (go_at_call 14; rw [eq2.out]; (with_reducible refine (esc_walk false hi hhi2 w3 w2.heap.size hg3).mono ?_); rintro e w4 ⟨rfl, hb4⟩; have hB4 := hB3.trans (hb4.mono hB3.size); have hg4 := pw_cell_below hb4 hg3)
    | (go_at_call 14; rw [eq4.out]; (with_reducible refine (esc_walk false lo hlo2 w4 w2.heap.size hg4).mono ?_); rintro e w5 ⟨rfl, hb5⟩; have hB5 := hB4.trans (hb5.mono hB4.size))
    | (go_at_call 10; refine (parse_text (whole false m) w5 (hG.out.below hB5) (hGN.out.below hB5) (by have := whole_len false m; omega) _).mono ?_; rw [hpe]; rintro e w8 ⟨⟨_, tv, rfl, hR⟩, hb8⟩; have hB8 := hB5.trans (hb8.mono hB5.size); obtain ⟨g1, c1, rfl, -, hg1, -⟩ := Kd.R_form hR (Nat.zero_lt_succ _); have hC := (Kd.R_reads' hR).2.2; rw [show ([⟨4, false, 0, str ([97] ++ encodeRune (m : Int) ++ [98]), [], []⟩] : List S39).length = 1 from rfl]; obtain ⟨ad, A4, c4, A5, c5, e0, hx0, hx1, hx2, hx3, hx4, hx5, hl4, hC4, hl5, hC5⟩ := at_T39 hC 0 (by decide) (by show (0 : Int) < 1; decide); obtain rfl := Option.some.inj e0; clear hx0 hx1 hx2 hx4 hx5 hC4 hC5 hC; replace hx3 : w8.cell? ⟨g1, 3, none⟩ = some (.string (str ([97] ++ encodeRune (m : Int) ++ [98]))) := hx3))
  refine start_ (n := 20) (S := fun w' => w'.cell? ⟨g1, 3, none⟩ = some (.string (str ([97] ++ encodeRune (m : Int) ++ [98])))) (ds := []) #[false, false, false, false, false, false, false, false, false, false, false, false, false, false, false, false, false, false, false, false] (by kernel_rfl) rfl rfl hx3 (fun hHeld => ?_)
  refine with_tabW escapes.tab14 escapes.bits14 (fun HT_ HW_ => ?_)
  have hbW : Below w8.heap.size w8 w8.drew := below_drew (Below.refl _ _)
  generalize w8.drew = W0 at *
  refine pure_ (i := 0) (N := some 63) (v := ?_) (a' := ?_) #[true, false, false, false, false, false, false, false, false, false, false, false, false, false, false, false, false, false, false, false] rfl rfl (any_of HT_.out (by kernel_rfl)) (fun _ _ _ h => h) (Or.inl ⟨by rfl, ?_⟩) ?_ ?_
  rotate_left
  · intro w'
    go_simp
    with_reducible rfl
  rotate_left
  · simp only [Act.put, List.setIfInBounds_toArray, List.set_cons_zero, List.set_cons_succ, i64_w, i32_w]
    rfl
  refine pure_ (i := 1) (N := some 64) (v := ?_) (a' := ?_) #[true, true, false, false, false, false, false, false, false, false, false, false, false, false, false, false, false, false, false, false] rfl rfl (any_of HT_.out (by kernel_rfl)) (fun _ _ _ h => h) (Or.inl ⟨by rfl, ?_⟩) ?_ ?_
  rotate_left
  · intro w'
    go_simp
    with_reducible rfl
  rotate_left
  · simp only [Act.put, List.setIfInBounds_toArray, List.set_cons_zero, List.set_cons_succ, i64_w, i32_w]
    rfl
  refine pure_ (i := 2) (N := some 65) (v := ?_) (a' := ?_) #[true, true, true, false, false, false, false, false, false, false, false, false, false, false, false, false, false, false, false, false] rfl rfl (any_of HT_.out (by kernel_rfl)) (fun _ _ _ h => h) (Or.inl ⟨by rfl, ?_⟩) ?_ ?_
  rotate_left
  · intro w'
    go_simp
    with_reducible rfl
  rotate_left
  · simp only [Act.put, List.setIfInBounds_toArray, List.set_cons_zero, List.set_cons_succ, i64_w, i32_w]
    rfl
  refine pure_ (i := 3) (N := some 66) (v := ?_) (a' := ?_) #[true, true, true, true, false, false, false, false, false, false, false, false, false, false, false, false, false, false, false, false] rfl rfl (any_of HT_.out (by kernel_rfl)) (fun _ _ _ h => h) (Or.inl ⟨by rfl, ?_⟩) ?_ ?_
  rotate_left
  · intro w'
    go_simp
    with_reducible rfl
  rotate_left
  · simp only [Act.put, List.setIfInBounds_toArray, List.set_cons_zero, List.set_cons_succ, i64_w, i32_w]
    rfl
  refine pure_ (i := 4) (N := some 67) (v := ?_) (a' := ?_) #[true, true, true, true, true, false, false, false, false, false, false, false, false, false, false, false, false, false, false, false] rfl rfl (any_of HT_.out (by kernel_rfl)) (fun _ _ _ h => h) (Or.inl ⟨by rfl, ?_⟩) ?_ ?_
  rotate_left
  · intro w'
    go_simp
    with_reducible rfl
  rotate_left
  · simp only [Act.put, List.setIfInBounds_toArray, List.set_cons_zero, List.set_cons_succ, i64_w, i32_w]
    rfl
  refine pure_ (i := 5) (N := some 68) (v := ?_) (a' := ?_) #[true, true, true, true, true, true, false, false, false, false, false, false, false, false, false, false, false, false, false, false] rfl rfl (any_of HT_.out (by kernel_rfl)) (fun _ _ _ h => h) (Or.inl ⟨by rfl, ?_⟩) ?_ ?_
  rotate_left
  · intro w'
    go_simp
    with_reducible rfl
  rotate_left
  · simp only [Act.put, List.setIfInBounds_toArray, List.set_cons_zero, List.set_cons_succ, i64_w, i32_w]
    rfl
  refine pure_ (i := 6) (N := some 69) (v := ?_) (a' := ?_) #[true, true, true, true, true, true, true, false, false, false, false, false, false, false, false, false, false, false, false, false] rfl rfl (any_of HT_.out (by kernel_rfl)) (fun _ _ _ h => h) (Or.inl ⟨by rfl, ?_⟩) ?_ ?_
  rotate_left
  · intro w'
    go_simp
    with_reducible rfl
  rotate_left
  · simp only [Act.put, List.setIfInBounds_toArray, List.set_cons_zero, List.set_cons_succ, i64_w, i32_w]
    rfl
  refine pure_ (i := 7) (N := some 70) (v := ?_) (a' := ?_) #[true, true, true, true, true, true, true, true, false, false, false, false, false, false, false, false, false, false, false, false] rfl rfl (any_of HT_.out (by kernel_rfl)) (fun _ _ _ h => h) (Or.inl ⟨by rfl, ?_⟩) ?_ ?_
  rotate_left
  · intro w'
    go_simp
    with_reducible rfl
  rotate_left
  · simp only [Act.put, List.setIfInBounds_toArray, List.set_cons_zero, List.set_cons_succ, i64_w, i32_w]
    rfl
  refine pure_ (i := 8) (N := some 71) (v := ?_) (a' := ?_) #[true, true, true, true, true, true, true, true, true, false, false, false, false, false, false, false, false, false, false, false] rfl rfl (any_of HT_.out (by kernel_rfl)) (fun _ _ _ h => h) (Or.inl ⟨by rfl, ?_⟩) ?_ ?_
  rotate_left
  · intro w'
    go_simp
    with_reducible rfl
  rotate_left
  · simp only [Act.put, List.setIfInBounds_toArray, List.set_cons_zero, List.set_cons_succ, i64_w, i32_w]
    rfl
  refine pure_ (i := 9) (N := some 72) (v := ?_) (a' := ?_) #[true, true, true, true, true, true, true, true, true, true, false, false, false, false, false, false, false, false, false, false] rfl rfl (any_of HT_.out (by kernel_rfl)) (fun _ _ _ h => h) (Or.inl ⟨by rfl, ?_⟩) ?_ ?_
  rotate_left
  · intro w'
    go_simp
    with_reducible rfl
  rotate_left
  · simp only [Act.put, List.setIfInBounds_toArray, List.set_cons_zero, List.set_cons_succ, i64_w, i32_w]
    rfl
  refine pure_ (i := 10) (N := some 73) (v := ?_) (a' := ?_) #[true, true, true, true, true, true, true, true, true, true, true, false, false, false, false, false, false, false, false, false] rfl rfl (any_of HT_.out (by kernel_rfl)) (fun _ _ _ h => h) (Or.inl ⟨by rfl, ?_⟩) ?_ ?_
  rotate_left
  · intro w'
    go_simp
    with_reducible rfl
  rotate_left
  · simp only [Act.put, List.setIfInBounds_toArray, List.set_cons_zero, List.set_cons_succ, i64_w, i32_w]
    rfl
  refine take_ (i := 11) (N := some 74) (v := ?_) (a' := ?_) #[true, true, true, true, true, true, true, true, true, true, true, true, false, false, false, false, false, false, false, false] rfl rfl (take_ofW HT_.out HW_.out (by kernel_rfl)) (fun _ _ _ h => h) (Or.inl ⟨by rfl, ?_⟩) hHeld ?_ ?_
  rotate_left
  · rintro w' s0
    go_simp
    with_reducible rfl
  rotate_left
  · simp only [Act.put, List.setIfInBounds_toArray, List.set_cons_zero, List.set_cons_succ, i64_w, i32_w]
    rfl
  refine pure_ (i := 12) (N := some 75) (v := ?_) (a' := ?_) #[true, true, true, true, true, true, true, true, true, true, true, true, true, false, false, false, false, false, false, false] rfl rfl (any_of HT_.out (by kernel_rfl)) (fun _ _ _ h => h) (Or.inl ⟨by rfl, ?_⟩) ?_ ?_
  rotate_left
  · intro w'
    go_simp
    with_reducible rfl
  rotate_left
  · simp only [Act.put, List.setIfInBounds_toArray, List.set_cons_zero, List.set_cons_succ, i64_w, i32_w]
    rfl
  refine one_ (i := 13) (N := some 76) #[true, true, true, true, true, true, true, true, true, true, true, true, true, true, false, false, false, false, false, false] rfl rfl (one_of HT_.out (by kernel_rfl)) (by decide) (fun K hK => ?_)
  refine goes_ Tryd.func15 (by kernel_rfl) rfl #[.slice none 0 0, .int .i64 (m : Int)] (by rfl) rfl rfl (by kernel_rfl) ?_
  refine (put_nil_walk m hlt hsr W0).mono ?_
  rintro e w9 ⟨v9, rfl, hR9⟩
  obtain ⟨A9, c9, rfl, hr9⟩ := hR9.reads' (by omega)
  have hb9 := hR9.2.1
  refine ⟨_, rfl, ?_⟩
  refine hK.out _ _ (pw_cell_below hb9 hHeld) (fun hh => ?_)
  clear hK K
  have hcv := string_of_reads (P := Tryd.prog) (src := 22) (dst := 9) (e := 5) (c := c9) Tryd.underlying22 Tryd.underlying5 Tryd.underlying9 hr9
  unfold bytesOf at hcv
  rw [strOfNums_bytes] at hcv
  refine one_ (i := 14) (N := some 77) #[true, true, true, true, true, true, true, true, true, true, true, true, true, true, true, false, false, false, false, false] rfl rfl (one_of HT_.out (by kernel_rfl)) (by decide) (fun K hK => ?_)
  refine value_ (v := .string (str (encodeRune (m : Int)))) (w1 := w9) (by rfl) rfl (by first | exact hcv | (go_simp; done) | (go_simp; exact hcv) | (go_simp; rw [hcv]; rfl)) ?_
  refine hK.out _ _ hh (fun hh2 => ?_)
  clear hK K
  refine pure_ (i := 15) (N := some 78) (v := (.string (str (97 :: encodeRune (m : Int))))) (a' := ?_) #[true, true, true, true, true, true, true, true, true, true, true, true, true, true, true, true, false, false, false, false] rfl rfl (any_of HT_.out (by kernel_rfl)) (fun _ _ _ h => h) (Or.inl ⟨by rfl, ?_⟩) ?_ ?_
  · intro w'
    go_simp
    rw [if_neg (by rw [str_size]; omega)]
    exact congrArg (fun x => Result.ok (Next.value (Value.string x)) w') (str_app [97] _)
  rotate_left
  · simp only [Act.put, List.setIfInBounds_toArray, List.set_cons_zero, List.set_cons_succ, i64_w, i32_w]
    rfl
  refine pure_ (i := 16) (N := some 79) (v := (.string (str (97 :: (encodeRune (m : Int) ++ [98]))))) (a' := ?_) #[true, true, true, true, true, true, true, true, true, true, true, true, true, true, true, true, true, false, false, false] rfl rfl (any_of HT_.out (by kernel_rfl)) (fun _ _ _ h => h) (Or.inl ⟨by rfl, ?_⟩) ?_ ?_
  · intro w'
    go_simp
    rw [if_neg (by rw [str_size, List.length_cons]; omega)]
    exact congrArg (fun x => Result.ok (Next.value (Value.string x)) w') (str_app (97 :: encodeRune (m : Int)) [98])
  rotate_left
  · simp only [Act.put, List.setIfInBounds_toArray, List.set_cons_zero, List.set_cons_succ, i64_w, i32_w]
    rfl
  refine pure_ (i := 17) (N := some 80) (v := (.bool true)) (a' := ?_) #[true, true, true, true, true, true, true, true, true, true, true, true, true, true, true, true, true, true, false, false] rfl rfl (any_of HT_.out (by kernel_rfl)) (fun _ _ _ h => h) (Or.inl ⟨by rfl, ?_⟩) ?_ ?_
  · intro w'
    first | (go_simp; done) | (go_simp; rfl) | (go_simp; simp [str])
  rotate_left
  · simp only [Act.put, List.setIfInBounds_toArray, List.set_cons_zero, List.set_cons_succ, i64_w, i32_w]
    rfl
  refine pure_ (i := 18) (N := some 81) (v := ?_) (a' := ?_) #[true, true, true, true, true, true, true, true, true, true, true, true, true, true, true, true, true, true, true, false] rfl rfl (any_of HT_.out (by kernel_rfl)) (fun _ _ _ h => h) (Or.inl ⟨by rfl, ?_⟩) ?_ ?_
  rotate_left
  · intro w'
    go_simp
    with_reducible rfl
  rotate_left
  · simp only [Act.put, List.setIfInBounds_toArray, List.set_cons_zero, List.set_cons_succ, i64_w, i32_w]
    rfl
  refine pure_ (i := 19) (N := some 4) (v := ?_) (a' := ?_) #[true, true, true, true, true, true, true, true, true, true, true, true, true, true, true, true, true, true, true, true] rfl rfl (any_of HT_.out (by kernel_rfl)) (fun _ _ _ h => h) (Or.inl ⟨by rfl, ?_⟩) ?_ ?_
  rotate_left
  · intro w'
    go_simp
    with_reducible rfl
  rotate_left
  · simp only [Act.put, List.setIfInBounds_toArray, List.set_cons_zero, List.set_cons_succ, i64_w, i32_w]
    rfl
  refine done_ (done_of HT_.out (by kernel_rfl)) ?_
  go_wp2
  go_ret
  exact ⟨rfl, hB8.trans ((hbW.trans (hb9.mono hbW.size)).mono hB8.size)⟩


set_option maxHeartbeats 4000000 in
set_option maxRecDepth 100000 in
theorem escapes_c_true (n : Int) (m : Nat) (hm : Aside0 (wrap64 ((IntKind.u64.wrap n).tmod 1114112) = (m : Int))) (w : World) (hG : Aside0 (Glob w)) (hGN : Aside0 (GlobN w)) (hlt : m < 1114112) (h6 : ¬ m < 65536) :
    Calls Tryd.prog 8 #[.int .i64 n, .bool true] w fun e w' => e = .returned (.bool true) ∧ Below w.heap.size w w' := by
  have hx2 : m < 2097152 := by omega
  have hsr : m < 55296 ∨ 57343 < m := by omega
  obtain ⟨q, hq⟩ : ∃ q : Nat, q = m - 65536 := ⟨_, rfl⟩
  obtain ⟨hi, hhi⟩ : ∃ k : Nat, k = 55296 + q / 1024 := ⟨_, rfl⟩
  obtain ⟨lo, hlo⟩ : ∃ k : Nat, k = 56320 + q % 1024 := ⟨_, rfl⟩
  have eq2 : Aside0 (55296 + ((m : Int) - 65536) / 1024 = (hi : Int)) := ⟨by omega⟩
  have eq3 := and1023 ((m : Int) - 65536) (by omega) (by omega)
  have eq4 : Aside0 (56320 + ((m : Int) - 65536) % 1024 = (lo : Int)) := ⟨by omega⟩
  have hes : esc true m = h4 true hi ++ h4 true lo := by unfold esc; rw [if_neg (by omega), hhi, hlo, hq]
  have hhi2 : hi < 2097152 := by omega
  have hlo2 : lo < 2097152 := by omega
  clear hhi hlo hq
  have c1 : ((m : Int) ≥ 65536) = True := eq_true (by omega)
  have c1' : ((65536 : Int) ≤ (m : Int)) = True := eq_true (by omega)
  have c2 : ((m : Int) ≥ 55296) = True := eq_true (by omega)
  have c2' : ((55296 : Int) ≤ (m : Int)) = True := eq_true (by omega)
  have c3 : ((m : Int) < 57344) = False := eq_false (by omega)
  have hpe := parse_esc true m hlt hsr
  have henc : (encodeRune (m : Int)).length ≤ 4 := by unfold encodeRune; rw [List.length_map]; exact (encodeRuneZ_length _).2
  have e0 : str (h4 true hi) ++ str (h4 true lo) = str (h4 true hi ++ h4 true lo) := str_app _ _
  have e1 : (⟨#[34, 97]⟩ : ByteArray) ++ str (h4 true hi ++ h4 true lo) = str (34 :: 97 :: (h4 true hi ++ h4 true lo)) := str_app [34, 97] _
  have e2 : str (34 :: 97 :: (h4 true hi ++ h4 true lo)) ++ (⟨#[98, 34]⟩ : ByteArray) = str (whole true m) := by unfold whole; rw [hes]; exact str_app (34 :: 97 :: (h4 true hi ++ h4 true lo)) [98, 34]
  have s0 : (9223372036854775807 < (str (h4 true hi)).size + (str (h4 true lo)).size) = False := eq_false (by rw [str_size, str_size]; show ¬ 9223372036854775807 < 6 + 6; decide)
  have s1 : (9223372036854775807 < 2 + (str (h4 true hi ++ h4 true lo)).size) = False := eq_false (by rw [str_size]; show ¬ 9223372036854775807 < 2 + 12; decide)
  have s2 : (9223372036854775807 < (str (34 :: 97 :: (h4 true hi ++ h4 true lo))).size + 2) = False := eq_false (by rw [str_size]; show ¬ 9223372036854775807 < 14 + 2; decide)
  have k1 := fun W => kb (whole true m) W
  clear hes
  go_enter Tryd.func8, Tryd.ntmps8
  go_wp2_with (first
    | (go_at_call 9; refine (awake_walk w hG hGN).mono ?_; rintro e w2 ⟨rfl, hb2⟩; have hG2 := hG.out.below hb2; have hGN2 := hGN.out.below hb2)
    | (go_at_call 14; rw [hm.out]; (with_reducible refine (esc_walk true m hx2 _ w2.heap.size ?hg).mono ?_); (case hg => exact new_string w2 _ _ _); rintro e w3 ⟨rfl, hb3⟩; have hA := below_alloc (Below.refl w2.heap.size w2) (.cells #[.string (str (digs true))] 9); have hB3 := hb2.trans ((hA.trans (hb3.mono hA.size)).mono hb2.size); have hg3 := pw_cell_below hb3 (new_string w2 (str (digs true)) 9 (0, 0)))
    | (go_at_call 14; rw [eq2.out]; (with_reducible refine (esc_walk true hi hhi2 w3 w2.heap.size hg3).mono ?_); rintro e w4 ⟨rfl, hb4⟩; have hB4 := hB3.trans (hb4.mono hB3.size); have hg4 := pw_cell_below hb4 hg3)
    | (go_at_call 14; rw [eq4.out]; (with_reducible refine (esc_walk true lo hlo2 w4 w2.heap.size hg4).mono ?_); rintro e w5 ⟨rfl, hb5⟩; have hB5 := hB4.trans (hb5.mono hB4.size))
    | (go_at_call 10; refine (parse_text (whole true m) w5 (hG.out.below hB5) (hGN.out.below hB5) (by have := whole_len true m; omega) _).mono ?_; rw [hpe]; rintro e w8 ⟨⟨_, tv, rfl, hR⟩, hb8⟩; have hB8 := hB5.trans (hb8.mono hB5.size); obtain ⟨g1, c1, rfl, -, hg1, -⟩ := Kd.R_form hR (Nat.zero_lt_succ _); have hC := (Kd.R_reads' hR).2.2; rw [show ([⟨4, false, 0, str ([97] ++ encodeRune (m : Int) ++ [98]), [], []⟩] : List S39).length = 1 from rfl]; obtain ⟨ad, A4, c4, A5, c5, e0, hx0, hx1, hx2, hx3, hx4, hx5, hl4, hC4, hl5, hC5⟩ := at_T39 hC 0 (by decide) (by show (0 : Int) < 1; decide); obtain rfl := Option.some.inj e0; clear hx0 hx1 hx2 hx4 hx5 hC4 hC5 hC; replace hx3 : w8.cell? ⟨g1, 3, none⟩ = some (.string (str ([97] ++ encodeRune (m : Int) ++ [98]))) := hx3))
  refine start_ (n := 20) (S := fun w' => w'.cell? ⟨g1, 3, none⟩ = some (.string (str ([97] ++ encodeRune (m : Int) ++ [98])))) (ds := []) #[false, false, false, false, false, false, false, false, false, false, false, false, false, false, false, false, false, false, false, false] (by kernel_rfl) rfl rfl hx3 (fun hHeld => ?_)
  refine with_tabW escapes.tab14 escapes.bits14 (fun HT_ HW_ => ?_)
  have hbW : Below w8.heap.size w8 w8.drew := below_drew (Below.refl _ _)
  generalize w8.drew = W0 at *
  refine pure_ (i := 0) (N := some 63) (v := ?_) (a' := ?_) #[true, false, false, false, false, false, false, false, false, false, false, false, false, false, false, false, false, false, false, false] rfl rfl (any_of HT_.out (by kernel_rfl)) (fun _ _ _ h => h) (Or.inl ⟨by rfl, ?_⟩) ?_ ?_
  rotate_left
  · intro w'
    go_simp
    with_reducible rfl
  rotate_left
  · simp only [Act.put, List.setIfInBounds_toArray, List.set_cons_zero, List.set_cons_succ, i64_w, i32_w]
    rfl
  refine pure_ (i := 1) (N := some 64) (v := ?_) (a' := ?_) #[true, true, false, false, false, false, false, false, false, false, false, false, false, false, false, false, false, false, false, false] rfl rfl (any_of HT_.out (by kernel_rfl)) (fun _ _ _ h => h) (Or.inl ⟨by rfl, ?_⟩) ?_ ?_
  rotate_left
  · intro w'
    go_simp
    with_reducible rfl
  rotate_left
  · simp only [Act.put, List.setIfInBounds_toArray, List.set_cons_zero, List.set_cons_succ, i64_w, i32_w]
    rfl
  refine pure_ (i := 2) (N := some 65) (v := ?_) (a' := ?_) #[true, true, true, false, false, false, false, false, false, false, false, false, false, false, false, false, false, false, false, false] rfl rfl (any_of HT_.out (by kernel_rfl)) (fun _ _ _ h => h) (Or.inl ⟨by rfl, ?_⟩) ?_ ?_
  rotate_left
  · intro w'
    go_simp
    with_reducible rfl
  rotate_left
  · simp only [Act.put, List.setIfInBounds_toArray, List.set_cons_zero, List.set_cons_succ, i64_w, i32_w]
    rfl
  refine pure_ (i := 3) (N := some 66) (v := ?_) (a' := ?_) #[true, true, true, true, false, false, false, false, false, false, false, false, false, false, false, false, false, false, false, false] rfl rfl (any_of HT_.out (by kernel_rfl)) (fun _ _ _ h => h) (Or.inl ⟨by rfl, ?_⟩) ?_ ?_
  rotate_left
  · intro w'
    go_simp
    with_reducible rfl
  rotate_left
  · simp only [Act.put, List.setIfInBounds_toArray, List.set_cons_zero, List.set_cons_succ, i64_w, i32_w]
    rfl
  refine pure_ (i := 4) (N := some 67) (v := ?_) (a' := ?_) #[true, true, true, true, true, false, false, false, false, false, false, false, false, false, false, false, false, false, false, false] rfl rfl (any_of HT_.out (by kernel_rfl)) (fun _ _ _ h => h) (Or.inl ⟨by rfl, ?_⟩) ?_ ?_
  rotate_left
  · intro w'
    go_simp
    with_reducible rfl
  rotate_left
  · simp only [Act.put, List.setIfInBounds_toArray, List.set_cons_zero, List.set_cons_succ, i64_w, i32_w]
    rfl
  refine pure_ (i := 5) (N := some 68) (v := ?_) (a' := ?_) #[true, true, true, true, true, true, false, false, false, false, false, false, false, false, false, false, false, false, false, false] rfl rfl (any_of HT_.out (by kernel_rfl)) (fun _ _ _ h => h) (Or.inl ⟨by rfl, ?_⟩) ?_ ?_
  rotate_left
  · intro w'
    go_simp
    with_reducible rfl
  rotate_left
  · simp only [Act.put, List.setIfInBounds_toArray, List.set_cons_zero, List.set_cons_succ, i64_w, i32_w]
    rfl
  refine pure_ (i := 6) (N := some 69) (v := ?_) (a' := ?_) #[true, true, true, true, true, true, true, false, false, false, false, false, false, false, false, false, false, false, false, false] rfl rfl (any_of HT_.out (by kernel_rfl)) (fun _ _ _ h => h) (Or.inl ⟨by rfl, ?_⟩) ?_ ?_
  rotate_left
  · intro w'
    go_simp
    with_reducible rfl
  rotate_left
  · simp only [Act.put, List.setIfInBounds_toArray, List.set_cons_zero, List.set_cons_succ, i64_w, i32_w]
    rfl
  refine pure_ (i := 7) (N := some 70) (v := ?_) (a' := ?_) #[true, true, true, true, true, true, true, true, false, false, false, false, false, false, false, false, false, false, false, false] rfl rfl (any_of HT_.out (by kernel_rfl)) (fun _ _ _ h => h) (Or.inl ⟨by rfl, ?_⟩) ?_ ?_
  rotate_left
  · intro w'
    go_simp
    with_reducible rfl
  rotate_left
  · simp only [Act.put, List.setIfInBounds_toArray, List.set_cons_zero, List.set_cons_succ, i64_w, i32_w]
    rfl
  refine pure_ (i := 8) (N := some 71) (v := ?_) (a' := ?_) #[true, true, true, true, true, true, true, true, true, false, false, false, false, false, false, false, false, false, false, false] rfl rfl (any_of HT_.out (by kernel_rfl)) (fun _ _ _ h => h) (Or.inl ⟨by rfl, ?_⟩) ?_ ?_
  rotate_left
  · intro w'
    go_simp
    with_reducible rfl
  rotate_left
  · simp only [Act.put, List.setIfInBounds_toArray, List.set_cons_zero, List.set_cons_succ, i64_w, i32_w]
    rfl
  refine pure_ (i := 9) (N := some 72) (v := ?_) (a' := ?_) #[true, true, true, true, true, true, true, true, true, true, false, false, false, false, false, false, false, false, false, false] rfl rfl (any_of HT_.out (by kernel_rfl)) (fun _ _ _ h => h) (Or.inl ⟨by rfl, ?_⟩) ?_ ?_
  rotate_left
  · intro w'
    go_simp
    with_reducible rfl
  rotate_left
  · simp only [Act.put, List.setIfInBounds_toArray, List.set_cons_zero, List.set_cons_succ, i64_w, i32_w]
    rfl
  refine pure_ (i := 10) (N := some 73) (v := ?_) (a' := ?_) #[true, true, true, true, true, true, true, true, true, true, true, false, false, false, false, false, false, false, false, false] rfl rfl (any_of HT_.out (by kernel_rfl)) (fun _ _ _ h => h) (Or.inl ⟨by rfl, ?_⟩) ?_ ?_
  rotate_left
  · intro w'
    go_simp
    with_reducible rfl
  rotate_left
  · simp only [Act.put, List.setIfInBounds_toArray, List.set_cons_zero, List.set_cons_succ, i64_w, i32_w]
    rfl
  refine take_ (i := 11) (N := some 74) (v := ?_) (a' := ?_) #[true, true, true, true, true, true, true, true, true, true, true, true, false, false, false, false, false, false, false, false] rfl rfl (take_ofW HT_.out HW_.out (by kernel_rfl)) (fun _ _ _ h => h) (Or.inl ⟨by rfl, ?_⟩) hHeld ?_ ?_
  rotate_left
  · rintro w' s0
    go_simp
    with_reducible rfl
  rotate_left
  · simp only [Act.put, List.setIfInBounds_toArray, List.set_cons_zero, List.set_cons_succ, i64_w, i32_w]
    rfl
  refine pure_ (i := 12) (N := some 75) (v := ?_) (a' := ?_) #[true, true, true, true, true, true, true, true, true, true, true, true, true, false, false, false, false, false, false, false] rfl rfl (any_of HT_.out (by kernel_rfl)) (fun _ _ _ h => h) (Or.inl ⟨by rfl, ?_⟩) ?_ ?_
  rotate_left
  · intro w'
    go_simp
    with_reducible rfl
  rotate_left
  · simp only [Act.put, List.setIfInBounds_toArray, List.set_cons_zero, List.set_cons_succ, i64_w, i32_w]
    rfl
  refine one_ (i := 13) (N := some 76) #[true, true, true, true, true, true, true, true, true, true, true, true, true, true, false, false, false, false, false, false] rfl rfl (one_of HT_.out (by kernel_rfl)) (by decide) (fun K hK => ?_)
  refine goes_ Tryd.func15 (by kernel_rfl) rfl #[.slice none 0 0, .int .i64 (m : Int)] (by rfl) rfl rfl (by kernel_rfl) ?_
  refine (put_nil_walk m hlt hsr W0).mono ?_
  rintro e w9 ⟨v9, rfl, hR9⟩
  obtain ⟨A9, c9, rfl, hr9⟩ := hR9.reads' (by omega)
  have hb9 := hR9.2.1
  refine ⟨_, rfl, ?_⟩
  refine hK.out _ _ (pw_cell_below hb9 hHeld) (fun hh => ?_)
  clear hK K
  have hcv := string_of_reads (P := Tryd.prog) (src := 22) (dst := 9) (e := 5) (c := c9) Tryd.underlying22 Tryd.underlying5 Tryd.underlying9 hr9
  unfold bytesOf at hcv
  rw [strOfNums_bytes] at hcv
  refine one_ (i := 14) (N := some 77) #[true, true, true, true, true, true, true, true, true, true, true, true, true, true, true, false, false, false, false, false] rfl rfl (one_of HT_.out (by kernel_rfl)) (by decide) (fun K hK => ?_)
  refine value_ (v := .string (str (encodeRune (m : Int)))) (w1 := w9) (by rfl) rfl (by first | exact hcv | (go_simp; done) | (go_simp; exact hcv) | (go_simp; rw [hcv]; rfl)) ?_
  refine hK.out _ _ hh (fun hh2 => ?_)
  clear hK K
  refine pure_ (i := 15) (N := some 78) (v := (.string (str (97 :: encodeRune (m : Int))))) (a' := ?_) #[true, true, true, true, true, true, true, true, true, true, true, true, true, true, true, true, false, false, false, false] rfl rfl (any_of HT_.out (by kernel_rfl)) (fun _ _ _ h => h) (Or.inl ⟨by rfl, ?_⟩) ?_ ?_
  · intro w'
    go_simp
    rw [if_neg (by rw [str_size]; omega)]
    exact congrArg (fun x => Result.ok (Next.value (Value.string x)) w') (str_app [97] _)
  rotate_left
  · simp only [Act.put, List.setIfInBounds_toArray, List.set_cons_zero, List.set_cons_succ, i64_w, i32_w]
    rfl
  refine pure_ (i := 16) (N := some 79) (v := (.string (str (97 :: (encodeRune (m : Int) ++ [98]))))) (a' := ?_) #[true, true, true, true, true, true, true, true, true, true, true, true, true, true, true, true, true, false, false, false] rfl rfl (any_of HT_.out (by kernel_rfl)) (fun _ _ _ h => h) (Or.inl ⟨by rfl, ?_⟩) ?_ ?_
  · intro w'
    go_simp
    rw [if_neg (by rw [str_size, List.length_cons]; omega)]
    exact congrArg (fun x => Result.ok (Next.value (Value.string x)) w') (str_app (97 :: encodeRune (m : Int)) [98])
  rotate_left
  · simp only [Act.put, List.setIfInBounds_toArray, List.set_cons_zero, List.set_cons_succ, i64_w, i32_w]
    rfl
  refine pure_ (i := 17) (N := some 80) (v := (.bool true)) (a' := ?_) #[true, true, true, true, true, true, true, true, true, true, true, true, true, true, true, true, true, true, false, false] rfl rfl (any_of HT_.out (by kernel_rfl)) (fun _ _ _ h => h) (Or.inl ⟨by rfl, ?_⟩) ?_ ?_
  · intro w'
    first | (go_simp; done) | (go_simp; rfl) | (go_simp; simp [str])
  rotate_left
  · simp only [Act.put, List.setIfInBounds_toArray, List.set_cons_zero, List.set_cons_succ, i64_w, i32_w]
    rfl
  refine pure_ (i := 18) (N := some 81) (v := ?_) (a' := ?_) #[true, true, true, true, true, true, true, true, true, true, true, true, true, true, true, true, true, true, true, false] rfl rfl (any_of HT_.out (by kernel_rfl)) (fun _ _ _ h => h) (Or.inl ⟨by rfl, ?_⟩) ?_ ?_
  rotate_left
  · intro w'
    go_simp
    with_reducible rfl
  rotate_left
  · simp only [Act.put, List.setIfInBounds_toArray, List.set_cons_zero, List.set_cons_succ, i64_w, i32_w]
    rfl
  refine pure_ (i := 19) (N := some 4) (v := ?_) (a' := ?_) #[true, true, true, true, true, true, true, true, true, true, true, true, true, true, true, true, true, true, true, true] rfl rfl (any_of HT_.out (by kernel_rfl)) (fun _ _ _ h => h) (Or.inl ⟨by rfl, ?_⟩) ?_ ?_
  rotate_left
  · intro w'
    go_simp
    with_reducible rfl
  rotate_left
  · simp only [Act.put, List.setIfInBounds_toArray, List.set_cons_zero, List.set_cons_succ, i64_w, i32_w]
    rfl
  refine done_ (done_of HT_.out (by kernel_rfl)) ?_
  go_wp2
  go_ret
  exact ⟨rfl, hB8.trans ((hbW.trans (hb9.mono hbW.size)).mono hB8.size)⟩


theorem jsonEscapes_walk (n : Int) (sm : Bool) (w : World) (hG : Aside0 (Glob w)) (hGN : Aside0 (GlobN w)) (hn : -9223372036854775808 ≤ n ∧ n ≤ 9223372036854775807) :
    Calls Tryd.prog 8 #[.int .i64 n, .bool sm] w fun e w' => e = .returned (.bool true) ∧ Below w.heap.size w w' := by
  obtain ⟨m, hm, hlt⟩ := small_nat0 n 1114112 (by decide) (by decide)
  have hlt' : m < 1114112 := by omega
  by_cases h6 : m < 65536
  · by_cases hs : 55296 ≤ m ∧ m ≤ 57343
    · cases sm
      · exact escapes_a_false n m ⟨hm⟩ w hG hGN hs.1 hs.2
      · exact escapes_a_true n m ⟨hm⟩ w hG hGN hs.1 hs.2
    · cases sm
      · exact escapes_b_false n m ⟨hm⟩ w hG hGN (by omega) h6
      · exact escapes_b_true n m ⟨hm⟩ w hG hGN (by omega) h6
  · cases sm
    · exact escapes_c_false n m ⟨hm⟩ w hG hGN hlt' h6
    · exact escapes_c_true n m ⟨hm⟩ w hG hGN hlt' h6

end Go.Proofs.YtipbcdjnemdciaaDoor.Js
