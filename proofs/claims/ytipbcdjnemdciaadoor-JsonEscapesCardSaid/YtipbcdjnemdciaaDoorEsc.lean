/- The closure of JsonEscapes, walked: one escape of a number. -/
import Derived.Test.YtipbcdjnemdciaaDoorNests
import Derived.Test.YtipbcdjnemdciaaDoorPlE
import Derived.Test.YtipbcdjnemdciaaDoorRw
import Derived.Laws.BitsLemmas
set_option linter.unusedVariables false
set_option linter.unusedSimpArgs false
namespace Go.Proofs.YtipbcdjnemdciaaDoor.Js
open Go.RowKit Go.Lib Go.Proofs.YtipbcdjnemdciaaDoor.PSh Go.Proofs.YtipbcdjnemdciaaDoor.Np Go.Proofs.YtipbcdjnemdciaaDoorW.PrintWords Go.Proofs.YtipbcdjnemdciaaDoorW.PrintLast Go.Proofs.YtipbcdjnemdciaaDoorW.PrintMore

def digs (small : Bool) : List UInt8 := if small = true then [48, 49, 50, 51, 52, 53, 54, 55, 56, 57, 97, 98, 99, 100, 101, 102] else [48, 49, 50, 51, 52, 53, 54, 55, 56, 57, 65, 66, 67, 68, 69, 70]
theorem and15 (x : Int) (h0 : 0 ≤ x) (h : x < 2 ^ 62) : Go.bits .and .i64 x 15 = x % 16 := by
  have hk : ∀ m : Int, 0 ≤ m → m < 2 ^ 63 → IntKind.i64.wrap m = m := fun m h0 h1 => by rw [IntKind.wrap_i64]; omega
  exact bits_mask .i64 63 (by decide) hk 4 (by omega) x h0 (by omega)
theorem digs_at : ∀ small : Bool, ∀ j : Nat, j < 16 → (digs small).getD j 0 = hd small j := by decide
theorem digs_len (small : Bool) : (digs small).length = 16 := by cases small <;> rfl
theorem dig_ix (small : Bool) (k : Int) (j : Nat) (hk : k = j) (hj : j < 16) (W : World) (r : Result Value) :
    (if hi : 0 ≤ k ∧ k < ((str (digs small)).size : Int) then Result.ok (Value.int .u8 (((str (digs small))[k.toNat]'(by omega)).toNat : Int)) W else r) = .ok (.int .u8 ((hd small j).toNat : Int)) W := by
  subst hk
  have hl : (str (digs small)).size = 16 := by rw [str_size, digs_len]
  rw [dif_pos ⟨by omega, by omega⟩]
  have e : (str (digs small))[((j : Int)).toNat]'(by rw [hl]; omega) = hd small j := by
    rw [← digs_at small j hj, List.getD_eq_getElem?_getD, List.getElem?_eq_getElem (by rw [digs_len]; exact hj)]
    rfl
  rw [e]
def esc.T1 : Bool × List (List Nat × List Nat) := (true, [([], []), ([], []), ([1], [1]), ([2], [2]), ([0, 3], [0, 3]), ([], []), ([], []), ([6], [6]), ([7], [7]), ([5, 8], [5, 8]), ([], []), ([], []), ([11], [11]), ([12], [12]), ([10, 13], [10, 13]), ([], []), ([], []), ([16], [16]), ([15, 17], [15, 17]), ([4, 9, 14, 18], [4, 9, 14, 18]), ([19], [19]), ([20], [20]), ([21, 0, 1, 2, 3, 4, 5, 6, 7, 8, 9, 10, 11, 12, 13, 14, 15, 16, 17, 18, 19, 20, 21], [21])])
def esc.B1 : List Nat := [0, 0, 2, 6, 15, 0, 0, 64, 192, 480, 0, 0, 2048, 6144, 15360, 0, 0, 65536, 229376, 524287, 1048575, 2097151, 4194303]
theorem esc.tab1 : rtab .any (opsOf Tryd.f14 1) = esc.T1 := by kernel_rfl
theorem esc.bits1 : waitsOk esc.T1.2 esc.B1 = true := by kernel_rfl

set_option maxHeartbeats 4000000 in
set_option maxRecDepth 100000 in
theorem esc_walk (small : Bool) (n : Nat) (hn : n < 2097152) (w : World) (g : Nat) (hg : w.cell? ⟨g, 0, none⟩ = some (.string (str (digs small)))) :
    Calls Tryd.prog 14 #[.int .i64 (n : Int), .pointer (some ⟨g, 0, none⟩)] w fun e w' => e = .returned (.string (str (h4 small n))) ∧ Below w.heap.size w w' := by
  go_enter Tryd.func14, Tryd.ntmps14
  go_wp2
  refine start_ (n := 23) (S := fun w' => w'.cell? ⟨g, 0, none⟩ = some (.string (str (digs small)))) (ds := []) #[false, false, false, false, false, false, false, false, false, false, false, false, false, false, false, false, false, false, false, false, false, false, false] (by kernel_rfl) rfl rfl hg (fun hHeld => ?_)
  refine with_tabW esc.tab1 esc.bits1 (fun HT_ HW_ => ?_)
  have hbW : Below w.heap.size w w.drew := below_drew (Below.refl _ _)
  generalize w.drew = W0 at *
  refine take_ (i := 0) (N := some 4) (v := ?_) (a' := ?_) #[true, false, false, false, false, false, false, false, false, false, false, false, false, false, false, false, false, false, false, false, false, false, false] rfl rfl (take_ofW HT_.out HW_.out (by kernel_rfl)) (fun _ _ _ h => h) (Or.inl ⟨by rfl, ?_⟩) hHeld ?_ ?_
  rotate_left
  · rintro w' s0
    go_simp
    with_reducible rfl
  rotate_left
  · simp only [Act.put, List.setIfInBounds_toArray, List.set_cons_zero, List.set_cons_succ, i64_w, i32_w]
    rfl
  refine pure_ (i := 1) (N := some 5) (v := ?_) (a' := ?_) #[true, true, false, false, false, false, false, false, false, false, false, false, false, false, false, false, false, false, false, false, false, false, false] rfl rfl (any_of HT_.out (by kernel_rfl)) (fun _ _ _ h => h) (Or.inl ⟨by rfl, ?_⟩) ?_ ?_
  rotate_left
  · intro w'
    go_simp
    with_reducible rfl
  rotate_left
  · simp only [Act.put, List.setIfInBounds_toArray, List.set_cons_zero, List.set_cons_succ, i64_w, i32_w]
    rfl
  refine pure_ (i := 2) (N := some 6) (v := ?_) (a' := ?_) #[true, true, true, false, false, false, false, false, false, false, false, false, false, false, false, false, false, false, false, false, false, false, false] rfl rfl (any_of HT_.out (by kernel_rfl)) (fun _ _ _ h => h) (Or.inl ⟨by rfl, ?_⟩) ?_ ?_
  rotate_left
  · intro w'
    go_simp
    with_reducible rfl
  rotate_left
  · simp only [Act.put, List.setIfInBounds_toArray, List.set_cons_zero, List.set_cons_succ, i64_w, i32_w]
    rfl
  refine pure_ (i := 3) (N := some 7) (v := (.int .i64 ((n / 4096 % 16 : Nat) : Int))) (a' := ?_) #[true, true, true, true, false, false, false, false, false, false, false, false, false, false, false, false, false, false, false, false, false, false, false] rfl rfl (any_of HT_.out (by kernel_rfl)) (fun _ _ _ h => h) (Or.inl ⟨by rfl, ?_⟩) ?_ ?_
  · intro w'
    go_simp
    exact and15 _ (by omega) (by omega)
  rotate_left
  · simp only [Act.put, List.setIfInBounds_toArray, List.set_cons_zero, List.set_cons_succ, i64_w, i32_w]
    rfl
  refine pure_ (i := 4) (N := some 8) (v := (.int .u8 ((hd small (n / 4096 % 16)).toNat : Int))) (a' := ?_) #[true, true, true, true, true, false, false, false, false, false, false, false, false, false, false, false, false, false, false, false, false, false, false] rfl rfl (any_of HT_.out (by kernel_rfl)) (fun _ _ _ h => h) (Or.inl ⟨by rfl, ?_⟩) ?_ ?_
  · intro w'
    go_simp
    rw [dig_ix small _ (n / 4096 % 16) (by omega) (by omega)]
    rfl
  rotate_left
  · simp only [Act.put, List.setIfInBounds_toArray, List.set_cons_zero, List.set_cons_succ, i64_w, i32_w]
    rfl
  refine take_ (i := 5) (N := some 9) (v := ?_) (a' := ?_) #[true, true, true, true, true, true, false, false, false, false, false, false, false, false, false, false, false, false, false, false, false, false, false] rfl rfl (take_ofW HT_.out HW_.out (by kernel_rfl)) (fun _ _ _ h => h) (Or.inl ⟨by rfl, ?_⟩) hHeld ?_ ?_
  rotate_left
  · rintro w' s0
    go_simp
    with_reducible rfl
  rotate_left
  · simp only [Act.put, List.setIfInBounds_toArray, List.set_cons_zero, List.set_cons_succ, i64_w, i32_w]
    rfl
  refine pure_ (i := 6) (N := some 10) (v := ?_) (a' := ?_) #[true, true, true, true, true, true, true, false, false, false, false, false, false, false, false, false, false, false, false, false, false, false, false] rfl rfl (any_of HT_.out (by kernel_rfl)) (fun _ _ _ h => h) (Or.inl ⟨by rfl, ?_⟩) ?_ ?_
  rotate_left
  · intro w'
    go_simp
    with_reducible rfl
  rotate_left
  · simp only [Act.put, List.setIfInBounds_toArray, List.set_cons_zero, List.set_cons_succ, i64_w, i32_w]
    rfl
  refine pure_ (i := 7) (N := some 11) (v := ?_) (a' := ?_) #[true, true, true, true, true, true, true, true, false, false, false, false, false, false, false, false, false, false, false, false, false, false, false] rfl rfl (any_of HT_.out (by kernel_rfl)) (fun _ _ _ h => h) (Or.inl ⟨by rfl, ?_⟩) ?_ ?_
  rotate_left
  · intro w'
    go_simp
    with_reducible rfl
  rotate_left
  · simp only [Act.put, List.setIfInBounds_toArray, List.set_cons_zero, List.set_cons_succ, i64_w, i32_w]
    rfl
  refine pure_ (i := 8) (N := some 12) (v := (.int .i64 ((n / 256 % 16 : Nat) : Int))) (a' := ?_) #[true, true, true, true, true, true, true, true, true, false, false, false, false, false, false, false, false, false, false, false, false, false, false] rfl rfl (any_of HT_.out (by kernel_rfl)) (fun _ _ _ h => h) (Or.inl ⟨by rfl, ?_⟩) ?_ ?_
  · intro w'
    go_simp
    exact and15 _ (by omega) (by omega)
  rotate_left
  · simp only [Act.put, List.setIfInBounds_toArray, List.set_cons_zero, List.set_cons_succ, i64_w, i32_w]
    rfl
  refine pure_ (i := 9) (N := some 13) (v := (.int .u8 ((hd small (n / 256 % 16)).toNat : Int))) (a' := ?_) #[true, true, true, true, true, true, true, true, true, true, false, false, false, false, false, false, false, false, false, false, false, false, false] rfl rfl (any_of HT_.out (by kernel_rfl)) (fun _ _ _ h => h) (Or.inl ⟨by rfl, ?_⟩) ?_ ?_
  · intro w'
    go_simp
    rw [dig_ix small _ (n / 256 % 16) (by omega) (by omega)]
    rfl
  rotate_left
  · simp only [Act.put, List.setIfInBounds_toArray, List.set_cons_zero, List.set_cons_succ, i64_w, i32_w]
    rfl
  refine take_ (i := 10) (N := some 14) (v := ?_) (a' := ?_) #[true, true, true, true, true, true, true, true, true, true, true, false, false, false, false, false, false, false, false, false, false, false, false] rfl rfl (take_ofW HT_.out HW_.out (by kernel_rfl)) (fun _ _ _ h => h) (Or.inl ⟨by rfl, ?_⟩) hHeld ?_ ?_
  rotate_left
  · rintro w' s0
    go_simp
    with_reducible rfl
  rotate_left
  · simp only [Act.put, List.setIfInBounds_toArray, List.set_cons_zero, List.set_cons_succ, i64_w, i32_w]
    rfl
  refine pure_ (i := 11) (N := some 15) (v := ?_) (a' := ?_) #[true, true, true, true, true, true, true, true, true, true, true, true, false, false, false, false, false, false, false, false, false, false, false] rfl rfl (any_of HT_.out (by kernel_rfl)) (fun _ _ _ h => h) (Or.inl ⟨by rfl, ?_⟩) ?_ ?_
  rotate_left
  · intro w'
    go_simp
    with_reducible rfl
  rotate_left
  · simp only [Act.put, List.setIfInBounds_toArray, List.set_cons_zero, List.set_cons_succ, i64_w, i32_w]
    rfl
  refine pure_ (i := 12) (N := some 16) (v := ?_) (a' := ?_) #[true, true, true, true, true, true, true, true, true, true, true, true, true, false, false, false, false, false, false, false, false, false, false] rfl rfl (any_of HT_.out (by kernel_rfl)) (fun _ _ _ h => h) (Or.inl ⟨by rfl, ?_⟩) ?_ ?_
  rotate_left
  · intro w'
    go_simp
    with_reducible rfl
  rotate_left
  · simp only [Act.put, List.setIfInBounds_toArray, List.set_cons_zero, List.set_cons_succ, i64_w, i32_w]
    rfl
  refine pure_ (i := 13) (N := some 17) (v := (.int .i64 ((n / 16 % 16 : Nat) : Int))) (a' := ?_) #[true, true, true, true, true, true, true, true, true, true, true, true, true, true, false, false, false, false, false, false, false, false, false] rfl rfl (any_of HT_.out (by kernel_rfl)) (fun _ _ _ h => h) (Or.inl ⟨by rfl, ?_⟩) ?_ ?_
  · intro w'
    go_simp
    exact and15 _ (by omega) (by omega)
  rotate_left
  · simp only [Act.put, List.setIfInBounds_toArray, List.set_cons_zero, List.set_cons_succ, i64_w, i32_w]
    rfl
  refine pure_ (i := 14) (N := some 18) (v := (.int .u8 ((hd small (n / 16 % 16)).toNat : Int))) (a' := ?_) #[true, true, true, true, true, true, true, true, true, true, true, true, true, true, true, false, false, false, false, false, false, false, false] rfl rfl (any_of HT_.out (by kernel_rfl)) (fun _ _ _ h => h) (Or.inl ⟨by rfl, ?_⟩) ?_ ?_
  · intro w'
    go_simp
    rw [dig_ix small _ (n / 16 % 16) (by omega) (by omega)]
    rfl
  rotate_left
  · simp only [Act.put, List.setIfInBounds_toArray, List.set_cons_zero, List.set_cons_succ, i64_w, i32_w]
    rfl
  refine take_ (i := 15) (N := some 19) (v := ?_) (a' := ?_) #[true, true, true, true, true, true, true, true, true, true, true, true, true, true, true, true, false, false, false, false, false, false, false] rfl rfl (take_ofW HT_.out HW_.out (by kernel_rfl)) (fun _ _ _ h => h) (Or.inl ⟨by rfl, ?_⟩) hHeld ?_ ?_
  rotate_left
  · rintro w' s0
    go_simp
    with_reducible rfl
  rotate_left
  · simp only [Act.put, List.setIfInBounds_toArray, List.set_cons_zero, List.set_cons_succ, i64_w, i32_w]
    rfl
  refine pure_ (i := 16) (N := some 20) (v := ?_) (a' := ?_) #[true, true, true, true, true, true, true, true, true, true, true, true, true, true, true, true, true, false, false, false, false, false, false] rfl rfl (any_of HT_.out (by kernel_rfl)) (fun _ _ _ h => h) (Or.inl ⟨by rfl, ?_⟩) ?_ ?_
  rotate_left
  · intro w'
    go_simp
    with_reducible rfl
  rotate_left
  · simp only [Act.put, List.setIfInBounds_toArray, List.set_cons_zero, List.set_cons_succ, i64_w, i32_w]
    rfl
  refine pure_ (i := 17) (N := some 21) (v := (.int .i64 ((n % 16 : Nat) : Int))) (a' := ?_) #[true, true, true, true, true, true, true, true, true, true, true, true, true, true, true, true, true, true, false, false, false, false, false] rfl rfl (any_of HT_.out (by kernel_rfl)) (fun _ _ _ h => h) (Or.inl ⟨by rfl, ?_⟩) ?_ ?_
  · intro w'
    go_simp
    exact and15 _ (by omega) (by omega)
  rotate_left
  · simp only [Act.put, List.setIfInBounds_toArray, List.set_cons_zero, List.set_cons_succ, i64_w, i32_w]
    rfl
  refine pure_ (i := 18) (N := some 22) (v := (.int .u8 ((hd small (n % 16)).toNat : Int))) (a' := ?_) #[true, true, true, true, true, true, true, true, true, true, true, true, true, true, true, true, true, true, true, false, false, false, false] rfl rfl (any_of HT_.out (by kernel_rfl)) (fun _ _ _ h => h) (Or.inl ⟨by rfl, ?_⟩) ?_ ?_
  · intro w'
    go_simp
    rw [dig_ix small _ (n % 16) (by omega) (by omega)]
    rfl
  rotate_left
  · simp only [Act.put, List.setIfInBounds_toArray, List.set_cons_zero, List.set_cons_succ, i64_w, i32_w]
    rfl
  refine one_ (i := 19) (N := some 23) #[true, true, true, true, true, true, true, true, true, true, true, true, true, true, true, true, true, true, true, true, false, false, false] rfl rfl (one_of HT_.out (by kernel_rfl)) (by decide) (fun K hK => ?_)
  refine value_ (v := .slice (some ⟨W0.heap.size, 0, none⟩) 4 4) (w1 := W0.alloc (.cells #[.int .u8 ((hd small (n / 4096 % 16)).toNat : Int), .int .u8 ((hd small (n / 256 % 16)).toNat : Int), .int .u8 ((hd small (n / 16 % 16)).toNat : Int), .int .u8 ((hd small (n % 16)).toNat : Int)] 5)) (by rfl) rfl (by first | (go_simp; done) | (go_simp; rfl)) ?_
  refine hK.out _ _ ((below_alloc (Below.refl W0.heap.size W0) _).cell (World.block_lt_of_cell? W0 _ hHeld) |>.trans hHeld) (fun hh => ?_)
  clear hK K
  have hrd := lit_reads W0 [hd small (n / 4096 % 16), hd small (n / 256 % 16), hd small (n / 16 % 16), hd small (n % 16)] #[.int .u8 ((hd small (n / 4096 % 16)).toNat : Int), .int .u8 ((hd small (n / 256 % 16)).toNat : Int), .int .u8 ((hd small (n / 16 % 16)).toNat : Int), .int .u8 ((hd small (n % 16)).toNat : Int)] (0, 0) rfl (by show 4 ≤ 9223372036854775807; decide)
  have hcv := string_of_reads (P := Tryd.prog) (src := 22) (dst := 9) (e := 5) (c := 4) Tryd.underlying22 Tryd.underlying5 Tryd.underlying9 hrd
  unfold bytesOf at hcv
  rw [strOfNums_bytes] at hcv
  replace hcv : (convert 22 9 (.slice (some ⟨W0.heap.size, 0, none⟩) 4 4)).run Tryd.prog (W0.alloc (.cells #[.int .u8 ((hd small (n / 4096 % 16)).toNat : Int), .int .u8 ((hd small (n / 256 % 16)).toNat : Int), .int .u8 ((hd small (n / 16 % 16)).toNat : Int), .int .u8 ((hd small (n % 16)).toNat : Int)] 5)) = .ok (.string (str [hd small (n / 4096 % 16), hd small (n / 256 % 16), hd small (n / 16 % 16), hd small (n % 16)])) (W0.alloc (.cells #[.int .u8 ((hd small (n / 4096 % 16)).toNat : Int), .int .u8 ((hd small (n / 256 % 16)).toNat : Int), .int .u8 ((hd small (n / 16 % 16)).toNat : Int), .int .u8 ((hd small (n % 16)).toNat : Int)] 5)) := hcv
  refine one_ (i := 20) (N := some 24) #[true, true, true, true, true, true, true, true, true, true, true, true, true, true, true, true, true, true, true, true, true, false, false] rfl rfl (one_of HT_.out (by kernel_rfl)) (by decide) (fun K hK => ?_)
  refine value_ (v := .string (str [hd small (n / 4096 % 16), hd small (n / 256 % 16), hd small (n / 16 % 16), hd small (n % 16)])) (w1 := W0.alloc (.cells #[.int .u8 ((hd small (n / 4096 % 16)).toNat : Int), .int .u8 ((hd small (n / 256 % 16)).toNat : Int), .int .u8 ((hd small (n / 16 % 16)).toNat : Int), .int .u8 ((hd small (n % 16)).toNat : Int)] 5)) (by rfl) rfl (by first | exact hcv | (go_simp; done) | (go_simp; exact hcv) | (go_simp; rw [hcv]; rfl)) ?_
  refine hK.out _ _ hh (fun hh2 => ?_)
  clear hK K
  refine pure_ (i := 21) (N := some 25) (v := (.string (str (h4 small n)))) (a' := ?_) #[true, true, true, true, true, true, true, true, true, true, true, true, true, true, true, true, true, true, true, true, true, true, false] rfl rfl (any_of HT_.out (by kernel_rfl)) (fun _ _ _ h => h) (Or.inl ⟨by rfl, ?_⟩) ?_ ?_
  · intro w'
    go_simp
    rw [if_neg (by rw [str_size]; show ¬ 9223372036854775807 < 2 + 4; decide)]
    rfl
  rotate_left
  · simp only [Act.put, List.setIfInBounds_toArray, List.set_cons_zero, List.set_cons_succ, i64_w, i32_w]
    rfl
  refine pure_ (i := 22) (N := some 3) (v := ?_) (a' := ?_) #[true, true, true, true, true, true, true, true, true, true, true, true, true, true, true, true, true, true, true, true, true, true, true] rfl rfl (any_of HT_.out (by kernel_rfl)) (fun _ _ _ h => h) (Or.inl ⟨by rfl, ?_⟩) ?_ ?_
  rotate_left
  · intro w'
    go_simp
    with_reducible rfl
  rotate_left
  · simp only [Act.put, List.setIfInBounds_toArray, List.set_cons_zero, List.set_cons_succ, i64_w, i32_w]
    rfl
  refine done_ (done_of HT_.out (by kernel_rfl)) ?_
  go_wp2
  go_ret
  exact ⟨rfl, below_alloc hbW _⟩

end Go.Proofs.YtipbcdjnemdciaaDoor.Js
