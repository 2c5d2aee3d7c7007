/- NumLists, the plain law, for lists of at most 1048576 numbers each: the sum of a list that goes on is the sum of its beginning with the rest added one by one; and the walk of the law over such lists. -/
import Derived.Test.YtcnhnjajfkgkjaaDoorPureNumSums
namespace Go.Proofs.YtcnhnjajfkgkjaaDoor.Pure
open Go.RowKit Go.Proofs.YtcnhnjajfkgkjaaDoor.PNu Go.Proofs.YtcnhnjajfkgkjaaDoorW.PrintWords Go.Proofs.YtcnhnjajfkgkjaaDoorW.PrintLast Go.Proofs.YtcnhnjajfkgkjaaDoorW.PrintMore

/-- What the law's own loop comes to. -/
def goOn : Int → Int → List Int → Int × Int
  | s, e, [] => (s, e)
  | s, e, a :: r => if e = 0 then goOn (addG s a).1 (addG s a).2 r else (s, e)
theorem addG_err (s a : Int) (h : (addG s a).2 ≠ 0) : addG s a = (0, 10) := by
  unfold addG at h ⊢
  split
  · rename_i hf; rw [if_pos hf] at h; exact absurd rfl h
  · rfl
theorem goOn_err (b : List Int) (s e : Int) (h : e ≠ 0) : goOn s e b = (s, e) := by
  cases b with
  | nil => rfl
  | cons a r => unfold goOn; rw [if_neg h]
theorem goOn_sum : ∀ (b : List Int) (s : Int), goOn s 0 b = sumG s b
  | [], s => rfl
  | a :: r, s => by
    unfold goOn sumG
    rw [if_pos rfl]
    by_cases h : (addG s a).2 = 0
    · rw [if_pos h, h]
      exact goOn_sum r _
    · rw [if_neg h, goOn_err r _ _ h, addG_err s a h]
theorem sum_append : ∀ (a b : List Int) (s : Int), sumG s (a ++ b) = goOn (sumG s a).1 (sumG s a).2 b
  | [], b, s => (goOn_sum b s).symm
  | x :: r, b, s => by
    rw [List.cons_append]
    unfold sumG
    by_cases h : (addG s x).2 = 0
    · rw [if_pos h, if_pos h]
      exact sum_append r b _
    · rw [if_neg h, if_neg h]
      exact (goOn_err b _ _ h).symm

theorem lists_loop (b : List Int) (hb : b.length ≤ 1048576) (t f : Int) : ∀ (d i : Nat) (s e : Int), i + d = b.length → goOn s e (b.drop i) = (t, f) → ∀ k, d < k → haulierlaw01_NumLists.l0 k b s e t f (i : Int) = some true := by
  intro d
  induction d with
  | zero =>
    intro i s e hi h k hk
    obtain ⟨k, rfl⟩ : ∃ m, k = m + 1 := ⟨k - 1, by omega⟩
    rw [List.drop_of_length_le (by omega)] at h
    obtain ⟨rfl, rfl⟩ := Prod.mk.inj h
    simp only [haulierlaw01_NumLists.l0]
    rw [if_neg (by omega), if_pos trivial, beq_self_eq_true]
  | succ d ih =>
    intro i s e hi h k hk
    obtain ⟨k, rfl⟩ : ∃ m, k = m + 1 := ⟨k - 1, by omega⟩
    have hlt : i < b.length := by omega
    rw [List.drop_eq_getElem_cons hlt] at h
    simp only [haulierlaw01_NumLists.l0]
    rw [if_pos (by omega)]
    unfold goOn at h
    by_cases he : e = 0
    · rw [if_pos he] at h ⊢
      rw [if_pos (by omega), rd_elem b i hlt, add_tells, show wrap64 ((i : Int) + 1) = ((i + 1 : Nat) : Int) from by unfold wrap64; omega]
      simp only [Option.bind_some]
      exact ih (i + 1) _ _ (by omega) h k (by omega)
    · rw [if_neg he] at h ⊢
      obtain ⟨rfl, rfl⟩ := Prod.mk.inj h
      rw [if_pos rfl, beq_self_eq_true]

theorem NumLists (a b : List Int) (ha : a.length ≤ 1048576) (hb : b.length ≤ 1048576) : ∃ k, haulierlaw01_NumLists.f k a b = some true := by
  obtain ⟨K, hK⟩ : ∃ K, a.length + b.length + 5 < K := ⟨a.length + b.length + 6, by omega⟩
  refine ⟨K, ?_⟩
  unfold haulierlaw01_NumLists.f
  rw [awake]
  simp only [Option.bind_some, if_true, List.nil_append, List.length_nil]
  rw [if_pos (by omega), sum_tells a (by omega) _ (by omega)]
  simp only [Option.bind_some]
  rw [if_pos (by omega), if_pos (by omega), sum_tells (a ++ b) (by rw [List.length_append]; omega) _ (by rw [List.length_append]; omega)]
  simp only [Option.bind_some]
  exact lists_loop b hb _ _ b.length 0 _ _ (by omega) (by rw [List.drop_zero, sum_append]) K (by omega)

theorem NumLists_walk (a0 : Option Addr) (len0 cap0 : Nat) (z0 : List Int) (a1 : Option Addr) (len1 cap1 : Nat) (z1 : List Int) (w : World) (hG : Aside0 (Glob w))
    (w0 : (a0 = none ∧ len0 = 0 ∧ cap0 = 0 ∧ z0 = []) ∨ ∃ x, a0 = some x ∧ len0 ≤ cap0 ∧ cap0 ≤ maxLen ∧ z0.length = cap0 ∧ (∀ i, i < z0.length → w.cell? (x.add i) = some (.int .i64 (z0.getD i 0))) ∧ ∀ n ∈ z0, (Lit.int .i64 n).wf = true)
    (w1 : (a1 = none ∧ len1 = 0 ∧ cap1 = 0 ∧ z1 = []) ∨ ∃ x, a1 = some x ∧ len1 ≤ cap1 ∧ cap1 ≤ maxLen ∧ z1.length = cap1 ∧ (∀ i, i < z1.length → w.cell? (x.add i) = some (.int .i64 (z1.getD i 0))) ∧ ∀ n ∈ z1, (Lit.int .i64 n).wf = true)
    (u0 : len0 ≤ 1048576) (u1 : len1 ≤ 1048576) :
    Calls Tryd.prog 9 #[.slice a0 len0 cap0, .slice a1 len1 cap1] w fun e w' => e = .returned (.bool true) ∧ Below w.heap.size w w' := by
  obtain ⟨l0, rfl, hr0, hm0, hw0, hc0⟩ := ReadsInt.ofRowC w0
  obtain ⟨l1, rfl, hr1, hm1, hw1, hc1⟩ := ReadsInt.ofRowC w1
  obtain ⟨k, h⟩ := NumLists l0 l1 u0 u1
  refine (haulierlaw01_NumLists.calls k _ _ l0 _ _ l1 true w hG (Kd.C_of_reads (d := (0 : Int)) (h1 := fun _ => rfl) hr0) hc0 (Kd.C_of_reads (d := (0 : Int)) (h1 := fun _ => rfl) hr1) hc1 h).mono ?_
  rintro e w' ⟨rfl, hd⟩
  exact ⟨rfl, hd⟩

end Go.Proofs.YtcnhnjajfkgkjaaDoor.Pure
