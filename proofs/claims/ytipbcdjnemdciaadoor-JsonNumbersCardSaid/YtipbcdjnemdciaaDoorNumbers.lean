/- JsonNumbers, walked. -/
import Derived.Test.YtipbcdjnemdciaaDoorNests
import Derived.Test.YtipbcdjnemdciaaDoorPlN
import Derived.Test.YtipbcdjnemdciaaDoorRefText
set_option linter.unusedVariables false
set_option linter.unusedSimpArgs false
namespace Go.Proofs.YtipbcdjnemdciaaDoor.Js
open Go.RowKit Go.Lib Go.Proofs.YtipbcdjnemdciaaDoor.PSh Go.Proofs.YtipbcdjnemdciaaDoor.Np Go.Proofs.YtipbcdjnemdciaaDoorW.PrintWords Go.Proofs.YtipbcdjnemdciaaDoorW.PrintLast Go.Proofs.YtipbcdjnemdciaaDoorW.PrintMore

set_option maxHeartbeats 4000000 in
theorem fits_walk (a : Int) (w : World) : Calls Tryd.prog 13 #[.int .i64 a] w fun e w' => e = .returned (.bool (decide (fit a))) ∧ w' = w := by
  by_cases h1 : -4611686018427387903 ≤ a
  · by_cases h2 : a ≤ 4611686018427387903
    · have k1 : (a ≥ -4611686018427387903) = True := eq_true h1
      have k2 : (a ≤ 4611686018427387903) = True := eq_true h2
      have k3 : decide (-4611686018427387903 ≤ a) = true := decide_eq_true h1
      have k4 : decide (fit a) = true := decide_eq_true ⟨h1, h2⟩
      rw [k4]
      go_enter Tryd.func13, Tryd.ntmps13
      go_wp2
      go_ret
      exact ⟨rfl, rfl⟩
    · have k1 : (a ≥ -4611686018427387903) = True := eq_true h1
      have k2 : (a ≤ 4611686018427387903) = False := eq_false h2
      have k3 : decide (-4611686018427387903 ≤ a) = true := decide_eq_true h1
      have k4 : decide (fit a) = false := decide_eq_false fun h => h2 h.2
      rw [k4]
      go_enter Tryd.func13, Tryd.ntmps13
      go_wp2
      go_ret
      exact ⟨rfl, rfl⟩
  · have k1 : (a ≥ -4611686018427387903) = False := eq_false h1
    have k3 : decide (-4611686018427387903 ≤ a) = false := decide_eq_false h1
    have k4 : decide (fit a) = false := decide_eq_false fun h => h1 h.1
    rw [k4]
    go_enter Tryd.func13, Tryd.ntmps13
    go_wp2
    go_ret
    exact ⟨rfl, rfl⟩

/-- json.Parse of a text that has just been turned into bytes. -/
theorem parse_text (X : List UInt8) (w : World) (hG : Glob w) (hGN : GlobN w) (hl : X.length ≤ 65536) (cp : Nat) :
    Calls Tryd.prog 10 #[.slice (some ⟨w.heap.size, 0, none⟩) (str X).size cp] (bytesWorld w 5 (str X)) fun e w' => ParseEnds (bytesWorld w 5 (str X)) (parse X) e w' ∧ Below w.heap.size w w' := by
  have hbb := bytes_below (Below.refl w.heap.size w) (Nat.le_refl _) 5 (str X)
  refine (parse_walk (bytesWorld w 5 (str X)) (some ⟨w.heap.size, 0, none⟩) cp (str X) (hG.below hbb) (hGN.below hbb) (by rw [str_size]; exact hl) (bytes_reads _ _ _ (by rw [str_size]; omega))).mono fun e w' h => ⟨h, hbb.trans (h.1.mono hbb.size)⟩
theorem kb (X : List UInt8) (w : World) : (convert 9 22 (.string (str X))).run Tryd.prog w = .ok (.slice (some ⟨w.heap.size, 0, none⟩) (str X).size (grownCap w (str X).size 0 5)) (bytesWorld w 5 (str X)) :=
  print_bytes (P := Tryd.prog) 9 22 5 Tryd.underlying9 Tryd.underlying22 Tryd.underlying5 (str X) w

def odds (n : Int) (j : Nat) : List UInt8 := itoa n ++ if j = 0 then [46, 48] else if j = 1 then [101, 49] else if j = 2 then [69, 43, 49] else [45]
theorem odds_no (n : Int) (hl : (itoa n).length ≤ 100) (j : Nat) : parse (91 :: 55 :: 44 :: (odds n j ++ [93])) = .no 3 25 := by
  unfold odds
  split
  · exact odd_no n _ (by decide) 46 (by decide) (by decide) hl (by decide)
  · split
    · exact odd_no n _ (by decide) 101 (by decide) (by decide) hl (by decide)
    · split
      · exact odd_no n _ (by decide) 69 (by decide) (by decide) hl (by decide)
      · exact odd_no n _ (by decide) 45 (by decide) (by decide) hl (by decide)
theorem odds_len (n : Int) (hl : (itoa n).length ≤ 100) (j : Nat) : (odds n j).length ≤ 103 := by
  unfold odds
  rw [List.length_append]
  have : (if j = 0 then [46, 48] else if j = 1 then [101, 49] else if j = 2 then [69, 43, 49] else [45] : List UInt8).length ≤ 3 := by
    split
    · decide
    · split
      · decide
      · split <;> decide
  omega

set_option maxHeartbeats 4000000 in
set_option maxRecDepth 100000 in
theorem jsonNumbers_walk (n : Int) (w : World) (hG : Aside0 (Glob w)) (hGN : Aside0 (GlobN w)) (hn : -9223372036854775808 ≤ n ∧ n ≤ 9223372036854775807) :
    Calls Tryd.prog 7 #[.int .i64 n] w fun e w' => e = .returned (.bool true) ∧ Below w.heap.size w w' := by
  have hil := itoa_size n hn.1 hn.2
  have hone := one_itoa n hn.1 hn.2 hil
  have e1 : (⟨#[91]⟩ : ByteArray) ++ str (itoa n) = str (91 :: itoa n) := str_app [91] (itoa n)
  have e2 : str (91 :: itoa n) ++ (⟨#[93]⟩ : ByteArray) = str (91 :: (itoa n ++ [93])) := str_app (91 :: itoa n) [93]
  have s1 : (9223372036854775807 < 1 + (str (itoa n)).size) = False := eq_false (by rw [str_size]; omega)
  have s2 : (9223372036854775807 < (str (91 :: itoa n)).size + 1) = False := eq_false (by rw [str_size, List.length_cons]; omega)
  have hl1 : (91 :: (itoa n ++ [93])).length ≤ 65536 := by simp only [List.length_cons, List.length_append, List.length_nil]; omega
  have s3 : (9223372036854775807 < (str (itoa n)).size + 2) = False := eq_false (by rw [str_size]; omega)
  have s4 : (9223372036854775807 < (str (itoa n)).size + 3) = False := eq_false (by rw [str_size]; omega)
  have s5 : (9223372036854775807 < (str (itoa n)).size + 1) = False := eq_false (by rw [str_size]; omega)
  have o0 : str (itoa n) ++ (⟨#[46, 48]⟩ : ByteArray) = str (odds n 0) := str_app _ [46, 48]
  have o1 : str (itoa n) ++ (⟨#[101, 49]⟩ : ByteArray) = str (odds n 1) := str_app _ [101, 49]
  have o2 : str (itoa n) ++ (⟨#[69, 43, 49]⟩ : ByteArray) = str (odds n 2) := str_app _ [69, 43, 49]
  have o3 : str (itoa n) ++ (⟨#[45]⟩ : ByteArray) = str (odds n 3) := str_app _ [45]
  have hol := odds_len n hil
  have hon := odds_no n hil
  by_cases hf : fit n
  · have kf : decide (fit n) = true := decide_eq_true hf
    rw [if_pos hf] at hone
    go_enter Tryd.func7, Tryd.ntmps7
    go_wp2_with (first
      | (go_at_call 9; refine (awake_walk w hG hGN).mono ?_; rintro e w2 ⟨rfl, hb2⟩; have hG2 := hG.out.below hb2; have hGN2 := hGN.out.below hb2)
      | (go_at_call 12; refine (Rt.reftext_walk n hn.1 hn.2 _ hG2).mono ?_; rintro e w3 ⟨rfl, hb3⟩; rw [show (⟨(itoa n).toArray⟩ : ByteArray) = str (itoa n) from rfl]; have hB3 := hb2.trans (hb3.mono hb2.size); have hG3 := hG.out.below hB3; have hGN3 := hGN.out.below hB3; have k1 := kb (91 :: (itoa n ++ [93])) w3)
      | (go_at_call 10; (with_reducible refine (parse_text (91 :: (itoa n ++ [93])) w3 hG3 hGN3 hl1 _).mono ?_); rw [hone]; rintro e w4 ⟨⟨_, tv, rfl, hR⟩, hb4⟩; obtain ⟨g1, c1, rfl, -, hg1, -⟩ := Kd.R_form hR (Nat.zero_lt_succ _); have hC := (Kd.R_reads' hR).2.2; have hB4 := hB3.trans (hb4.mono hB3.size); rw [show ([⟨3, false, n, ⟨#[]⟩, [], []⟩, ⟨5, false, 0, ⟨#[]⟩, [], [0]⟩] : List S39).length = 2 from rfl]; obtain ⟨ad, A4, c4, A5, c5, e0, hx0, hx1, hx2, hx3, hx4, hx5, hl4, hC4, hl5, hC5⟩ := at_T39 hC 0 (by decide) (by show (0 : Int) < 2; decide); obtain rfl := Option.some.inj e0; clear hx1 hx3 hx4 hx5 hC4 hC5; replace hx0 : w4.cell? ⟨g1, 0, none⟩ = some (.int .i64 3) := hx0; replace hx2 : w4.cell? ⟨g1, 2, none⟩ = some (.int .i64 n) := hx2)
      | (go_at_call 13; refine (fits_walk n _).mono ?_; rintro e w5 ⟨rfl, rfl⟩; rw [kf]))
    obtain ⟨w6, hw6⟩ : ∃ w6, w5.alloc (.cells #[.string (str (odds n 0)), .string (str (odds n 1)), .string (str (odds n 2)), .string (str (odds n 3))] 9) = w6 := ⟨_, rfl⟩
    have hb6 : Below w.heap.size w w6 := by rw [← hw6]; exact below_alloc hB4 _
    have hx6 : w6.heap[w5.heap.size]? = some (.cells #[.string (str (odds n 0)), .string (str (odds n 1)), .string (str (odds n 2)), .string (str (odds n 3))] 9 (0, 0)) := by rw [← hw6]; exact Array.getElem?_push_size
    rw [hw6]
    clear hw6 hx0 hx2 hR hC
    go_loopw [67] (fun i wr => ∃ j : Nat, j ≤ 4 ∧ i = .int .i64 j ∧ Below w6.heap.size w6 wr) (fun i _ => 4 - (RowKit.intOf i).toNat)
    case atStart => exact ⟨0, Nat.zero_le _, rfl, Below.refl _ _⟩
    case round =>
      obtain ⟨j, hj, rfl, hbr⟩ := hrel
      have hbB := hb6.trans (hbr.mono hb6.size)
      have hGr := hG.out.below hbB
      have hGNr := hGN.out.below hbB
      have hxr := (hbr.block w5.heap.size (Array.getElem?_eq_some_iff.1 hx6).1).trans hx6
      by_cases hlt : j < 4
      · have hll : ((j : Int) < 4) = True := eq_true (by omega)
        have hx : wr.cell? ⟨w5.heap.size, j, none⟩ = some (.string (str (odds n j))) := by
          rw [World.cell?, hxr]
          match j, hlt with
          | 0, _ => rfl
          | 1, _ => rfl
          | 2, _ => rfl
          | 3, _ => rfl
        have ho := hon j
        have hl := hol j
        have q1 : (⟨#[91, 55, 44]⟩ : ByteArray) ++ str (odds n j) = str (91 :: 55 :: 44 :: odds n j) := str_app [91, 55, 44] _
        have q2 : str (91 :: 55 :: 44 :: odds n j) ++ (⟨#[93]⟩ : ByteArray) = str (91 :: 55 :: 44 :: (odds n j ++ [93])) := str_app _ [93]
        have q3 : (9223372036854775807 < 3 + (str (odds n j)).size) = False := eq_false (by rw [str_size]; omega)
        have q4 : (9223372036854775807 < (str (91 :: 55 :: 44 :: odds n j)).size + 1) = False := eq_false (by rw [str_size, List.length_cons, List.length_cons, List.length_cons]; omega)
        have q5 : (91 :: 55 :: 44 :: (odds n j ++ [93])).length ≤ 65536 := by simp only [List.length_cons, List.length_append, List.length_nil]; omega
        have k1 := kb (91 :: 55 :: 44 :: (odds n j ++ [93])) wr
        go_wp2_with (go_at_call 10; refine (parse_text (91 :: 55 :: 44 :: (odds n j ++ [93])) wr hGr hGNr q5 _).mono ?_; rw [ho]; rintro e w7 ⟨⟨_, rfl⟩, hb7⟩; have hB7 := hbr.trans (hb7.mono hbr.size))
        go_roundw
        case rel => exact ⟨j + 1, hlt, rfl, hB7⟩
        case measure => simp [RowKit.intOf]; omega
      · have hll : ((j : Int) < 4) = False := eq_false (by omega)
        go_wp2
        go_ret
        exact ⟨rfl, hbB⟩
  · have kf : decide (fit n) = false := decide_eq_false hf
    rw [if_neg hf] at hone
    go_enter Tryd.func7, Tryd.ntmps7
    go_wp2_with (first
      | (go_at_call 9; refine (awake_walk w hG hGN).mono ?_; rintro e w2 ⟨rfl, hb2⟩; have hG2 := hG.out.below hb2; have hGN2 := hGN.out.below hb2)
      | (go_at_call 12; refine (Rt.reftext_walk n hn.1 hn.2 _ hG2).mono ?_; rintro e w3 ⟨rfl, hb3⟩; rw [show (⟨(itoa n).toArray⟩ : ByteArray) = str (itoa n) from rfl]; have hB3 := hb2.trans (hb3.mono hb2.size); have hG3 := hG.out.below hB3; have hGN3 := hGN.out.below hB3; have k1 := kb (91 :: (itoa n ++ [93])) w3)
      | (go_at_call 10; (with_reducible refine (parse_text (91 :: (itoa n ++ [93])) w3 hG3 hGN3 hl1 _).mono ?_); rw [hone]; rintro e w4 ⟨⟨_, rfl⟩, hb4⟩; have hB4 := hB3.trans (hb4.mono hB3.size))
      | (go_at_call 13; refine (fits_walk n _).mono ?_; rintro e w5 ⟨rfl, rfl⟩; rw [kf]))
    go_ret
    exact ⟨rfl, hB4⟩

end Go.Proofs.YtipbcdjnemdciaaDoor.Js
