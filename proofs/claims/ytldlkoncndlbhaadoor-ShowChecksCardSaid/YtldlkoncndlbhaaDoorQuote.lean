/- The program's 'Quote', walked by hand: a string between quotes. -/
import Derived.Test.YtldlkoncndlbhaaDoorQuotePlain
import Derived.Test.YtldlkoncndlbhaaDoorBuilder
import Derived.Lib.OthersKept
import Derived.Lib.TrimUEq
import Derived.Lib.TrimU
set_option linter.unusedVariables false
set_option linter.unusedSimpArgs false
namespace Go.Proofs.YtldlkoncndlbhaaDoor.Qu
open Go.RowKit Go.Proofs.YtldlkoncndlbhaaDoor.Utf Go.Proofs.YtldlkoncndlbhaaDoor.Bu Go.Lib Go.Proofs.YtldlkoncndlbhaaDoorW.PrintWords Go.Proofs.YtldlkoncndlbhaaDoorW.PrintLast Go.Proofs.YtldlkoncndlbhaaDoorW.PrintMore

theorem iterPos_of {w : World} {b : Nat} {s : ByteArray} {pos : Nat} (h : w.heap[b]? = some (.stringIter s pos)) : w.iterPos b = pos := by
  simp [World.iterPos, h]
theorem byteCells_append (a b : List UInt8) : byteCells (a ++ b) = byteCells a ++ byteCells b := List.map_append
theorem below_drewN {B : Nat} {a w : World} (h : Below B a w) (n : Nat) : Below B a (w.drewN n) := h.trans ⟨rfl, rfl, rfl, Nat.le_refl _, fun _ _ => rfl⟩
/-- What the loop keeps: the builder holds 'out', the iterator stands at 'pos'. -/
def At (w : World) (k : Nat) (wr : World) (s : ByteArray) (out : List UInt8) (pos : Nat) : Prop :=
  Lib.IsBuilder 51 5 w.heap.size w.heap.size (byteCells out) wr ∧ wr.heap[k]? = some (.stringIter s pos) ∧ Below w.heap.size w wr ∧ w.heap.size < k
theorem At.drewN {w wr : World} {k : Nat} {s : ByteArray} {out : List UInt8} {pos : Nat} (h : At w k wr s out pos) (n : Nat) : At w k (wr.drewN n) s out pos := ⟨h.1, h.2.1, below_drewN h.2.2.1 n, h.2.2.2⟩
theorem piece_le (l : List UInt8) : (piece l).length ≤ 6 * adv l := by
  have h1 := wid_le l
  unfold piece adv
  split
  · simp
  · split
    · simp; omega
    · split
      · simp; omega
      · rw [List.length_take]; omega


theorem At.byte {w wr : World} {k : Nat} {s : ByteArray} {out : List UInt8} {pos : Nat} (h : At w k wr s out pos) (hl : out.length + 1 ≤ 140737488355328) (c : UInt8) (ci : Int) (hc : ci = c.toNat) :
    Calls Tryd.prog 28 #[.pointer (some ⟨w.heap.size, 0, none⟩), .int .u8 ci] wr fun e w' => e = .returned .nilIface ∧ At w k w' s (out ++ [c]) pos := by
  subst hc
  refine (writeByte w.heap.size w.heap.size (byteCells out) c.toNat wr h.1 (by rw [byteCells, List.length_map]; exact hl) h.2.2.1.size).mono ?_
  rintro e w1 ⟨rfl, h1, hb1, hk1⟩
  exact ⟨rfl, .inr (by rw [byteCells_append]; exact h1), hk1.iter h.2.1 (by have := h.2.2.2; omega), h.2.2.1.trans hb1, h.2.2.2⟩
theorem At.string {w wr : World} {k : Nat} {s : ByteArray} {out : List UInt8} {pos : Nat} (h : At w k wr s out pos) (t : ByteArray) (hl : out.length + t.size ≤ 140737488355328) :
    Calls Tryd.prog 30 #[.pointer (some ⟨w.heap.size, 0, none⟩), .string t] wr fun e w' => e = .returned (.tuple #[.int .i64 t.size, .nilIface]) ∧ At w k w' s (out ++ t.data.toList) pos := by
  refine (writeString w.heap.size w.heap.size (byteCells out) t wr h.1 (by rw [byteCells, List.length_map]; exact hl) h.2.2.1.size).mono ?_
  rintro e w1 ⟨rfl, h1, hb1, hk1⟩
  exact ⟨rfl, .inr (by rw [byteCells_append]; exact h1), hk1.iter h.2.1 (by have := h.2.2.2; omega), h.2.2.1.trans hb1, h.2.2.2⟩
theorem At.rune {w wr : World} {k : Nat} {s : ByteArray} {out : List UInt8} {pos : Nat} (h : At w k wr s out pos) (r : Nat) (hr : r ≤ 2147483647) (hl : out.length + 4 ≤ 140737488355328) :
    Calls Tryd.prog 29 #[.pointer (some ⟨w.heap.size, 0, none⟩), .int .i32 (r : Int)] wr fun e w' => (∃ n : Int, e = .returned (.tuple #[.int .i64 n, .nilIface])) ∧ At w k w' s (out ++ encodeRune r) pos := by
  refine (writeRune w.heap.size w.heap.size (byteCells out) r (by omega) (by omega) wr h.1 (by rw [byteCells, List.length_map]; exact hl) h.2.2.1.size).mono ?_
  rintro e w1 ⟨rfl, h1, hb1, hk1⟩
  exact ⟨⟨_, rfl⟩, .inr (by rw [byteCells_append, byteCells_encodeRune]; exact h1), hk1.iter h.2.1 (by have := h.2.2.2; omega), h.2.2.1.trans hb1, h.2.2.2⟩

theorem runeBytes (s : ByteArray) (pos : Nat) (hp : pos < s.size) : ∃ l : List UInt8, s.data.toList.drop pos = l ∧ l ≠ [] ∧ Utf8.decode s pos = decodeL l ∧ l.length = s.size - pos := by
  have hl : (s.data.toList.drop pos).length = s.size - pos := by rw [List.length_drop, Array.length_toList]; rfl
  exact ⟨_, rfl, fun e => by rw [e] at hl; simp at hl; omega, (decodeL_drop s pos).symm, hl⟩

theorem BuilderAt_iter {T e : TypeId} {B b : Nat} {p : Value} {bs : List Value} {w : World} (h : BuilderAt T e B b p bs w) {k : Nat} {s : ByteArray} {pos : Nat} (hk : w.heap[k]? = some (.stringIter s pos)) (pos' : Nat) :
    BuilderAt T e B b p bs (w.iterAt k s pos') := by
  obtain ⟨hB, v, hb, hown, hne⟩ := h
  have hkb : b ≠ k := by
    intro e1
    rw [e1, hk] at hb
    cases hb
  refine ⟨hB, v, (iterAt_other w k b s pos' hkb).trans hb, ⟨hown.1, ?_⟩, hne⟩
  rcases hown.2 with hn | ⟨g, cap, cur, hv, hbg, hg, rest⟩
  · exact .inl hn
  · have hkg : g ≠ k := by
      intro e1
      rw [e1, hk] at hg
      cases hg
    exact .inr ⟨g, cap, cur, hv, hbg, (iterAt_other w k g s pos' hkg).trans hg, rest⟩
theorem At.next {w wr : World} {k : Nat} {s : ByteArray} {out : List UInt8} {pos : Nat} (h : At w k wr s out pos) (n : Nat) : At w k (wr.iterAt k s (pos + n)) s out (pos + n) :=
  ⟨h.1.elim (fun x => .inl (BuilderAt_iter x h.2.1 _)) (fun x => .inr (BuilderAt_iter x h.2.1 _)), iterAt_heap _ _ _ _ _ h.2.1, below_iterAt h.2.2.1 (Nat.le_of_lt h.2.2.2) _ _, h.2.2.2⟩
theorem IsBuilder_alloc {T e : TypeId} {B b : Nat} {p : Value} {bs : List Value} {w : World} (h : BuilderAt T e B b p bs w) (o : Obj) : BuilderAt T e B b p bs (w.alloc o) := by
  have hlt := h.lt
  obtain ⟨hB, v, hb, hown, hne⟩ := h
  exact ⟨hB, v, (alloc_old w o b hlt).trans hb, hown.kept (World.grownBy_alloc w o none) (by cases hv : v.ownBlock <;> simp), hne⟩
theorem inner_step (l : List UInt8) (hne : l ≠ []) : inner l = piece l ++ inner (l.drop (adv l)) := by
  conv => lhs; unfold inner
  rw [dif_neg hne]
theorem and15 (c : Nat) (h : c < 2147483648) : bits BinOp.and IntKind.i32 (c : Int) 15 = ((c % 16 : Nat) : Int) := by
  have := bits_mask .i32 31 (by decide) wraps_i32 4 (by omega) (c : Int) (by omega) (by omega)
  simpa using this
theorem hexAt : ∀ (n : Nat) (h : n < (⟨#[48, 49, 50, 51, 52, 53, 54, 55, 56, 57, 97, 98, 99, 100, 101, 102]⟩ : ByteArray).size), (⟨#[48, 49, 50, 51, 52, 53, 54, 55, 56, 57, 97, 98, 99, 100, 101, 102]⟩ : ByteArray)[n] = hexOf n := by
  intro n h
  have h16 : n < 16 := h
  match n, h16, h with
  | 0, _, _ => rfl
  | 1, _, _ => rfl
  | 2, _, _ => rfl
  | 3, _, _ => rfl
  | 4, _, _ => rfl
  | 5, _, _ => rfl
  | 6, _, _ => rfl
  | 7, _, _ => rfl
  | 8, _, _ => rfl
  | 9, _, _ => rfl
  | 10, _, _ => rfl
  | 11, _, _ => rfl
  | 12, _, _ => rfl
  | 13, _, _ => rfl
  | 14, _, _ => rfl
  | 15, _, _ => rfl
  | n + 16, h, _ => omega
theorem inner_nil : inner [] = [] := by unfold inner; rw [dif_pos rfl]

/-- The round's end. -/
theorem rel_step {w wr : World} {k : Nat} {s : ByteArray} {out l : List UInt8} {pos : Nat} (hl : s.data.toList.drop pos = l) (hne : l ≠ []) (hlen : l.length = s.size - pos) (hol : out.length ≤ 1 + 6 * pos)
    (hin : Aside0 (out ++ inner l = 34 :: inner s.data.toList)) (h : At w k wr s (out ++ piece l) (pos + adv l)) :
    ∃ (pos : Nat) (out : List UInt8), At w k wr s out pos ∧ pos ≤ s.size ∧ out.length ≤ 1 + 6 * pos ∧ Aside0 (out ++ inner (s.data.toList.drop pos) = 34 :: inner s.data.toList) := by
  have h1 := piece_le l
  have h2 := wid_le l
  have h3 : 0 < l.length := List.length_pos_iff.2 hne
  refine ⟨pos + adv l, out ++ piece l, h, ?_, by rw [List.length_append]; omega, ⟨?_⟩⟩
  · unfold adv
    split <;> omega
  · rw [List.append_assoc, ← List.drop_drop, hl, ← inner_step l hne]
    exact hin.out

set_option maxHeartbeats 4000000 in
set_option maxRecDepth 100000 in
theorem quote_walk (s : ByteArray) (w : World) (hm : s.size ≤ 17592186044416) :
    Calls Tryd.prog 17 #[.string s] w fun e w' => e = .returned (.string ⟨(inQuotes s.data.toList).toArray⟩) ∧ Below w.heap.size w w' := by
  go_enter Tryd.func17, Tryd.ntmps17
  go_wp2_with (go_at_call 28; refine (writeByte w.heap.size w.heap.size [] 34 _ (fresh_isBuilder 51 5 w) (by simp) (by simp)).mono ?_)
  rintro e w1 ⟨rfl, h1, hb1, hk1⟩
  have hlt := h1.lt
  have hA : At w w1.heap.size (w1.alloc (.stringIter s 0)) s [34] 0 := ⟨.inr (IsBuilder_alloc h1 _), World.iter_heap w1 s 0, ((Below.refl _ _).alloc (Nat.le_refl _) _).trans (hb1.alloc (by have := hb1.size; simp at this; omega) _), hlt⟩
  generalize hk : w1.heap.size = k at hA
  go_wp2
  go_loopw [5] (fun _ wr => ∃ (pos : Nat) (out : List UInt8), At w k wr s out pos ∧ pos ≤ s.size ∧ out.length ≤ 1 + 6 * pos ∧ Aside0 (out ++ inner (s.data.toList.drop pos) = 34 :: inner s.data.toList)) (fun _ wr => s.size - wr.iterPos k)
  case atStart => exact ⟨0, [34], hA, Nat.zero_le _, by simp, ⟨by rw [List.drop_zero]; rfl⟩⟩
  case round =>
    obtain ⟨pos, out, hat, hps, hol, hin⟩ := hrel
    have hpos0 := iterPos_of hat.2.1
    by_cases hp : pos < s.size
    · obtain ⟨l, hl, hne, hd, hlen⟩ := runeBytes s pos hp
      have hnx : ∀ ty, (Instr.next (.pointer (some ⟨k, 0, none⟩)) true ty).run Tryd.prog wr = _ := fun ty => Lib.run_next_any_at wr k s pos ty hat.2.1 hp
      rw [hd] at hnx
      have hadv := dec_adv l hne
      have hN := hat.next (decodeL l).2
      have hstep := inner_step l hne
      rw [hl] at hin
      have hc31 : (decodeL l).1 ≤ 2147483647 := Nat.le_trans (decodeL_rune l) (by decide)
      have hm1 := piece_mark l hne
      have hm2 := piece_low l hne
      have hm3 := piece_plain l hne
      have hpl := piece_le l
      generalize hW1 : wr.iterAt k s (pos + (decodeL l).2) = W1 at *
      generalize (decodeL l).1 = c at *
      generalize (decodeL l).2 = n at *
      subst hadv
      clear hd hat
      by_cases hmark : c = 34 ∨ c = 92
      · by_cases h34 : c = 34
        · have e1 : ((c : Int) == 34) = true := by rw [h34]; rfl
          have hpm := hm1 hmark
          clear h34 hmark hm1 hm2 hm3
          go_wp2_with (first
            | (go_at_call 28; refine (At.byte hN ?hl 92 _ (by rfl)).mono ?_; (case hl => omega); rintro e w3 ⟨rfl, hA2⟩; clear hN; have hN := hA2; clear hA2)
            | (go_at_call 29; refine (At.rune hN c hc31 ?hl).mono ?_; (case hl => rw [List.length_append]; simp; omega); rintro e w4 ⟨⟨_, rfl⟩, hA2⟩; clear hN; have hN := hA2; clear hA2))
          go_roundw
          case rel =>
            refine rel_step hl hne hlen hol hin ?_
            rw [hpm, ← List.append_assoc]
            exact hN
          case measure => rw [iterPos_of hN.2.1, hpos0]; have := adv_pos l; omega
        · have e1 : ((c : Int) == 34) = false := by rw [beq_eq_false_iff_ne]; omega
          have e2 : ((c : Int) == 92) = true := by rw [beq_iff_eq]; omega
          have hpm := hm1 hmark
          clear h34 hmark hm1 hm2 hm3
          go_wp2_with (first
            | (go_at_call 28; refine (At.byte hN ?hl 92 _ (by rfl)).mono ?_; (case hl => omega); rintro e w3 ⟨rfl, hA2⟩; clear hN; have hN := hA2; clear hA2)
            | (go_at_call 29; refine (At.rune hN c hc31 ?hl).mono ?_; (case hl => rw [List.length_append]; simp; omega); rintro e w4 ⟨⟨_, rfl⟩, hA2⟩; clear hN; have hN := hA2; clear hA2))
          go_roundw
          case rel =>
            refine rel_step hl hne hlen hol hin ?_
            rw [hpm, ← List.append_assoc]
            exact hN
          case measure => rw [iterPos_of hN.2.1, hpos0]; have := adv_pos l; omega
      · by_cases hlow : c < 32
        · have e1 : ((c : Int) == 34) = false := by rw [beq_eq_false_iff_ne]; omega
          have e2 : ((c : Int) == 92) = false := by rw [beq_eq_false_iff_ne]; omega
          have e3 : decide ((c : Int) < 32) = true := by rw [decide_eq_true_iff]; omega
          have hand := and15 c (by omega)
          have hmod : c % 16 < 16 := Nat.mod_lt _ (by omega)
          have hs4 : (⟨#[92, 117, 48, 48]⟩ : ByteArray).size = 4 := rfl
          have hs5 : (⟨#[92, 117, 48, 48]⟩ : ByteArray).data.toList.length = 4 := rfl
          go_wp2_with (first
            | (go_at_call 30; refine (At.string hN _ ?hl).mono ?_; (case hl => rw [hs4]; omega); rintro e w2 ⟨rfl, hA2⟩; clear hN; have hN := hA2; clear hA2)
            | (go_at_call 28; first
                | (refine (At.byte hN ?hl (hexOf (c / 16)) _ (by rw [hexAt])).mono ?_; (case hl => rw [List.length_append, hs5]; omega); rintro e w3 ⟨rfl, hA2⟩; clear hN; have hN := hA2; clear hA2)
                | (refine (At.byte hN ?hl (hexOf (c % 16)) _ (by rw [hexAt])).mono ?_; (case hl => rw [List.length_append, List.length_append, hs5]; simp; omega); rintro e w4 ⟨rfl, hA2⟩; clear hN; have hN := hA2; clear hA2)))
          go_roundw
          case rel =>
            refine rel_step hl hne hlen hol hin ?_
            rw [hm2 hmark hlow, ← List.append_assoc, ← List.append_assoc]
            exact hN
          case measure => rw [iterPos_of hN.2.1, hpos0]; have := adv_pos l; omega
        · have e1 : ((c : Int) == 34) = false := by rw [beq_eq_false_iff_ne]; omega
          have e2 : ((c : Int) == 92) = false := by rw [beq_eq_false_iff_ne]; omega
          have e3 : decide ((c : Int) < 32) = false := by rw [decide_eq_false_iff_not]; omega
          go_wp2_with (go_at_call 29; refine (At.rune hN c hc31 ?hl).mono ?_; (case hl => omega); rintro e w4 ⟨⟨_, rfl⟩, hA2⟩; clear hN; have hN := hA2; clear hA2)
          go_roundw
          case rel =>
            refine rel_step hl hne hlen hol hin ?_
            rw [hm3 hmark hlow]
            exact hN
          case measure => rw [iterPos_of hN.2.1, hpos0]; have := adv_pos l; omega
    · obtain rfl : pos = s.size := by omega
      have hnx : ∀ ty, (Instr.next (.pointer (some ⟨k, 0, none⟩)) true ty).run Tryd.prog wr = _ := fun ty => Lib.run_next_end_at wr k s s.size ty hat.2.1 hp
      have hdrop : s.data.toList.drop s.size = [] := List.drop_eq_nil_of_le (Nat.le_refl _)
      rw [hdrop, inner_nil, List.append_nil] at hin
      have hN := hat
      clear hat
      go_wp2_with (first
        | (go_at_call 28; refine (At.byte hN ?hl 34 _ (by rfl)).mono ?_; (case hl => omega); rintro e w3 ⟨rfl, hA2⟩; clear hN; have hN := hA2; clear hA2)
        | (go_at_call 26; refine (Tryd.Builder_String_any w.heap.size w.heap.size _ _ hN.1 hN.2.2.1.size).mono ?_; rintro e w5 ⟨rfl, hb5⟩))
      go_ret
      exact ⟨by rw [hin.out]; rfl, hN.2.2.1.trans hb5⟩

end Go.Proofs.YtldlkoncndlbhaaDoor.Qu
