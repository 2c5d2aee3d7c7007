/- The program's 'write', walked by hand: a value's text into a builder. -/
import Derived.Test.YtldlkoncndlbhaaDoorTxt
import Derived.Test.YtldlkoncndlbhaaDoorQuote
import Derived.Test.YtldlkoncndlbhaaDoorGlob
set_option linter.unusedVariables false
set_option linter.unusedSimpArgs false
namespace Go.Proofs.YtldlkoncndlbhaaDoor.Wr
open Go.RowKit Go.Proofs.YtldlkoncndlbhaaDoor.Utf Go.Proofs.YtldlkoncndlbhaaDoor.Bu Go.Proofs.YtldlkoncndlbhaaDoor.Tx Go.Proofs.YtldlkoncndlbhaaDoor.PSh Go.Lib Go.Proofs.YtldlkoncndlbhaaDoorW.PrintWords Go.Proofs.YtldlkoncndlbhaaDoorW.PrintLast Go.Proofs.YtldlkoncndlbhaaDoorW.PrintMore

theorem below_grow (w : World) (os : Array Obj) : Below w.heap.size w (Sort.grow w os) :=
  ⟨rfl, rfl, rfl, by simp [Sort.grow], fun i hi => by simp [Sort.grow, Array.getElem?_append_left hi]⟩
/-- num.Text. -/
theorem text_walk (a : Int) (h0 : -9223372036854775808 ≤ a) (h1 : a ≤ 9223372036854775807) (w : World) (hG : Glob w) :
    Calls Tryd.prog 41 #[.int .i64 a] w fun e w' => e = .returned (.string ⟨(Lib.itoa a).toArray⟩) ∧ Below w.heap.size w w' := by
  have hi : Calls Tryd.prog 53 #[.int .i64 a] w fun e w' => e = .returned (.string ⟨(Lib.itoa a).toArray⟩) ∧ Below w.heap.size w w' := by
    refine (Tryd.strconv_Itoa a h0 h1 w hG.1).mono ?_
    rintro e w' ⟨rfl, k, os, rfl⟩
    exact ⟨rfl, (pw_below_drewN (Below.refl _ _) k).trans (below_grow (w.drewN k) os)⟩
  go_enter Tryd.func41, Tryd.ntmps41
  go_wp2_with (go_at_call 53; refine hi.mono ?_; rintro e w1 ⟨rfl, hb⟩)
  go_ret
  exact ⟨rfl, hb⟩

theorem kept_below {e : TypeId} {bo : Option Nat} {a w w' : World} (h : OthersKept e bo a w) (hb : Below w.heap.size w w') : OthersKept e bo a w' := fun k x hk h1 h2 => by
  have hw := h k x hk h1 h2
  exact (hb.block k (Array.getElem?_eq_some_iff.1 hw).1).trans hw
theorem BuilderAt_below {T e : TypeId} {B b : Nat} {p : Value} {bs : List Value} {w w' : World} (h : BuilderAt T e B b p bs w) (hb : Below w.heap.size w w') : BuilderAt T e B b p bs w' := by
  have hlt := h.lt
  obtain ⟨hB, v, hh, hown, hne⟩ := h
  exact ⟨hB, v, (hb.block b hlt).trans hh, own_move hown (fun k hk => hb.block k (own_lt hown k hk)), hne⟩
/-- What goes on being so: the builder holds 'out'; nothing below has turned; of what stood in 'a' only the builder and rows of bytes have. -/
def St (w0 a : World) (b : Nat) (out : List UInt8) (wr : World) : Prop :=
  Lib.IsBuilder 51 5 w0.heap.size b (byteCells out) wr ∧ Below w0.heap.size w0 wr ∧ OthersKept 5 (some b) a wr
theorem St.below {w0 a : World} {b : Nat} {out : List UInt8} {wr w' : World} (h : St w0 a b out wr) (hb : Below wr.heap.size wr w') : St w0 a b out w' :=
  ⟨h.1.elim (fun x => .inl (BuilderAt_below x hb)) (fun x => .inr (BuilderAt_below x hb)), h.2.1.trans (hb.mono h.2.1.size), kept_below h.2.2 hb⟩
theorem St.byte {w0 a : World} {b : Nat} {out : List UInt8} {wr : World} (h : St w0 a b out wr) (hl : out.length + 1 ≤ 140737488355328) (c : UInt8) (ci : Int) (hc : ci = c.toNat) :
    Calls Tryd.prog 28 #[.pointer (some ⟨b, 0, none⟩), .int .u8 ci] wr fun e w' => e = .returned .nilIface ∧ St w0 a b (out ++ [c]) w' := by
  subst hc
  refine (writeByte w0.heap.size b (byteCells out) c.toNat wr h.1 (by rw [byteCells, List.length_map]; exact hl) h.2.1.size).mono ?_
  rintro e w1 ⟨rfl, h1, hb1, hk1⟩
  exact ⟨rfl, .inr (by rw [Qu.byteCells_append]; exact h1), h.2.1.trans hb1, h.2.2.trans hk1⟩
theorem St.string {w0 a : World} {b : Nat} {out : List UInt8} {wr : World} (h : St w0 a b out wr) (t : ByteArray) (hl : out.length + t.size ≤ 140737488355328) :
    Calls Tryd.prog 30 #[.pointer (some ⟨b, 0, none⟩), .string t] wr fun e w' => (∃ n : Int, e = .returned (.tuple #[.int .i64 n, .nilIface])) ∧ St w0 a b (out ++ t.data.toList) w' := by
  refine (writeString w0.heap.size b (byteCells out) t wr h.1 (by rw [byteCells, List.length_map]; exact hl) h.2.1.size).mono ?_
  rintro e w1 ⟨rfl, h1, hb1, hk1⟩
  exact ⟨⟨_, rfl⟩, .inr (by rw [Qu.byteCells_append]; exact h1), h.2.1.trans hb1, h.2.2.trans hk1⟩
theorem St.box {w0 a : World} {b : Nat} {out : List UInt8} {wr : World} (h : St w0 a b out wr) {k : Nat} {cs : Array Value} {fz : Nat × Nat} (hk : a.heap[k]? = some (.cells cs 39 fz)) (hne : k ≠ b) : wr.heap[k]? = some (.cells cs 39 fz) :=
  h.2.2 k _ hk (fun e => hne (Option.some.inj e)) (fun _ _ e => by cases e)

theorem St.list {w0 a : World} {b : Nat} {out : List UInt8} {wr : World} (h : St w0 a b out wr) (t : List UInt8) (hl : out.length + t.length ≤ 140737488355328) :
    Calls Tryd.prog 30 #[.pointer (some ⟨b, 0, none⟩), .string ⟨t.toArray⟩] wr fun e w' => (∃ n : Int, e = .returned (.tuple #[.int .i64 n, .nilIface])) ∧ St w0 a b (out ++ t) w' :=
  St.string h ⟨t.toArray⟩ (by show out.length + t.toArray.size ≤ _; rw [List.size_toArray]; exact hl)
/-- Seen from before the box was made. -/
theorem St.lift {w0 a w1 : World} {b : Nat} {out : List UInt8} {wr : World} (h : St w0 w1 b out wr) (hk : OthersKept 5 (some b) a w1) : St w0 a b out wr := ⟨h.1, h.2.1, hk.trans h.2.2⟩
theorem St.cell {w0 a : World} {b : Nat} {out : List UInt8} {wr : World} (h : St w0 a b out wr) {k : Nat} {cs : Array Value} {fz : Nat × Nat} (hk : a.heap[k]? = some (.cells cs 39 fz)) (hne : k ≠ b) (j : Nat) (v : Value) (hv : cs[j]? = some v) : wr.cell? ⟨k, j, none⟩ = some v := by
  rw [World.cell?, h.box hk hne]
  exact hv

set_option maxHeartbeats 4000000 in
set_option maxRecDepth 100000 in
theorem write_walk (l : List S39) (A : Option Addr) (cp : Nat) (w0 : World) (b : Nat) (hr : Kd.C k39 w0 A l.length l) (hG : Glob w0) (ht : Tree l) (hs : Sized l) :
    ∀ (f : Nat) (a : Int), 0 ≤ a → a < l.length → a.toNat < f → ∀ (out : List UInt8) (wa w : World), St w0 wa b out w → out.length + (txt l f a).length ≤ 140737488355328 →
    Calls Tryd.prog 25 #[.pointer (some ⟨b, 0, none⟩), .slice A l.length cp, .int .i64 a] w fun e w' => e = .returned (.tuple #[]) ∧ St w0 wa b (out ++ txt l f a) w' := by
  intro f
  induction f with
  | zero => intro a h0 h1 h2; omega
  | succ f ih =>
    intro a h0 h1 h2 out wa w hst hlen
    obtain ⟨hp, hkids⟩ := ht a h0 h1
    obtain ⟨hs3, hs5, hs4⟩ := hs a h0 h1
    obtain ⟨ad, A4, c4, A5, c5, rfl, hx0, hx1, hx2, hx3, hx4, hx5, hl4, hC4, hl5, hC5⟩ := at_T39 hr a h0 h1
    have hlow : ∀ p v, w0.cell? p = some v → w.cell? p = some v := fun p v h => (hst.2.1.cell (World.block_lt_of_cell? w0 _ h)).trans h
    replace hx0 := hlow _ _ hx0
    replace hx1 := hlow _ _ hx1
    replace hx2 := hlow _ _ hx2
    replace hx3 := hlow _ _ hx3
    replace hx4 := hlow _ _ hx4
    replace hx5 := hlow _ _ hx5
    clear hlow
    have hk := plain_kind hp
    rw [txt_succ] at hlen ⊢
    generalize rd_T39 l a = v at *
    obtain ⟨f0, f1, f2, f3, f4, f5⟩ := v
    dsimp only at *
    have p1 := eq_true h0
    have p2 := eq_true h1
    have hbl : b < w.heap.size := hst.1.elim (fun x => x.lt) (fun x => x.lt)
    have hne : w.heap.size ≠ b := by omega
    have hS := hst.below (below_alloc (Below.refl w.heap.size w) (Obj.cells #[.int .i64 f0, .bool f1, .int .i64 f2, .string f3, .slice A4 f4.length c4, .slice A5 f5.length c5] 39))
    have hbox : (w.alloc (Obj.cells #[.int .i64 f0, .bool f1, .int .i64 f2, .string f3, .slice A4 f4.length c4, .slice A5 f5.length c5] 39)).heap[w.heap.size]? = some (Obj.cells #[.int .i64 f0, .bool f1, .int .i64 f2, .string f3, .slice A4 f4.length c4, .slice A5 f5.length c5] 39 (0, 0)) := Array.getElem?_push_size
    obtain ⟨w1, hw1⟩ : ∃ w1, w1 = w.alloc (Obj.cells #[.int .i64 f0, .bool f1, .int .i64 f2, .string f3, .slice A4 f4.length c4, .slice A5 f5.length c5] 39) := ⟨_, rfl⟩
    rw [← hw1] at hbox
    have hkp : OthersKept 5 (some b) wa w1 := by rw [hw1]; exact hS.2.2
    have hS1 : St w0 w1 b out w1 := ⟨by rw [hw1]; exact hS.1, by rw [hw1]; exact hS.2.1, OthersKept.refl _ _ _⟩
    have hGw : Glob w1 := hG.below hS1.2.1
    rw [hw1] at hS1 hGw
    replace hS1 : St w0 w1 b out (w.alloc (Obj.cells #[.int .i64 f0, .bool f1, .int .i64 f2, .string f3, .slice A4 f4.length c4, .slice A5 f5.length c5] 39)) := by rw [hw1]; exact hS1
    clear hS
    have hS := hS1
    clear hS1 hst hw1
    rcases hk with rfl | rfl | ⟨rfl, hn0, hn1⟩ | rfl | rfl | ⟨rfl, hnn⟩
    · rw [txtOf_1 _ _ rfl] at hlen ⊢
      go_enter Tryd.func25, Tryd.ntmps25
      go_wp2_with (go_at_call 30; refine (St.string hS _ (by exact hlen)).mono ?_; rintro e w2 ⟨⟨_, rfl⟩, hA2⟩; clear hS; have hS := hA2; clear hA2)
      go_end0
      exact ⟨rfl, hS.lift hkp⟩
    · rw [txtOf_2 _ _ rfl] at hlen ⊢
      dsimp only at hlen ⊢
      cases f1
      · rw [if_neg (by decide)] at hlen ⊢
        go_enter Tryd.func25, Tryd.ntmps25
        go_wp2_with (go_at_call 30; refine (St.string hS _ (by exact hlen)).mono ?_; rintro e w2 ⟨⟨_, rfl⟩, hA2⟩; clear hS; have hS := hA2; clear hA2)
        go_end0
        exact ⟨rfl, hS.lift hkp⟩
      · rw [if_pos rfl] at hlen ⊢
        go_enter Tryd.func25, Tryd.ntmps25
        go_wp2_with (go_at_call 30; refine (St.string hS _ (by exact hlen)).mono ?_; rintro e w2 ⟨⟨_, rfl⟩, hA2⟩; clear hS; have hS := hA2; clear hA2)
        go_end0
        exact ⟨rfl, hS.lift hkp⟩
    · rw [txtOf_3 _ _ rfl] at hlen ⊢
      go_enter Tryd.func25, Tryd.ntmps25
      go_wp2_with (first
        | (go_at_call 41; refine (text_walk f2 (by omega) (by omega) _ hGw).mono ?_; rintro e w2 ⟨rfl, hb2⟩; have hA2 := hS.below hb2; clear hS hb2; have hS := hA2; clear hA2)
        | (go_at_call 30; refine (St.list hS _ (by exact hlen)).mono ?_; rintro e w2 ⟨⟨_, rfl⟩, hA2⟩; clear hS; have hS := hA2; clear hA2))
      go_end0
      exact ⟨rfl, hS.lift hkp⟩
    · rw [txtOf_4 _ _ rfl] at hlen ⊢
      go_enter Tryd.func25, Tryd.ntmps25
      go_wp2_with (first
        | (go_at_call 17; refine (Qu.quote_walk f3 _ hs3).mono ?_; rintro e w2 ⟨rfl, hb2⟩; have hA2 := hS.below hb2; clear hS hb2; have hS := hA2; clear hA2)
        | (go_at_call 30; refine (St.list hS _ (by exact hlen)).mono ?_; rintro e w2 ⟨⟨_, rfl⟩, hA2⟩; clear hS; have hS := hA2; clear hA2))
      go_end0
      exact ⟨rfl, hS.lift hkp⟩
    · rw [txtOf_5 _ _ rfl] at hlen ⊢
      dsimp only at hlen ⊢
      obtain ⟨g, hg⟩ : ∃ g : Nat → List UInt8, g = fun (i : Nat) => txt l f (rd f5 (i : Int)) := ⟨_, rfl⟩
      rw [show joined (fun (i : Nat) => txt l f (rd f5 (i : Int))) f5.length = joined g f5.length by rw [hg]] at hlen ⊢
      have hlen2 : out.length + ((joined g f5.length).length + 2) ≤ 140737488355328 := by simp only [List.length_append, List.length_cons, List.length_nil] at hlen; omega
      clear hlen
      have hx5 := St.cell hS hbox hne 5 _ rfl
      have hx4 := St.cell hS hbox hne 4 _ rfl
      go_enter Tryd.func25, Tryd.ntmps25
      go_wp2_with (go_at_call 28; refine (St.byte hS ?hl 91 _ (by rfl)).mono ?_; (case hl => (try simp only [List.length_append, List.length_cons, List.length_nil]); omega); rintro e w3 ⟨rfl, hA2⟩; clear hS; have hS := hA2; clear hA2; (try have hx4 := St.cell hS hbox hne 4 _ rfl); (try have hx5 := St.cell hS hbox hne 5 _ rfl))
      go_loopw [50] (fun i wr => ∃ j : Nat, j ≤ f5.length ∧ i = .int .i64 j ∧ St w0 w1 b (out ++ [91] ++ joined g j) wr) (fun i _ => f5.length - (RowKit.intOf i).toNat)
      case atStart => exact ⟨0, Nat.zero_le _, rfl, by rw [joined, List.append_nil]; exact hS⟩
      case round =>
        clear hS
        obtain ⟨j, hj, rfl, hS⟩ := hrel
        by_cases hlt : j < f5.length
        · obtain ⟨ad5, rfl, hkc⟩ := Kd.at_int hC5 (j : Int) (by omega) (by omega)
          have hkc2 : wr.cell? (ad5.add j) = some (.int .i64 (rd f5 (j : Int))) := by
            have := (hS.2.1.cell (World.block_lt_of_cell? w0 _ hkc)).trans hkc
            simpa using this
          clear hkc
          obtain ⟨hk0, hk1⟩ := hkids j hlt
          have hjl := joined_le g f5.length (j + 1) hlt
          have hjs := joined_succ g j
          have hgj : g j = txt l f (rd f5 (j : Int)) := by rw [hg]
          generalize rd f5 (j : Int) = kd at *
          have hll : ((j : Int) < (f5.length : Int)) = True := eq_true (by omega)
          rw [hgj] at hjs
          by_cases hj0 : j = 0
          · rw [if_pos hj0] at hjs
            have hj1 : decide (0 < j) = false := decide_eq_false (by omega)
            have hj3 : (0 < j) = False := eq_false (by omega)
            clear hj0
            have hjm := congrArg List.length hjs
            simp only [List.length_append, List.length_cons, List.length_nil] at hjm
            rw [hjm] at hjl
            go_wp2_with (first
              | (go_at_call 25; refine (ih kd hk0 (by omega) (by omega) _ w1 _ hS (by (try simp only [List.length_append, List.length_cons, List.length_nil]); omega)).mono ?_; rintro e w4 ⟨rfl, hA2⟩; clear hS; have hS := hA2; clear hA2))
            go_roundw
            case rel => exact ⟨j + 1, hlt, by go_num, by rw [hjs]; simpa [List.append_assoc] using hS⟩
            case measure => simp [RowKit.intOf]; omega
          · have hj1 : decide (0 < j) = true := decide_eq_true (by omega)
            have hj3 : (0 < j) = True := eq_true (by omega)
            rw [if_neg hj0] at hjs
            clear hj0
            have hjm := congrArg List.length hjs
            simp only [List.length_append, List.length_cons, List.length_nil] at hjm
            rw [hjm] at hjl
            go_wp2_with (first
              | (go_at_call 28; refine (St.byte hS ?hl 44 _ (by rfl)).mono ?_; (case hl => (try simp only [List.length_append, List.length_cons, List.length_nil]); omega); rintro e w3 ⟨rfl, hA2⟩; clear hS; have hS := hA2; clear hA2; (try have hx4 := St.cell hS hbox hne 4 _ rfl); (try have hx5 := St.cell hS hbox hne 5 _ rfl))
              | (go_at_call 25; refine (ih kd hk0 (by omega) (by omega) _ w1 _ hS (by (try simp only [List.length_append, List.length_cons, List.length_nil]); omega)).mono ?_; rintro e w4 ⟨rfl, hA2⟩; clear hS; have hS := hA2; clear hA2))
            go_roundw
            case rel => exact ⟨j + 1, hlt, by go_num, by rw [hjs]; simpa [List.append_assoc] using hS⟩
            case measure => simp [RowKit.intOf]; omega
        · obtain rfl : j = f5.length := by omega
          go_wp2_with (go_at_call 28; refine (St.byte hS ?hl 93 _ (by rfl)).mono ?_; (case hl => (try simp only [List.length_append, List.length_cons, List.length_nil]); omega); rintro e w3 ⟨rfl, hA2⟩; clear hS; have hS := hA2; clear hA2; (try have hx4 := St.cell hS hbox hne 4 _ rfl); (try have hx5 := St.cell hS hbox hne 5 _ rfl))
          go_end0
          exact ⟨rfl, (show St w0 w1 b (out ++ ([91] ++ joined g f5.length ++ [93])) _ by simpa [List.append_assoc] using hS).lift hkp⟩
    · have hnn0 := Aside0.mk hnn
      clear hnn
      have hnn := hnn0
      clear hnn0
      rw [txtOf_6 _ _ rfl] at hlen ⊢
      dsimp only at hlen ⊢
      obtain ⟨g, hg⟩ : ∃ g : Nat → List UInt8, g = fun (i : Nat) => inQuotes (rdOf ByteArray.empty f4 (i : Int)).data.toList ++ [58] ++ txt l f (rd f5 (i : Int)) := ⟨_, rfl⟩
      rw [show joined (fun (i : Nat) => inQuotes (rdOf ByteArray.empty f4 (i : Int)).data.toList ++ [58] ++ txt l f (rd f5 (i : Int))) f5.length = joined g f5.length by rw [hg]] at hlen ⊢
      have hlen2 : out.length + ((joined g f5.length).length + 2) ≤ 140737488355328 := by simp only [List.length_append, List.length_cons, List.length_nil] at hlen; omega
      clear hlen
      have hx5 := St.cell hS hbox hne 5 _ rfl
      have hx4 := St.cell hS hbox hne 4 _ rfl
      go_enter Tryd.func25, Tryd.ntmps25
      go_wp2_with (go_at_call 28; refine (St.byte hS ?hl 123 _ (by rfl)).mono ?_; (case hl => (try simp only [List.length_append, List.length_cons, List.length_nil]); omega); rintro e w3 ⟨rfl, hA2⟩; clear hS; have hS := hA2; clear hA2; (try have hx4 := St.cell hS hbox hne 4 _ rfl); (try have hnc2 := hlow _ hS.2.1); (try have hx5 := St.cell hS hbox hne 5 _ rfl))
      go_loopw [73] (fun i wr => ∃ j : Nat, j ≤ f5.length ∧ i = .int .i64 j ∧ St w0 w1 b (out ++ [123] ++ joined g j) wr) (fun i _ => f5.length - (RowKit.intOf i).toNat)
      case atStart => exact ⟨0, Nat.zero_le _, rfl, by rw [joined, List.append_nil]; exact hS⟩
      case round =>
        clear hS
        obtain ⟨j, hj, rfl, hS⟩ := hrel
        by_cases hlt : j < f5.length
        · obtain ⟨ad5, rfl, hkc⟩ := Kd.at_int hC5 (j : Int) (by omega) (by omega)
          have hkc2 : wr.cell? (ad5.add j) = some (.int .i64 (rd f5 (j : Int))) := by
            have := (hS.2.1.cell (World.block_lt_of_cell? w0 _ hkc)).trans hkc
            simpa using this
          clear hkc
          obtain ⟨hk0, hk1⟩ := hkids j hlt
          have hjl := joined_le g f5.length (j + 1) hlt
          have hjs := joined_succ g j
          have hgj : g j = inQuotes (rdOf ByteArray.empty f4 (j : Int)).data.toList ++ [58] ++ txt l f (rd f5 (j : Int)) := by rw [hg]
          obtain ⟨ad4, rfl, hnc⟩ := Kd.at_string hC4 (j : Int) (by omega) (by have := hnn.out; omega)
          have hlow : ∀ wq, Below w0.heap.size w0 wq → wq.cell? (ad4.add j) = some (.string (rdOf ByteArray.empty f4 (j : Int))) := fun wq hq => by
            have := (hq.cell (World.block_lt_of_cell? w0 _ hnc)).trans hnc
            simpa using this
          have hns := hs4 j (by have := hnn.out; omega)
          generalize rdOf ByteArray.empty f4 (j : Int) = nm at *
          have hjn : ((j : Int) < (f4.length : Int)) = True := eq_true (by have := hnn.out; omega)
          generalize rd f5 (j : Int) = kd at *
          have hll : ((j : Int) < (f5.length : Int)) = True := eq_true (by omega)
          rw [hgj] at hjs
          have hx4 := St.cell hS hbox hne 4 _ rfl
          have hnc2 := hlow _ hS.2.1
          by_cases hj0 : j = 0
          · rw [if_pos hj0] at hjs
            have hj1 : decide (0 < j) = false := decide_eq_false (by omega)
            have hj3 : (0 < j) = False := eq_false (by omega)
            clear hj0
            have hjm := congrArg List.length hjs
            simp only [List.length_append, List.length_cons, List.length_nil] at hjm
            rw [hjm] at hjl
            go_wp2_with (first
              | (go_at_call 17; refine (Qu.quote_walk nm _ hns).mono ?_; rintro e w2 ⟨rfl, hb2⟩; have hA2 := hS.below hb2; clear hS hb2; have hS := hA2; clear hA2)
              | (go_at_call 30; refine (St.list hS _ (by (try simp only [List.length_append, List.length_cons, List.length_nil]); omega)).mono ?_; rintro e w2 ⟨⟨_, rfl⟩, hA2⟩; clear hS; have hS := hA2; clear hA2)
              | (go_at_call 28; refine (St.byte hS ?hl 58 _ (by rfl)).mono ?_; (case hl => (try simp only [List.length_append, List.length_cons, List.length_nil]); omega); rintro e w3 ⟨rfl, hA2⟩; clear hS; have hS := hA2; clear hA2; (try have hx4 := St.cell hS hbox hne 4 _ rfl); (try have hnc2 := hlow _ hS.2.1); (try have hx5 := St.cell hS hbox hne 5 _ rfl))
              | (go_at_call 25; refine (ih kd hk0 (by omega) (by omega) _ w1 _ hS (by (try simp only [List.length_append, List.length_cons, List.length_nil]); omega)).mono ?_; rintro e w4 ⟨rfl, hA2⟩; clear hS; have hS := hA2; clear hA2))
            go_roundw
            case rel => exact ⟨j + 1, hlt, by go_num, by rw [hjs]; simpa [List.append_assoc] using hS⟩
            case measure => simp [RowKit.intOf]; omega
          · have hj1 : decide (0 < j) = true := decide_eq_true (by omega)
            have hj3 : (0 < j) = True := eq_true (by omega)
            rw [if_neg hj0] at hjs
            clear hj0
            have hjm := congrArg List.length hjs
            simp only [List.length_append, List.length_cons, List.length_nil] at hjm
            rw [hjm] at hjl
            go_wp2_with (first
              | (go_at_call 28; refine (St.byte hS ?hl 44 _ (by rfl)).mono ?_; (case hl => (try simp only [List.length_append, List.length_cons, List.length_nil]); omega); rintro e w3 ⟨rfl, hA2⟩; clear hS; have hS := hA2; clear hA2; (try have hx4 := St.cell hS hbox hne 4 _ rfl); (try have hnc2 := hlow _ hS.2.1); (try have hx5 := St.cell hS hbox hne 5 _ rfl))
              | (go_at_call 17; refine (Qu.quote_walk nm _ hns).mono ?_; rintro e w2 ⟨rfl, hb2⟩; have hA2 := hS.below hb2; clear hS hb2; have hS := hA2; clear hA2)
              | (go_at_call 30; refine (St.list hS _ (by (try simp only [List.length_append, List.length_cons, List.length_nil]); omega)).mono ?_; rintro e w2 ⟨⟨_, rfl⟩, hA2⟩; clear hS; have hS := hA2; clear hA2)
              | (go_at_call 28; refine (St.byte hS ?hl 58 _ (by rfl)).mono ?_; (case hl => (try simp only [List.length_append, List.length_cons, List.length_nil]); omega); rintro e w3 ⟨rfl, hA2⟩; clear hS; have hS := hA2; clear hA2; (try have hx4 := St.cell hS hbox hne 4 _ rfl); (try have hnc2 := hlow _ hS.2.1); (try have hx5 := St.cell hS hbox hne 5 _ rfl))
              | (go_at_call 25; refine (ih kd hk0 (by omega) (by omega) _ w1 _ hS (by (try simp only [List.length_append, List.length_cons, List.length_nil]); omega)).mono ?_; rintro e w4 ⟨rfl, hA2⟩; clear hS; have hS := hA2; clear hA2))
            go_roundw
            case rel => exact ⟨j + 1, hlt, by go_num, by rw [hjs]; simpa [List.append_assoc] using hS⟩
            case measure => simp [RowKit.intOf]; omega
        · obtain rfl : j = f5.length := by omega
          go_wp2_with (go_at_call 28; refine (St.byte hS ?hl 125 _ (by rfl)).mono ?_; (case hl => (try simp only [List.length_append, List.length_cons, List.length_nil]); omega); rintro e w3 ⟨rfl, hA2⟩; clear hS; have hS := hA2; clear hA2; (try have hx4 := St.cell hS hbox hne 4 _ rfl); (try have hnc2 := hlow _ hS.2.1); (try have hx5 := St.cell hS hbox hne 5 _ rfl))
          go_end0
          exact ⟨rfl, (show St w0 w1 b (out ++ ([123] ++ joined g f5.length ++ [125])) _ by simpa [List.append_assoc] using hS).lift hkp⟩

end Go.Proofs.YtldlkoncndlbhaaDoor.Wr
