/- YtldlkoncndlbhaaDoorZSb4: texts of the seat (Write, Utf, StubPlain, PShx1), one behind the other, without what this claim's theorem does not rest on. -/
import Derived.Test.YtldlkoncndlbhaaDoorZSb3
import Derived.Deep.CutBlock
import Derived.Lib.IndexBytes

set_option linter.unusedVariables false
set_option linter.unusedSimpArgs false
namespace Go.Proofs.YtldlkoncndlbhaaDoor.Wr
open Go.RowKit Go.Proofs.YtldlkoncndlbhaaDoor.Utf Go.Proofs.YtldlkoncndlbhaaDoor.Bu Go.Proofs.YtldlkoncndlbhaaDoor.Tx Go.Proofs.YtldlkoncndlbhaaDoor.PSh Go.Lib Go.Proofs.YtldlkoncndlbhaaDoorW.PrintWords Go.Proofs.YtldlkoncndlbhaaDoorW.PrintLast Go.Proofs.YtldlkoncndlbhaaDoorW.PrintMore
theorem below_grow (w : World) (os : Array Obj) : Below w.heap.size w (Sort.grow w os) :=
  ⟨rfl, rfl, rfl, by simp [Sort.grow], fun i hi => by simp [Sort.grow, Array.getElem?_append_left hi]⟩
/-- num.Text. -/
theorem text_walk (a : Int) (h0 : -9223372036854775808 ≤ a) (h1 : a ≤ 9223372036854775807) (w : World) (hG : Glob w) :
    Calls Tryd.prog 41 #[.int .i64 a] w fun e w' => e = .returned (.string ⟨(Lib.itoa a).toArray⟩) ∧ Below w.heap.size w w' := by
  have hi : Calls Tryd.prog 53 #[.int .i64 a] w fun e w' => e = .returned (.string ⟨(Lib.itoa a).toArray⟩) ∧ Below w.heap.size w w' := by
    refine (Tryd.strconv_Itoa a h0 h1 w hG.1).mono ?_
    rintro e w' ⟨rfl, k, os, rfl⟩
    exact ⟨rfl, (pw_below_drewN (Below.refl _ _) k).trans (below_grow (w.drewN k) os)⟩
  go_enter Tryd.func41, Tryd.ntmps41
  go_wp2_with (go_at_call 53; refine hi.mono ?_; rintro e w1 ⟨rfl, hb⟩)
  go_ret
  exact ⟨rfl, hb⟩
theorem kept_below {e : TypeId} {bo : Option Nat} {a w w' : World} (h : OthersKept e bo a w) (hb : Below w.heap.size w w') : OthersKept e bo a w' := fun k x hk h1 h2 => by
  have hw := h k x hk h1 h2
  exact (hb.block k (Array.getElem?_eq_some_iff.1 hw).1).trans hw
theorem BuilderAt_below {T e : TypeId} {B b : Nat} {p : Value} {bs : List Value} {w w' : World} (h : BuilderAt T e B b p bs w) (hb : Below w.heap.size w w') : BuilderAt T e B b p bs w' := by
  have hlt := h.lt
  obtain ⟨hB, v, hh, hown, hne⟩ := h
  exact ⟨hB, v, (hb.block b hlt).trans hh, own_move hown (fun k hk => hb.block k (own_lt hown k hk)), hne⟩
/-- What goes on being so: the builder holds 'out'; nothing below has turned; of what stood in 'a' only the builder and rows of bytes have. -/
def St (w0 a : World) (b : Nat) (out : List UInt8) (wr : World) : Prop :=
  Lib.IsBuilder 51 5 w0.heap.size b (byteCells out) wr ∧ Below w0.heap.size w0 wr ∧ OthersKept 5 (some b) a wr
theorem St.below {w0 a : World} {b : Nat} {out : List UInt8} {wr w' : World} (h : St w0 a b out wr) (hb : Below wr.heap.size wr w') : St w0 a b out w' :=
  ⟨h.1.elim (fun x => .inl (BuilderAt_below x hb)) (fun x => .inr (BuilderAt_below x hb)), h.2.1.trans (hb.mono h.2.1.size), kept_below h.2.2 hb⟩
theorem St.byte {w0 a : World} {b : Nat} {out : List UInt8} {wr : World} (h : St w0 a b out wr) (hl : out.length + 1 ≤ 140737488355328) (c : UInt8) (ci : Int) (hc : ci = c.toNat) :
    Calls Tryd.prog 28 #[.pointer (some ⟨b, 0, none⟩), .int .u8 ci] wr fun e w' => e = .returned .nilIface ∧ St w0 a b (out ++ [c]) w' := by
  subst hc
  refine (writeByte w0.heap.size b (byteCells out) c.toNat wr h.1 (by rw [byteCells, List.length_map]; exact hl) h.2.1.size).mono ?_
  rintro e w1 ⟨rfl, h1, hb1, hk1⟩
  exact ⟨rfl, .inr (by rw [Qu.byteCells_append]; exact h1), h.2.1.trans hb1, h.2.2.trans hk1⟩
theorem St.string {w0 a : World} {b : Nat} {out : List UInt8} {wr : World} (h : St w0 a b out wr) (t : ByteArray) (hl : out.length + t.size ≤ 140737488355328) :
    Calls Tryd.prog 30 #[.pointer (some ⟨b, 0, none⟩), .string t] wr fun e w' => (∃ n : Int, e = .returned (.tuple #[.int .i64 n, .nilIface])) ∧ St w0 a b (out ++ t.data.toList) w' := by
  refine (writeString w0.heap.size b (byteCells out) t wr h.1 (by rw [byteCells, List.length_map]; exact hl) h.2.1.size).mono ?_
  rintro e w1 ⟨rfl, h1, hb1, hk1⟩
  exact ⟨⟨_, rfl⟩, .inr (by rw [Qu.byteCells_append]; exact h1), h.2.1.trans hb1, h.2.2.trans hk1⟩
theorem St.box {w0 a : World} {b : Nat} {out : List UInt8} {wr : World} (h : St w0 a b out wr) {k : Nat} {cs : Array Value} {fz : Nat × Nat} (hk : a.heap[k]? = some (.cells cs 39 fz)) (hne : k ≠ b) : wr.heap[k]? = some (.cells cs 39 fz) :=
  h.2.2 k _ hk (fun e => hne (Option.some.inj e)) (fun _ _ e => by cases e)
theorem St.list {w0 a : World} {b : Nat} {out : List UInt8} {wr : World} (h : St w0 a b out wr) (t : List UInt8) (hl : out.length + t.length ≤ 140737488355328) :
    Calls Tryd.prog 30 #[.pointer (some ⟨b, 0, none⟩), .string ⟨t.toArray⟩] wr fun e w' => (∃ n : Int, e = .returned (.tuple #[.int .i64 n, .nilIface])) ∧ St w0 a b (out ++ t) w' :=
  St.string h ⟨t.toArray⟩ (by show out.length + t.toArray.size ≤ _; rw [List.size_toArray]; exact hl)
/-- Seen from before the box was made. -/
theorem St.lift {w0 a w1 : World} {b : Nat} {out : List UInt8} {wr : World} (h : St w0 w1 b out wr) (hk : OthersKept 5 (some b) a w1) : St w0 a b out wr := ⟨h.1, h.2.1, hk.trans h.2.2⟩
theorem St.cell {w0 a : World} {b : Nat} {out : List UInt8} {wr : World} (h : St w0 a b out wr) {k : Nat} {cs : Array Value} {fz : Nat × Nat} (hk : a.heap[k]? = some (.cells cs 39 fz)) (hne : k ≠ b) (j : Nat) (v : Value) (hv : cs[j]? = some v) : wr.cell? ⟨k, j, none⟩ = some v := by
  rw [World.cell?, h.box hk hne]
  exact hv
set_option maxHeartbeats 4000000 in
set_option maxRecDepth 100000 in
theorem write_walk (l : List S39) (A : Option Addr) (cp : Nat) (w0 : World) (b : Nat) (hr : Kd.C k39 w0 A l.length l) (hG : Glob w0) (ht : Tree l) (hs : Sized l) :
    ∀ (f : Nat) (a : Int), 0 ≤ a → a < l.length → a.toNat < f → ∀ (out : List UInt8) (wa w : World), St w0 wa b out w → out.length + (txt l f a).length ≤ 140737488355328 →
    Calls Tryd.prog 25 #[.pointer (some ⟨b, 0, none⟩), .slice A l.length cp, .int .i64 a] w fun e w' => e = .returned (.tuple #[]) ∧ St w0 wa b (out ++ txt l f a) w' := by
  intro f
  induction f with
  | zero => intro a h0 h1 h2; omega
  | succ f ih =>
    intro a h0 h1 h2 out wa w hst hlen
    obtain ⟨hp, hkids⟩ := ht a h0 h1
    obtain ⟨hs3, hs5, hs4⟩ := hs a h0 h1
    obtain ⟨ad, A4, c4, A5, c5, rfl, hx0, hx1, hx2, hx3, hx4, hx5, hl4, hC4, hl5, hC5⟩ := at_T39 hr a h0 h1
    have hlow : ∀ p v, w0.cell? p = some v → w.cell? p = some v := fun p v h => (hst.2.1.cell (World.block_lt_of_cell? w0 _ h)).trans h
    replace hx0 := hlow _ _ hx0
    replace hx1 := hlow _ _ hx1
    replace hx2 := hlow _ _ hx2
    replace hx3 := hlow _ _ hx3
    replace hx4 := hlow _ _ hx4
    replace hx5 := hlow _ _ hx5
    clear hlow
    have hk := plain_kind hp
    rw [txt_succ] at hlen ⊢
    generalize rd_T39 l a = v at *
    obtain ⟨f0, f1, f2, f3, f4, f5⟩ := v
    dsimp only at *
    have p1 := eq_true h0
    have p2 := eq_true h1
    have hbl : b < w.heap.size := hst.1.elim (fun x => x.lt) (fun x => x.lt)
    have hne : w.heap.size ≠ b := by omega
    have hS := hst.below (below_alloc (Below.refl w.heap.size w) (Obj.cells #[.int .i64 f0, .bool f1, .int .i64 f2, .string f3, .slice A4 f4.length c4, .slice A5 f5.length c5] 39))
    have hbox : (w.alloc (Obj.cells #[.int .i64 f0, .bool f1, .int .i64 f2, .string f3, .slice A4 f4.length c4, .slice A5 f5.length c5] 39)).heap[w.heap.size]? = some (Obj.cells #[.int .i64 f0, .bool f1, .int .i64 f2, .string f3, .slice A4 f4.length c4, .slice A5 f5.length c5] 39 (0, 0)) := Array.getElem?_push_size
    obtain ⟨w1, hw1⟩ : ∃ w1, w1 = w.alloc (Obj.cells #[.int .i64 f0, .bool f1, .int .i64 f2, .string f3, .slice A4 f4.length c4, .slice A5 f5.length c5] 39) := ⟨_, rfl⟩
    rw [← hw1] at hbox
    have hkp : OthersKept 5 (some b) wa w1 := by rw [hw1]; exact hS.2.2
    have hS1 : St w0 w1 b out w1 := ⟨by rw [hw1]; exact hS.1, by rw [hw1]; exact hS.2.1, OthersKept.refl _ _ _⟩
    have hGw : Glob w1 := hG.below hS1.2.1
    rw [hw1] at hS1 hGw
    replace hS1 : St w0 w1 b out (w.alloc (Obj.cells #[.int .i64 f0, .bool f1, .int .i64 f2, .string f3, .slice A4 f4.length c4, .slice A5 f5.length c5] 39)) := by rw [hw1]; exact hS1
    clear hS
    have hS := hS1
    clear hS1 hst hw1
    rcases hk with rfl | rfl | ⟨rfl, hn0, hn1⟩ | rfl | rfl | ⟨rfl, hnn⟩
    · rw [txtOf_1 _ _ rfl] at hlen ⊢
      go_enter Tryd.func25, Tryd.ntmps25
      go_wp2_with (go_at_call 30; refine (St.string hS _ (by exact hlen)).mono ?_; rintro e w2 ⟨⟨_, rfl⟩, hA2⟩; clear hS; have hS := hA2; clear hA2)
      go_end0
      exact ⟨rfl, hS.lift hkp⟩
    · rw [txtOf_2 _ _ rfl] at hlen ⊢
      dsimp only at hlen ⊢
      cases f1
      · rw [if_neg (by decide)] at hlen ⊢
        go_enter Tryd.func25, Tryd.ntmps25
        go_wp2_with (go_at_call 30; refine (St.string hS _ (by exact hlen)).mono ?_; rintro e w2 ⟨⟨_, rfl⟩, hA2⟩; clear hS; have hS := hA2; clear hA2)
        go_end0
        exact ⟨rfl, hS.lift hkp⟩
      · rw [if_pos rfl] at hlen ⊢
        go_enter Tryd.func25, Tryd.ntmps25
        go_wp2_with (go_at_call 30; refine (St.string hS _ (by exact hlen)).mono ?_; rintro e w2 ⟨⟨_, rfl⟩, hA2⟩; clear hS; have hS := hA2; clear hA2)
        go_end0
        exact ⟨rfl, hS.lift hkp⟩
    · rw [txtOf_3 _ _ rfl] at hlen ⊢
      go_enter Tryd.func25, Tryd.ntmps25
      go_wp2_with (first
        | (go_at_call 41; refine (text_walk f2 (by omega) (by omega) _ hGw).mono ?_; rintro e w2 ⟨rfl, hb2⟩; have hA2 := hS.below hb2; clear hS hb2; have hS := hA2; clear hA2)
        | (go_at_call 30; refine (St.list hS _ (by exact hlen)).mono ?_; rintro e w2 ⟨⟨_, rfl⟩, hA2⟩; clear hS; have hS := hA2; clear hA2))
      go_end0
      exact ⟨rfl, hS.lift hkp⟩
    · rw [txtOf_4 _ _ rfl] at hlen ⊢
      go_enter Tryd.func25, Tryd.ntmps25
      go_wp2_with (first
        | (go_at_call 17; refine (Qu.quote_walk f3 _ hs3).mono ?_; rintro e w2 ⟨rfl, hb2⟩; have hA2 := hS.below hb2; clear hS hb2; have hS := hA2; clear hA2)
        | (go_at_call 30; refine (St.list hS _ (by exact hlen)).mono ?_; rintro e w2 ⟨⟨_, rfl⟩, hA2⟩; clear hS; have hS := hA2; clear hA2))
      go_end0
      exact ⟨rfl, hS.lift hkp⟩
    · rw [txtOf_5 _ _ rfl] at hlen ⊢
      dsimp only at hlen ⊢
      obtain ⟨g, hg⟩ : ∃ g : Nat → List UInt8, g = fun (i : Nat) => txt l f (rd f5 (i : Int)) := ⟨_, rfl⟩
      rw [show joined (fun (i : Nat) => txt l f (rd f5 (i : Int))) f5.length = joined g f5.length by rw [hg]] at hlen ⊢
      have hlen2 : out.length + ((joined g f5.length).length + 2) ≤ 140737488355328 := by simp only [List.length_append, List.length_cons, List.length_nil] at hlen; omega
      clear hlen
      have hx5 := St.cell hS hbox hne 5 _ rfl
      have hx4 := St.cell hS hbox hne 4 _ rfl
      go_enter Tryd.func25, Tryd.ntmps25
      go_wp2_with (go_at_call 28; refine (St.byte hS ?hl 91 _ (by rfl)).mono ?_; (case hl => (try simp only [List.length_append, List.length_cons, List.length_nil]); omega); rintro e w3 ⟨rfl, hA2⟩; clear hS; have hS := hA2; clear hA2; (try have hx4 := St.cell hS hbox hne 4 _ rfl); (try have hx5 := St.cell hS hbox hne 5 _ rfl))
      go_loopw [50] (fun i wr => ∃ j : Nat, j ≤ f5.length ∧ i = .int .i64 j ∧ St w0 w1 b (out ++ [91] ++ joined g j) wr) (fun i _ => f5.length - (RowKit.intOf i).toNat)
      case atStart => exact ⟨0, Nat.zero_le _, rfl, by rw [joined, List.append_nil]; exact hS⟩
      case round =>
        clear hS
        obtain ⟨j, hj, rfl, hS⟩ := hrel
        by_cases hlt : j < f5.length
        · obtain ⟨ad5, rfl, hkc⟩ := Kd.at_int hC5 (j : Int) (by omega) (by omega)
          have hkc2 : wr.cell? (ad5.add j) = some (.int .i64 (rd f5 (j : Int))) := by
            have := (hS.2.1.cell (World.block_lt_of_cell? w0 _ hkc)).trans hkc
            simpa using this
          clear hkc
          obtain ⟨hk0, hk1⟩ := hkids j hlt
          have hjl := joined_le g f5.length (j + 1) hlt
          have hjs := joined_succ g j
          have hgj : g j = txt l f (rd f5 (j : Int)) := by rw [hg]
          generalize rd f5 (j : Int) = kd at *
          have hll : ((j : Int) < (f5.length : Int)) = True := eq_true (by omega)
          rw [hgj] at hjs
          by_cases hj0 : j = 0
          · rw [if_pos hj0] at hjs
            have hj1 : decide (0 < j) = false := decide_eq_false (by omega)
            have hj3 : (0 < j) = False := eq_false (by omega)
            clear hj0
            have hjm := congrArg List.length hjs
            simp only [List.length_append, List.length_cons, List.length_nil] at hjm
            rw [hjm] at hjl
            go_wp2_with (first
              | (go_at_call 25; refine (ih kd hk0 (by omega) (by omega) _ w1 _ hS (by (try simp only [List.length_append, List.length_cons, List.length_nil]); omega)).mono ?_; rintro e w4 ⟨rfl, hA2⟩; clear hS; have hS := hA2; clear hA2))
            go_roundw
            case rel => exact ⟨j + 1, hlt, by go_num, by rw [hjs]; simpa [List.append_assoc] using hS⟩
            case measure => simp [RowKit.intOf]; omega
          · have hj1 : decide (0 < j) = true := decide_eq_true (by omega)
            have hj3 : (0 < j) = True := eq_true (by omega)
            rw [if_neg hj0] at hjs
            clear hj0
            have hjm := congrArg List.length hjs
            simp only [List.length_append, List.length_cons, List.length_nil] at hjm
            rw [hjm] at hjl
            go_wp2_with (first
              | (go_at_call 28; refine (St.byte hS ?hl 44 _ (by rfl)).mono ?_; (case hl => (try simp only [List.length_append, List.length_cons, List.length_nil]); omega); rintro e w3 ⟨rfl, hA2⟩; clear hS; have hS := hA2; clear hA2; (try have hx4 := St.cell hS hbox hne 4 _ rfl); (try have hx5 := St.cell hS hbox hne 5 _ rfl))
              | (go_at_call 25; refine (ih kd hk0 (by omega) (by omega) _ w1 _ hS (by (try simp only [List.length_append, List.length_cons, List.length_nil]); omega)).mono ?_; rintro e w4 ⟨rfl, hA2⟩; clear hS; have hS := hA2; clear hA2))
            go_roundw
            case rel => exact ⟨j + 1, hlt, by go_num, by rw [hjs]; simpa [List.append_assoc] using hS⟩
            case measure => simp [RowKit.intOf]; omega
        · obtain rfl : j = f5.length := by omega
          go_wp2_with (go_at_call 28; refine (St.byte hS ?hl 93 _ (by rfl)).mono ?_; (case hl => (try simp only [List.length_append, List.length_cons, List.length_nil]); omega); rintro e w3 ⟨rfl, hA2⟩; clear hS; have hS := hA2; clear hA2; (try have hx4 := St.cell hS hbox hne 4 _ rfl); (try have hx5 := St.cell hS hbox hne 5 _ rfl))
          go_end0
          exact ⟨rfl, (show St w0 w1 b (out ++ ([91] ++ joined g f5.length ++ [93])) _ by simpa [List.append_assoc] using hS).lift hkp⟩
    · have hnn0 := Aside0.mk hnn
      clear hnn
      have hnn := hnn0
      clear hnn0
      rw [txtOf_6 _ _ rfl] at hlen ⊢
      dsimp only at hlen ⊢
      obtain ⟨g, hg⟩ : ∃ g : Nat → List UInt8, g = fun (i : Nat) => inQuotes (rdOf ByteArray.empty f4 (i : Int)).data.toList ++ [58] ++ txt l f (rd f5 (i : Int)) := ⟨_, rfl⟩
      rw [show joined (fun (i : Nat) => inQuotes (rdOf ByteArray.empty f4 (i : Int)).data.toList ++ [58] ++ txt l f (rd f5 (i : Int))) f5.length = joined g f5.length by rw [hg]] at hlen ⊢
      have hlen2 : out.length + ((joined g f5.length).length + 2) ≤ 140737488355328 := by simp only [List.length_append, List.length_cons, List.length_nil] at hlen; omega
      clear hlen
      have hx5 := St.cell hS hbox hne 5 _ rfl
      have hx4 := St.cell hS hbox hne 4 _ rfl
      go_enter Tryd.func25, Tryd.ntmps25
      go_wp2_with (go_at_call 28; refine (St.byte hS ?hl 123 _ (by rfl)).mono ?_; (case hl => (try simp only [List.length_append, List.length_cons, List.length_nil]); omega); rintro e w3 ⟨rfl, hA2⟩; clear hS; have hS := hA2; clear hA2; (try have hx4 := St.cell hS hbox hne 4 _ rfl); (try have hnc2 := hlow _ hS.2.1); (try have hx5 := St.cell hS hbox hne 5 _ rfl))
      go_loopw [73] (fun i wr => ∃ j : Nat, j ≤ f5.length ∧ i = .int .i64 j ∧ St w0 w1 b (out ++ [123] ++ joined g j) wr) (fun i _ => f5.length - (RowKit.intOf i).toNat)
      case atStart => exact ⟨0, Nat.zero_le _, rfl, by rw [joined, List.append_nil]; exact hS⟩
      case round =>
        clear hS
        obtain ⟨j, hj, rfl, hS⟩ := hrel
        by_cases hlt : j < f5.length
        · obtain ⟨ad5, rfl, hkc⟩ := Kd.at_int hC5 (j : Int) (by omega) (by omega)
          have hkc2 : wr.cell? (ad5.add j) = some (.int .i64 (rd f5 (j : Int))) := by
            have := (hS.2.1.cell (World.block_lt_of_cell? w0 _ hkc)).trans hkc
            simpa using this
          clear hkc
          obtain ⟨hk0, hk1⟩ := hkids j hlt
          have hjl := joined_le g f5.length (j + 1) hlt
          have hjs := joined_succ g j
          have hgj : g j = inQuotes (rdOf ByteArray.empty f4 (j : Int)).data.toList ++ [58] ++ txt l f (rd f5 (j : Int)) := by rw [hg]
          obtain ⟨ad4, rfl, hnc⟩ := Kd.at_string hC4 (j : Int) (by omega) (by have := hnn.out; omega)
          have hlow : ∀ wq, Below w0.heap.size w0 wq → wq.cell? (ad4.add j) = some (.string (rdOf ByteArray.empty f4 (j : Int))) := fun wq hq => by
            have := (hq.cell (World.block_lt_of_cell? w0 _ hnc)).trans hnc
            simpa using this
          have hns := hs4 j (by have := hnn.out; omega)
          generalize rdOf ByteArray.empty f4 (j : Int) = nm at *
          have hjn : ((j : Int) < (f4.length : Int)) = True := eq_true (by have := hnn.out; omega)
          generalize rd f5 (j : Int) = kd at *
          have hll : ((j : Int) < (f5.length : Int)) = True := eq_true (by omega)
          rw [hgj] at hjs
          have hx4 := St.cell hS hbox hne 4 _ rfl
          have hnc2 := hlow _ hS.2.1
          by_cases hj0 : j = 0
          · rw [if_pos hj0] at hjs
            have hj1 : decide (0 < j) = false := decide_eq_false (by omega)
            have hj3 : (0 < j) = False := eq_false (by omega)
            clear hj0
            have hjm := congrArg List.length hjs
            simp only [List.length_append, List.length_cons, List.length_nil] at hjm
            rw [hjm] at hjl
            go_wp2_with (first
              | (go_at_call 17; refine (Qu.quote_walk nm _ hns).mono ?_; rintro e w2 ⟨rfl, hb2⟩; have hA2 := hS.below hb2; clear hS hb2; have hS := hA2; clear hA2)
              | (go_at_call 30; refine (St.list hS _ (by (try simp only [List.length_append, List.length_cons, List.length_nil]); omega)).mono ?_; rintro e w2 ⟨⟨_, rfl⟩, hA2⟩; clear hS; have hS := hA2; clear hA2)
              | (go_at_call 28; refine (St.byte hS ?hl 58 _ (by rfl)).mono ?_; (case hl => (try simp only [List.length_append, List.length_cons, List.length_nil]); omega); rintro e w3 ⟨rfl, hA2⟩; clear hS; have hS := hA2; clear hA2; (try have hx4 := St.cell hS hbox hne 4 _ rfl); (try have hnc2 := hlow _ hS.2.1); (try have hx5 := St.cell hS hbox hne 5 _ rfl))
              | (go_at_call 25; refine (ih kd hk0 (by omega) (by omega) _ w1 _ hS (by (try simp only [List.length_append, List.length_cons, List.length_nil]); omega)).mono ?_; rintro e w4 ⟨rfl, hA2⟩; clear hS; have hS := hA2; clear hA2))
            go_roundw
            case rel => exact ⟨j + 1, hlt, by go_num, by rw [hjs]; simpa [List.append_assoc] using hS⟩
            case measure => simp [RowKit.intOf]; omega
          · have hj1 : decide (0 < j) = true := decide_eq_true (by omega)
            have hj3 : (0 < j) = True := eq_true (by omega)
            rw [if_neg hj0] at hjs
            clear hj0
            have hjm := congrArg List.length hjs
            simp only [List.length_append, List.length_cons, List.length_nil] at hjm
            rw [hjm] at hjl
            go_wp2_with (first
              | (go_at_call 28; refine (St.byte hS ?hl 44 _ (by rfl)).mono ?_; (case hl => (try simp only [List.length_append, List.length_cons, List.length_nil]); omega); rintro e w3 ⟨rfl, hA2⟩; clear hS; have hS := hA2; clear hA2; (try have hx4 := St.cell hS hbox hne 4 _ rfl); (try have hnc2 := hlow _ hS.2.1); (try have hx5 := St.cell hS hbox hne 5 _ rfl))
              | (go_at_call 17; refine (Qu.quote_walk nm _ hns).mono ?_; rintro e w2 ⟨rfl, hb2⟩; have hA2 := hS.below hb2; clear hS hb2; have hS := hA2; clear hA2)
              | (go_at_call 30; refine (St.list hS _ (by (try simp only [List.length_append, List.length_cons, List.length_nil]); omega)).mono ?_; rintro e w2 ⟨⟨_, rfl⟩, hA2⟩; clear hS; have hS := hA2; clear hA2)
              | (go_at_call 28; refine (St.byte hS ?hl 58 _ (by rfl)).mono ?_; (case hl => (try simp only [List.length_append, List.length_cons, List.length_nil]); omega); rintro e w3 ⟨rfl, hA2⟩; clear hS; have hS := hA2; clear hA2; (try have hx4 := St.cell hS hbox hne 4 _ rfl); (try have hnc2 := hlow _ hS.2.1); (try have hx5 := St.cell hS hbox hne 5 _ rfl))
              | (go_at_call 25; refine (ih kd hk0 (by omega) (by omega) _ w1 _ hS (by (try simp only [List.length_append, List.length_cons, List.length_nil]); omega)).mono ?_; rintro e w4 ⟨rfl, hA2⟩; clear hS; have hS := hA2; clear hA2))
            go_roundw
            case rel => exact ⟨j + 1, hlt, by go_num, by rw [hjs]; simpa [List.append_assoc] using hS⟩
            case measure => simp [RowKit.intOf]; omega
        · obtain rfl : j = f5.length := by omega
          go_wp2_with (go_at_call 28; refine (St.byte hS ?hl 125 _ (by rfl)).mono ?_; (case hl => (try simp only [List.length_append, List.length_cons, List.length_nil]); omega); rintro e w3 ⟨rfl, hA2⟩; clear hS; have hS := hA2; clear hA2; (try have hx4 := St.cell hS hbox hne 4 _ rfl); (try have hnc2 := hlow _ hS.2.1); (try have hx5 := St.cell hS hbox hne 5 _ rfl))
          go_end0
          exact ⟨rfl, (show St w0 w1 b (out ++ ([123] ++ joined g f5.length ++ [125])) _ by simpa [List.append_assoc] using hS).lift hkp⟩
end Go.Proofs.YtldlkoncndlbhaaDoor.Wr
namespace Go.Proofs.YtldlkoncndlbhaaDoor.PRa
open Go.RowKit Go.Proofs.YtldlkoncndlbhaaDoorW.PrintWords Go.Proofs.YtldlkoncndlbhaaDoorW.PrintLast Go.Proofs.YtldlkoncndlbhaaDoorW.PrintMore Go.Proofs.YtldlkoncndlbhaaDoor.Utf
end Go.Proofs.YtldlkoncndlbhaaDoor.PRa
set_option linter.unusedVariables false
namespace Go.Proofs.YtldlkoncndlbhaaDoor.PSh
open Go.RowKit Go.Proofs.YtldlkoncndlbhaaDoor.Utf Go.Proofs.YtldlkoncndlbhaaDoor.Pl Go.Proofs.YtldlkoncndlbhaaDoorW.PrintWords
def haulierref03_UTF.f (a0 : ByteArray) : Option Bool := if a0.size ≤ 140737488351232 then some (utf a0.data.toList) else none
/-- The sizes at which 'plain' is walked. -/
def plainOk (a3 : ByteArray) (l4 : List ByteArray) : Prop := (∀ s ∈ l4, s.size ≤ 140737488355328) ∧ a3.size ≤ 140737488355328 ∧ l4.length ≤ 140737488355328
instance (a3 : ByteArray) (l4 : List ByteArray) : Decidable (plainOk a3 l4) := by unfold plainOk; infer_instance
def show_plain.f (a0_0 : Int) (a0_1 : Bool) (a0_2 : Int) (a0_3 : ByteArray) (l0_4 : List ByteArray) (l0_5 : List Int) : Option Bool := if plainOk a0_3 l0_4 then some (plainB a0_0 a0_1 a0_2 a0_3 l0_4 l0_5) else none
theorem show_plain.calls (a0_0 : Int) (a0_1 : Bool) (a0_2 : Int) (a0_3 : ByteArray) (A0_4 : Option Addr) (c0_4 : Nat) (l0_4 : List ByteArray) (A0_5 : Option Addr) (c0_5 : Nat) (l0_5 : List Int) (r : Bool) (w : World) (hG : Aside0 (Glob w))
    (hr0_4 : Kd.string.C w A0_4 l0_4.length l0_4) (hc0_4 : l0_4.length ≤ c0_4) (hr0_5 : (Kd.int .i64).C w A0_5 l0_5.length l0_5) (hc0_5 : l0_5.length ≤ c0_5) (h : show_plain.f a0_0 a0_1 a0_2 a0_3 l0_4 l0_5 = some r) :
    Calls Tryd.prog 22 #[.agg #[.int .i64 a0_0, .bool a0_1, .int .i64 a0_2, .string a0_3, .slice A0_4 l0_4.length c0_4, .slice A0_5 l0_5.length c0_5]] w fun e w' => e = .returned (.bool r) ∧ Below w.heap.size w w' := by
  unfold show_plain.f at h
  split at h
  · rename_i hs
    obtain rfl := Option.some.inj h
    exact plain_walk _ _ _ _ _ _ _ _ _ _ w hr0_4 hc0_4 hs.1 hs.2.1 hs.2.2 hG.out.2
  · cases h
end Go.Proofs.YtldlkoncndlbhaaDoor.PSh
-- Laid by wip/mk/mk.py of this session (the kit's printer with this session's contracts for library functions).
namespace Go.Proofs.YtldlkoncndlbhaaDoor.PSh
open Go.RowKit Go.Proofs.YtldlkoncndlbhaaDoorW.PrintWords Go.Proofs.YtldlkoncndlbhaaDoorW.PrintLast Go.Proofs.YtldlkoncndlbhaaDoorW.PrintMore
attribute [local go_sem] max2_int min2_int max_two min_two max_three min_three max_four min_four   -- for this text's walks alone
set_option linter.unusedVariables false
set_option linter.unusedSimpArgs false
/-! ### slices_Index_bool_bool: function 39 -/
def slices_Index_bool_bool.l0 : Nat → List Bool → Bool → Int → Int → Option (Int)
  | 0, _, _, _, _ => none
  | k + 1, x0, x1, x7, x8 => if x8 < x7 then (if 0 ≤ x8 then (if x8 < (x0.length : Int) then (if (x1 == (rdOf false x0 x8)) = true then (some x8) else (slices_Index_bool_bool.l0 k x0 x1 x7 (wrap64 (x8 + 1)))) else (none)) else (none)) else (some (-1))
def slices_Index_bool_bool.f (k : Nat) (l0 : List Bool) (a1 : Bool) : Option (Int) := slices_Index_bool_bool.l0 k l0 a1 (l0.length : Int) 0
set_option maxHeartbeats 8000000 in
set_option maxRecDepth 100000 in
theorem slices_Index_bool_bool.calls (k : Nat) (A0 : Option Addr) (c0 : Nat) (l0 : List Bool) (a1 : Bool) (r : Int) (w : World) (hG : Aside0 (Glob w)) (hr0 : Kd.C Kd.bool w A0 l0.length l0) (hc0 : l0.length ≤ c0) (h : slices_Index_bool_bool.f k l0 a1 = some r) :
    Calls Tryd.prog 39 #[.slice A0 l0.length c0, .bool a1] w fun e w' => e = .returned (.int .i64 r) ∧ Drawn0 w w' := by
  have HR0 := Aside0.mk hr0
  have HC0 := Aside0.mk hc0
  clear hr0 hc0
  have H : (slices_Index_bool_bool.l0 k l0 a1 (l0.length : Int) 0) = some r := h
  clear h
  have H' := Aside0.mk H
  clear H
  go_enter Tryd.func39, Tryd.ntmps39
  go_wp2
  go_loopg [8] k (fun kq v8 w' => ∃ (x8_1 : Int), v8 = .int .i64 x8_1 ∧ Aside0 (slices_Index_bool_bool.l0 kq l0 a1 (l0.length : Int) x8_1 = some r) ∧ Aside0 (kq ≤ k) ∧ Drawn0 w w')
  case atStart => exact ⟨(0), (by first | rfl | (simp; done) | (simp [*]; done)), H', ⟨Nat.le_refl _⟩, by repeat (first | exact Drawn0.refl _ | apply Drawn0.step)⟩
  case round =>
    clear H'
    try clear p2
    obtain ⟨x8_1, rfl, HA, HK1, ⟨m1, rfl⟩⟩ := hrel
    cases gk with
    | zero => exact absurd HA.out (by simp [slices_Index_bool_bool.l0])
    | succ k1 =>
      have H := HA.out
      clear HA
      simp only [slices_Index_bool_bool.l0] at H
      by_cases c3 : x8_1 < (l0.length : Int)
      · rw [if_pos c3] at H
        have c3b0 : decide (x8_1 < (l0.length : Int)) = true := decide_eq_true c3
        clear c3
        by_cases c4 : 0 ≤ x8_1
        · rw [if_pos c4] at H
          have c4b0 : decide (0 ≤ x8_1) = true := decide_eq_true c4
          clear c4
          by_cases c5 : x8_1 < (l0.length : Int)
          · rw [if_pos c5] at H
            have c5b0 : decide (x8_1 < (l0.length : Int)) = true := decide_eq_true c5
            clear c5
            by_cases c6 : (a1 == (rdOf false l0 x8_1)) = true
            · rw [if_pos c6] at H
              have c6b0 : (a1 == (rdOf false l0 x8_1)) = true := c6
              (try (have c6b1 : decide (a1 = (rdOf false l0 x8_1)) = true := by simpa using c6))
              (try (have c6b2 : (a1 == (rdOf false l0 x8_1)) = true := by simpa using c6))
              clear c6
              obtain rfl := Option.some.inj H
              have p101 : 0 ≤ (x8_1 : Int) := of_decide_eq_true (by first | (with_reducible assumption) | assumption)
              have q101 : x8_1 < (l0.length : Int) := of_decide_eq_true (by first | (with_reducible assumption) | assumption)
              obtain ⟨ad101, e101, hx101_0⟩ := Kd.at_bool HR0.out x8_1 p101 q101
              cases e101
              replace p101 := eq_true p101
              replace q101 := eq_true q101
              go_wp2
              go_ret
              exact ⟨by first | rfl | (simp; done) | (simp [*]; done), by repeat (first | exact Drawn0.refl _ | apply Drawn0.step)⟩
            · rw [if_neg c6] at H
              have c6b0 : (a1 == (rdOf false l0 x8_1)) = false := by simpa using c6
              (try (have c6b1 : decide (a1 = (rdOf false l0 x8_1)) = false := by simpa using c6))
              (try (have c6b2 : (a1 == (rdOf false l0 x8_1)) = false := by simpa using c6))
              (try (have c6b3 : ¬ (a1 = (rdOf false l0 x8_1)) := by simpa using c6))
              clear c6
              have H' := Aside0.mk H
              clear H
              have p101 : 0 ≤ (x8_1 : Int) := of_decide_eq_true (by first | (with_reducible assumption) | assumption)
              have q101 : x8_1 < (l0.length : Int) := of_decide_eq_true (by first | (with_reducible assumption) | assumption)
              obtain ⟨ad101, e101, hx101_0⟩ := Kd.at_bool HR0.out x8_1 p101 q101
              cases e101
              replace p101 := eq_true p101
              replace q101 := eq_true q101
              go_wp2
              go_roundg k1
              case measure => have := HK1.out; omega
              case rel => exact ⟨(wrap64 (x8_1 + 1)), (by first | rfl | (simp; done) | (simp [*]; done)), H', ⟨by have := HK1.out; omega⟩, by repeat (first | exact Drawn0.refl _ | apply Drawn0.step)⟩
          · rw [if_neg c5] at H
            exact absurd H (by simp)
        · rw [if_neg c4] at H
          exact absurd H (by simp)
      · rw [if_neg c3] at H
        have c3b0 : decide (x8_1 < (l0.length : Int)) = false := decide_eq_false c3
        clear c3
        obtain rfl := Option.some.inj H
        go_wp2
        go_ret
        exact ⟨by first | rfl | (simp; done) | (simp [*]; done), by repeat (first | exact Drawn0.refl _ | apply Drawn0.step)⟩
/-! ### slices_Contains_bool_bool: function 23 -/
def slices_Contains_bool_bool.f (k : Nat) (l0 : List Bool) (a1 : Bool) : Option (Bool) := (slices_Index_bool_bool.f k l0 a1).bind fun t102 => (some (decide (t102 ≥ 0)))
set_option maxHeartbeats 8000000 in
set_option maxRecDepth 100000 in
theorem slices_Contains_bool_bool.calls (k : Nat) (A0 : Option Addr) (c0 : Nat) (l0 : List Bool) (a1 : Bool) (r : Bool) (w : World) (hG : Aside0 (Glob w)) (hr0 : Kd.C Kd.bool w A0 l0.length l0) (hc0 : l0.length ≤ c0) (h : slices_Contains_bool_bool.f k l0 a1 = some r) :
    Calls Tryd.prog 23 #[.slice A0 l0.length c0, .bool a1] w fun e w' => e = .returned (.bool r) ∧ Drawn0 w w' := by
  have HR0 := Aside0.mk hr0
  have HC0 := Aside0.mk hc0
  clear hr0 hc0
  have H : ((slices_Index_bool_bool.f k l0 a1).bind fun t102 => (some (decide (t102 ≥ 0)))) = some r := h
  clear h
  replace H := Option.bind_eq_some_iff.mp H
  obtain ⟨t102, A30, H⟩ := H
  replace H : (some (decide (t102 ≥ 0))) = some r := H
  have A3 := Aside0.mk A30
  clear A30
  obtain rfl := Option.some.inj H
  go_enter Tryd.func23, Tryd.ntmps23
  go_wp2_with (first | ((with_reducible refine gate_callee (f := 39) rfl ?_); refine goesL_ (some 7) rfl rfl Tryd.func39 (by kernel_rfl) rfl #[.slice A0 l0.length c0, .bool a1] rfl (by (try simp only [List.map_toArray, List.map_cons, List.map_nil]); first | done | rfl | (simp only [List.length_drop, List.length_take]; rfl)) ?_; (with_reducible refine (slices_Index_bool_bool.calls k _ _ l0 a1 t102 _ ⟨by repeat (first | exact hG.out | exact hG.out.below (by repeat (first | (with_reducible first | exact HB.out | apply below_alloc | apply pw_below_drewN | apply below_drew1) | exact HB.out | exact Below.refl _ _)) | apply Glob.drewN | apply Glob.drew)⟩ ?side1 ?side2 A3.out).mono ?_); (case side1 => repeat (first | exact HR0.out | (with_reducible refine Kd.C_alloc ?_ _) | (with_reducible refine Kd.C_drewN ?_ _) | (with_reducible refine Kd.C_drew ?_))); (case side2 => exact HC0.out); rintro e w' ⟨rfl, ⟨nd, rfl⟩⟩; refine ⟨_, rfl, ?_⟩))
  go_ret
  exact ⟨by first | rfl | (simp; done) | (simp [*]; done), by repeat (first | exact Drawn0.refl _ | apply Drawn0.step)⟩
end Go.Proofs.YtldlkoncndlbhaaDoor.PSh
