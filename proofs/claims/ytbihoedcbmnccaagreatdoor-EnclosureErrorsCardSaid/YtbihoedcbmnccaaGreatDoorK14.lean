/- Plain: the examples of the chapter. -/
import Derived.Test.YtbihoedcbmnccaaGreatDoorK13
import Derived.Deep.RegionHeld3
import Derived.Deep.DrawnRows
namespace Go.Proofs.YtbihoedcbmnccaaGreatDoor

theorem low3_le {b : Nat} (h : b ≤ 32) : lowN 3 b = 6807362105 / 2 ^ (32 - b) := by
  have e := lowN_shift (p := 3) (b := b) (m := 32 - b) (by decide)
  rw [show b + (32 - b) = 32 by omega, low3_32] at e
  exact e.symm
/-- The ends over 2 and 3, by the first 32 bits. -/
def endsV (c d : Rat) (b : Nat) : Rat × Rat :=
  let x := d * Rat.divInt ((6807362105 / 2 ^ (32 - b) : Nat) : Int) ((2 ^ b : Nat) : Int)
  let y := d * Rat.divInt ((6807362105 / 2 ^ (32 - b) + 1 : Nat) : Int) ((2 ^ b : Nat) : Int)
  (0 + minQ c c + minQ x y, 0 + maxQ c c + maxQ x y)
theorem endsQ_two {c d : Rat} {b : Nat} (hb : b ≤ 32) (hc : c.num ≠ 0) (hd : d.num ≠ 0) : endsQ [2, 3] [c, d] b = endsV c d b := by
  simp only [endsQ, endsFrom, endStep, endA, endB, low3_le hb, if_neg hc, if_neg hd, endsV, if_true, if_neg (show ¬ (3 : Nat) = 2 by decide)]
theorem bsN_congr {T U : Nat → Bool} : ∀ (k f g : Nat), (∀ n, n ≤ g → T n = U n) → bsN T k f g = bsN U k f g := by
  intro k
  induction k with
  | zero => intros; rfl
  | succ k ih =>
    intro f g h
    rw [bsN, bsN]
    by_cases hlt : f < g
    · rw [if_pos hlt, if_pos hlt, h _ (show (f + g - 1) / 2 ≤ g by omega), ih f ((f + g - 1) / 2) fun n hn => h n (by omega), ih ((f + g - 1) / 2 + 1) g h]
    · rw [if_neg hlt, if_neg hlt]
theorem Sz_ends {ps : List Nat} {qs : List Rat} {b : Nat} (hb : b ≤ 1000) : ∀ (acc : Rat × Rat) (k : Nat), (∀ p ∈ ps, 0 < p ∧ p < 128) → (∀ q ∈ qs, Sz 400 q) → (Sz k acc.1 ∧ Sz k acc.2) → Sz (k + 1501 * ps.length) (endsFrom b ps qs acc).1 ∧ Sz (k + 1501 * ps.length) (endsFrom b ps qs acc).2 := by
  induction ps generalizing qs with
  | nil => intro acc k _ _ h; rw [endsFrom]; · exact h
           · intros; simp_all
  | cons p ps ih =>
    intro acc k hp hq h
    cases qs with
    | nil => rw [endsFrom]; · exact ⟨h.1.mono (by omega), h.2.mono (by omega)⟩
             · intros; simp_all
    | cons q qs =>
      rw [endsFrom]
      have hs := Sz_step (b := b) (hp p (by simp)).1 (hp p (by simp)).2 hb (hq q (by simp)) h
      have := ih (qs := qs) (endStep b acc p q) (k + 1501) (fun p h => hp p (List.mem_cons_of_mem _ h)) (fun q h => hq q (List.mem_cons_of_mem _ h)) hs
      rw [List.length_cons]
      exact ⟨this.1.mono (by omega), this.2.mono (by omega)⟩
/-- What the examples use of an enclosure. -/
def decT (b : Nat) : Bool := decide (signE (endsV (-19) 12 b).1 (endsV (-19) 12 b).2 ≠ 0)
def cenT (b : Nat) : Bool := decide (scaledQ (endsV (-1) 1 b).1 3 = scaledQ (endsV (-1) 1 b).2 3)
theorem dec_bits : bsN decT 33 0 32 = 9 := by decide +kernel
theorem dec_32 : decT 32 = true := by decide +kernel
theorem dec_sign : signE (endsV (-19) 12 9).1 (endsV (-19) 12 9).2 = 1 := by decide +kernel
theorem enc_low : (endsV (-19) 12 7).1 = Rat.divInt (-1) 16 := by decide +kernel
theorem enc_high : (endsV (-19) 12 7).2 = Rat.divInt 1 32 := by decide +kernel
theorem cen_bits : bsN cenT 33 0 32 = 21 := by decide +kernel
theorem cen_32 : cenT 32 = true := by decide +kernel
theorem cen_val : scaledQ (endsV (-1) 1 21).1 3 = 701955 := by decide +kernel
theorem two_three : nums [2, 3] = [2, 3] := rfl
theorem V2_of {q : Rat} {n d : Int} (h1 : q.num = n) (h2 : (q.den : Int) = d) {s t : ByteArray} (hs : I n = s) (ht : I d = t) : Rv q = V2 s t := by
  unfold Rv V2; rw [h1, hs, ← I_nat, h2, ht]
/-- A right size over 2 and 3. -/
theorem right_two {w : World} {vp vs : Value} {c d : Rat} (hp : IntsAt w vp [2, 3]) (hs : SizeAt w vs [(I c.num, D c.den), (I d.num, D d.den)]) (hc : shortQ c = true) (hd : shortQ d = true) (h1 : Sz 400 c) (h2 : Sz 400 d) : Right w vp vs [2, 3] [c, d] := by
  refine ⟨hp, hs, rfl, by decide, ?_, by decide, by decide, ?_⟩
  · intro q hq
    rcases List.mem_cons.1 hq with rfl | hq
    · exact h1
    · rcases List.mem_cons.1 hq with rfl | hq
      · exact h2
      · cases hq
  · show errSize [2, 3] [(I c.num, D c.den), (I d.num, D d.den)] = 0
    unfold errSize
    rw [if_neg (by decide), if_neg (fun h => h rfl)]
    unfold chkS
    rw [errE_zero c hc, if_pos rfl]
    unfold chkS
    rw [errE_zero d hd, if_pos rfl]
    rfl
theorem lead_ends {c d : Rat} (h1 : Sz 400 c) (h2 : Sz 400 d) {n : Nat} (hn : n ≤ 32) : Sz 90000 (endsQ [2, 3] [c, d] n).1 ∧ Sz 90000 (endsQ [2, 3] [c, d] n).2 := by
  have h := Sz_ends (ps := [2, 3]) (qs := [c, d]) (b := n) (by omega) (0, 0) 1 (by decide) (by
    intro q hq
    rcases List.mem_cons.1 hq with rfl | hq
    · exact h1
    · rcases List.mem_cons.1 hq with rfl | hq
      · exact h2
      · cases hq) ⟨Sz_zero, Sz_zero⟩
  exact ⟨h.1.mono (by decide), h.2.mono (by decide)⟩
theorem sz_int {n : Int} {k : Nat} (h : nd n ≤ k) (hk : 1 ≤ k) : Sz k (n : Rat) := by
  refine ⟨?_, ?_⟩
  · rw [Rat.num_intCast]; exact h
  · rw [Rat.den_intCast]; exact Nat.le_trans (by decide +kernel) hk
end Go.Proofs.YtbihoedcbmnccaaGreatDoor
/- schismalaw14.known. -/
namespace Go.Proofs.YtbihoedcbmnccaaGreatDoor
attribute [local go_sem ↓] Go.wp_at_zero Go.wp_at_succ
open Go.RowKit

/-- A size of two whole numbers over 2 and 3 in memory. -/
structure Two (w : World) (vp vs : Value) (c d : Rat) : Prop where
  r : Right w vp vs [2, 3] [c, d]
  c0 : c.num ≠ 0
  d0 : d.num ≠ 0
theorem Two.b {w w' : World} {vp vs : Value} {c d : Rat} (h : Two w vp vs c d) (hb : Below w.heap.size w w') : Two w' vp vs c d := ⟨h.r.b hb, h.c0, h.d0⟩
theorem known_decide (vp vs : Value) (w : World) (hS : St w) (hR : Two w vp vs (-19) 12) :
    Calls Tryz.prog 24 #[vp, vs] w (DecP w 1 9 2 [.int .i64 2, .int .i64 9, .string (D (lowN 2 9)), .int .i64 3, .int .i64 9, .string ⟨#[56, 49, 49]⟩]) := by
  have hz : zeroQ [(-19 : Rat), 12] = false := by decide +kernel
  have h32 : decide (signE (endsQ [2, 3] [-19, 12] 32).1 (endsQ [2, 3] [-19, 12] 32).2 ≠ 0) = true := by rw [endsQ_two (by omega) hR.c0 hR.d0]; exact dec_32
  have hbs : bsN (fun n => decide (signE (endsQ [2, 3] [-19, 12] n).1 (endsQ [2, 3] [-19, 12] n).2 ≠ 0)) 33 0 32 = 9 := by
    rw [bsN_congr (U := decT) 33 0 32 fun n hn => by rw [endsQ_two hn hR.c0 hR.d0]; rfl]; exact dec_bits
  have h := decide_gen vp vs [2, 3] [-19, 12] 9 w hS hR.r hz (fun W hW => by
    have hl := least_ok (fun n => decide (signE (endsQ [2, 3] [-19, 12] n).1 (endsQ [2, 3] [-19, 12] n).2 ≠ 0)) vp vs [2, 3] [-19, 12] W (hS.b hW) (hR.r.b hW) (fun n V _ hV => decide_fn _ _ V ((hS.b hW).b hV)) h32
    rw [hbs] at hl
    exact hl.mono fun e w' ⟨lb, h1, h2, h3⟩ => ⟨lb, 32, h1, by omega, by omega, h2, h3⟩)
  rw [endsQ_two (by omega) hR.c0 hR.d0, dec_sign] at h
  have hk : bndK [-19, 12] [2, 3].length = 2 := by decide +kernel
  have hl : bndL [2, 3] [-19, 12] 9 [2, 3].length = [.int .i64 2, .int .i64 9, .string (D (lowN 2 9)), .int .i64 3, .int .i64 9, .string ⟨#[56, 49, 49]⟩] := by
    have e : D 811 = ⟨#[56, 49, 49]⟩ := by decide +kernel
    show (if (12 : Rat).num = 0 then _ else (if (-19 : Rat).num = 0 then [] else [] ++ _) ++ _) = _
    rw [if_neg hR.d0, if_neg hR.c0, ← e, ← low3_9]; rfl
  rw [hk, hl] at h
  exact h
theorem known_enclose (vp vs : Value) (w : World) (hS : St w) (hR : Two w vp vs (-19) 12) :
    Calls Tryz.prog 21 #[vp, vs, .int .i64 7] w fun e w' => e = .returned (.tuple #[.agg #[.string ⟨#[45, 49]⟩, .string ⟨#[49, 54]⟩], .agg #[.string ⟨#[49]⟩, .string ⟨#[51, 50]⟩], .int .i64 0]) ∧ Below w.heap.size w w' := by
  have h := enc_Enclose vp vs [2, 3] [-19, 12] 7 w hS hR.r (by omega)
  rw [endsQ_two (by omega) hR.c0 hR.d0, enc_low, enc_high, V2_of (q := Rat.divInt (-1) 16) (n := -1) (d := 16) (by decide +kernel) (by decide +kernel) (s := ⟨#[45, 49]⟩) (t := ⟨#[49, 54]⟩) (by decide +kernel) (by decide +kernel),
    V2_of (q := Rat.divInt 1 32) (n := 1) (d := 32) (by decide +kernel) (by decide +kernel) (s := ⟨#[49]⟩) (t := ⟨#[51, 50]⟩) (by decide +kernel) (by decide +kernel)] at h
  exact h
theorem known_cents (vp vs : Value) (w : World) (hS : St w) (hR : Two w vp vs (-1) 1) (h1 : Sz 400 (-1 : Rat)) (h2 : Sz 400 (1 : Rat)) :
    Calls Tryz.prog 22 #[vp, vs, .int .i64 3] w fun e w' => e = .returned (.tuple #[.string ⟨#[55, 48, 49, 46, 57, 53, 53]⟩, .int .i64 0]) ∧ Below w.heap.size w w' := by
  refine cents_case vp vs 21 w ?_
  have h := certain_ok 3 vp vs [2, 3] [-1, 1] w (by omega) hS hR.r (fun n hn => lead_ends h1 h2 hn) (by rw [endsQ_two (by omega) hR.c0 hR.d0]; exact cen_32) 21 (by
    rw [bsN_congr (U := cenT) 33 0 32 fun n hn => by rw [endsQ_two hn hR.c0 hR.d0]; rfl]; exact cen_bits) (by omega)
  rw [endsQ_two (by omega) hR.c0 hR.d0, cen_val] at h
  exact h
end Go.Proofs.YtbihoedcbmnccaaGreatDoor
/- schismalaw14.known. -/
namespace Go.Proofs.YtbihoedcbmnccaaGreatDoor
attribute [local go_sem ↓] Go.wp_at_zero Go.wp_at_succ
open Go.RowKit

theorem num_lit (n d : Int) (s t : ByteArray) (h0 : 0 < d) (h1 : -1000 ≤ n ∧ n ≤ 1000) (h2 : d ≤ 1000) (hs : I (Rat.divInt n d).num = s) (ht : D (Rat.divInt n d).den = t) (w : World) (hS : St w) :
    Calls Tryz.prog 49 #[.int .i64 n, .int .i64 d] w fun e w' => e = .returned (.agg #[.string s, .string t]) ∧ Below w.heap.size w w' := by
  have h := law_number n d h0 (by omega) (by omega) w hS
  unfold Rv at h
  rw [hs, ht] at h
  exact h
/-- What lies in memory while the examples are found. -/
structure KnA (w W : World) (b p : Nat) : Prop where
  bnd : Bo W 0 b 27 [.int .i64 3, .int .i64 3, .string ⟨#[49, 50]⟩]
  pr : IntsAt W (.slice (some ⟨p, 0, none⟩) 2 2) [2, 3]
  be : Below w.heap.size w W
structure KnB (w W : World) (b p c g cap : Nat) : Prop extends KnA w W b p where
  cmp : Bo W 0 c 51 [.int .i64 1, .int .i64 9, .slice (some ⟨g, 0, none⟩) 2 cap]
  low : W.cell? ⟨g, 5, none⟩ = some (.string ⟨#[56, 49, 49]⟩)
  lt : g < W.heap.size
structure KnC (w W : World) (b p c g cap lo hi : Nat) : Prop extends KnB w W b p c g cap where
  l : Bo W 0 lo 42 [.string ⟨#[45, 49]⟩, .string ⟨#[49, 54]⟩]
  h : Bo W 0 hi 42 [.string ⟨#[49]⟩, .string ⟨#[51, 50]⟩]
theorem KnA.below {w W V : World} {b p : Nat} (h : KnA w W b p) (hb : Below W.heap.size W V) : KnA w V b p := ⟨h.bnd.below hb, h.pr.b hb, bT h.be hb⟩
theorem KnB.below {w W V : World} {b p c g cap : Nat} (h : KnB w W b p c g cap) (hb : Below W.heap.size W V) : KnB w V b p c g cap :=
  ⟨h.toKnA.below hb, h.cmp.below hb, (gOfB hb none).cell h.low (by simp), Nat.lt_of_lt_of_le h.lt hb.size⟩
theorem KnC.below {w W V : World} {b p c g cap lo hi : Nat} (h : KnC w W b p c g cap lo hi) (hb : Below W.heap.size W V) : KnC w V b p c g cap lo hi :=
  ⟨h.toKnB.below hb, h.l.below hb, h.h.below hb⟩
theorem KnA.new (w1 w : World) (hb : Below w.heap.size w w1) : KnA w ((w1.alloc (.cells #[.int .i64 3, .int .i64 3, .string ⟨#[49, 50]⟩] 27)).alloc (.cells #[.int .i64 2, .int .i64 3] 3)) w1.heap.size (w1.heap.size + 1) := by
  have b1 := (Bo.new w1 27 #[.int .i64 3, .int .i64 3, .string ⟨#[49, 50]⟩] (by show 3 ≤ maxLen; decide)).mono (Nat.zero_le _)
  have h1 : Below w1.heap.size w1 (w1.alloc (.cells #[.int .i64 3, .int .i64 3, .string ⟨#[49, 50]⟩] 27)) := (Below.refl _ _).alloc (Nat.le_refl _) _
  generalize hW : w1.alloc (.cells #[.int .i64 3, .int .i64 3, .string ⟨#[49, 50]⟩] 27) = W at b1 h1 ⊢
  have hs : W.heap.size = w1.heap.size + 1 := by rw [← hW]; simp
  have h2 : Below W.heap.size W (W.alloc (.cells #[.int .i64 2, .int .i64 3] 3)) := (Below.refl _ _).alloc (Nat.le_refl _) _
  have b2 := Bo.new W 3 #[.int .i64 2, .int .i64 3] (by show 2 ≤ maxLen; decide)
  refine ⟨b1.below h2, .inr ⟨by simp, w1.heap.size + 1, 0, 2, rfl, by simp [hs], ?_⟩, bT hb (bT h1 h2)⟩
  intro j hj
  rw [← hs]
  match j, hj with
  | 0, _ => exact b2.cell 0 (by simp)
  | 1, _ => exact b2.cell 1 (by simp)
/-- A size of two numbers, laid out. -/
theorem Two.new {W : World} {p : Nat} {c d : Rat} {s t s' t' : ByteArray} (hp : IntsAt W (.slice (some ⟨p, 0, none⟩) 2 2) [2, 3]) (h1 : I c.num = s) (h2 : D c.den = t) (h3 : I d.num = s') (h4 : D d.den = t')
    (hc : shortQ c = true) (hd : shortQ d = true) (z1 : Sz 400 c) (z2 : Sz 400 d) (n1 : c.num ≠ 0) (n2 : d.num ≠ 0) :
    Two (W.alloc (.cells #[.string s, .string t, .string s', .string t'] 42)) (.slice (some ⟨p, 0, none⟩) 2 2) (.slice (some ⟨W.heap.size, 0, none⟩) 2 2) c d := by
  subst h1 h2 h3 h4
  have b1 := Bo.new W 42 #[.string (I c.num), .string (D c.den), .string (I d.num), .string (D d.den)] (by show 4 ≤ maxLen; decide)
  refine ⟨right_two (hp.b ((Below.refl _ _).alloc (Nat.le_refl _) _)) (.inr ⟨by simp, _, 0, 2, rfl, by simp, ?_⟩) hc hd z1 z2, n1, n2⟩
  intro j hj
  match j, hj with
  | 0, _ => exact ⟨b1.cell 0 (by simp), b1.cell 1 (by simp)⟩
  | 1, _ => exact ⟨b1.cell 2 (by simp), b1.cell 3 (by simp)⟩
theorem below1 (W : World) (o : Obj) : Below W.heap.size W (W.alloc o) := (Below.refl _ _).alloc (Nat.le_refl _) _
theorem KnB.new {w W : World} {b p B : Nat} {v : Value} (h : KnA w W b p) (hr : W.ownsRow B 27 3 v 2 [.int .i64 2, .int .i64 9, .string (D (lowN 2 9)), .int .i64 3, .int .i64 9, .string ⟨#[56, 49, 49]⟩]) :
    ∃ g cap, v = .slice (some ⟨g, 0, none⟩) 2 cap ∧ KnB w (W.alloc (.cells #[.int .i64 1, .int .i64 9, .slice (some ⟨g, 0, none⟩) 2 cap] 51)) b p W.heap.size g cap := by
  rcases hr.2 with ⟨_, h0⟩ | ⟨g, cap, cur, rfl, h1, h2, h3, h4, h5, h6⟩
  · omega
  refine ⟨g, cap, rfl, h.below (below1 _ _), (Bo.new W 51 #[.int .i64 1, .int .i64 9, .slice (some ⟨g, 0, none⟩) 2 cap] (by show 3 ≤ maxLen; decide)).mono (Nat.zero_le _), ?_, ?_⟩
  · have hc : W.cell? ⟨g, 5, none⟩ = some (.string ⟨#[56, 49, 49]⟩) := by
      rw [cell_of_row W g 5 cur 27 (0, 0) h2]
      have e : (cur.toList.take (2 * 3))[5]? = some (.string ⟨#[56, 49, 49]⟩) := by rw [h6]; rfl
      rw [List.getElem?_take] at e
      simpa using e
    exact (gOfB (below1 _ _) none).cell hc (by simp)
  · have : g < W.heap.size := by
      rcases Nat.lt_or_ge g W.heap.size with hlt | hge
      · exact hlt
      · rw [Array.getElem?_eq_none hge] at h2; cases h2
    exact Nat.lt_of_lt_of_le this (below1 _ _).size
theorem KnC.new {w W : World} {b p c g cap : Nat} (h : KnB w W b p c g cap) : KnC w ((W.alloc (.cells #[.string ⟨#[45, 49]⟩, .string ⟨#[49, 54]⟩] 42)).alloc (.cells #[.string ⟨#[49]⟩, .string ⟨#[51, 50]⟩] 42)) b p c g cap W.heap.size (W.heap.size + 1) := by
  have b1 := (Bo.new W 42 #[.string ⟨#[45, 49]⟩, .string ⟨#[49, 54]⟩] (by show 2 ≤ maxLen; decide)).mono (Nat.zero_le _)
  have h1 := below1 W (.cells #[.string ⟨#[45, 49]⟩, .string ⟨#[49, 54]⟩] 42)
  generalize hW : W.alloc (.cells #[.string ⟨#[45, 49]⟩, .string ⟨#[49, 54]⟩] 42) = V at b1 h1 ⊢
  have hs : V.heap.size = W.heap.size + 1 := by rw [← hW]; simp
  have b2 := (Bo.new V 42 #[.string ⟨#[49]⟩, .string ⟨#[51, 50]⟩] (by show 2 ≤ maxLen; decide)).mono (Nat.zero_le _)
  rw [hs] at b2
  exact ⟨(h.below h1).below (below1 _ _), b1.below (below1 _ _), b2⟩
theorem KnC.cells {w W : World} {b p c g cap lo hi : Nat} (h : KnC w W b p c g cap lo hi) :
    W.cell? ⟨b, 0, none⟩ = some (.int .i64 3) ∧ W.cell? ⟨b, 1, none⟩ = some (.int .i64 3) ∧ W.cell? ⟨b, 2, none⟩ = some (.string ⟨#[49, 50]⟩) ∧
    W.cell? ⟨c, 0, none⟩ = some (.int .i64 1) ∧ W.cell? ⟨c, 1, none⟩ = some (.int .i64 9) ∧ W.cell? ⟨c, 2, none⟩ = some (.slice (some ⟨g, 0, none⟩) 2 cap) ∧ W.cell? ⟨g, 5, none⟩ = some (.string ⟨#[56, 49, 49]⟩) ∧
    W.cell? ⟨lo, 0, none⟩ = some (.string ⟨#[45, 49]⟩) ∧ W.cell? ⟨lo, 1, none⟩ = some (.string ⟨#[49, 54]⟩) ∧ W.cell? ⟨hi, 0, none⟩ = some (.string ⟨#[49]⟩) ∧ W.cell? ⟨hi, 1, none⟩ = some (.string ⟨#[51, 50]⟩) ∧ Hid (KnC w W b p c g cap lo hi) :=
  ⟨h.bnd.cell 0 (by simp), h.bnd.cell 1 (by simp), h.bnd.cell 2 (by simp), h.cmp.cell 0 (by simp), h.cmp.cell 1 (by simp), h.cmp.cell 2 (by simp), h.low, h.l.cell 0 (by simp), h.l.cell 1 (by simp), h.h.cell 0 (by simp), h.h.cell 1 (by simp), h⟩

set_option maxHeartbeats 6400000 in
set_option maxRecDepth 100000 in
theorem known_true (w : World) (hS : St w) : Calls Tryz.prog 13 #[] w fun e w' => e = .returned (.bool true) ∧ Below w.heap.size w w' := by
  have hof := enclosure_Of 3 3 w (by decide) (by omega) hS
  unfold bndV at hof
  rw [low3_3, show D 12 = ⟨#[49, 50]⟩ by decide +kernel] at hof
  have q19 : Rat.divInt (-19) 1 = -19 := by decide +kernel
  have i19 : I (-19 : Rat).num = ⟨#[45, 49, 57]⟩ := by decide +kernel
  have d19 : D (-19 : Rat).den = ⟨#[49]⟩ := by decide +kernel
  have i12 : I (12 : Rat).num = ⟨#[49, 50]⟩ := by decide +kernel
  have d12 : D (12 : Rat).den = ⟨#[49]⟩ := by decide +kernel
  have im1 : I (-1 : Rat).num = ⟨#[45, 49]⟩ := by decide +kernel
  have dm1 : D (-1 : Rat).den = ⟨#[49]⟩ := by decide +kernel
  have i1 : I (1 : Rat).num = ⟨#[49]⟩ := by decide +kernel
  have d1 : D (1 : Rat).den = ⟨#[49]⟩ := by decide +kernel
  have N1 := Lib.hid (fun W hW => num_lit (-19) 1 ⟨#[45, 49, 57]⟩ ⟨#[49]⟩ (by omega) (by omega) (by omega) (by decide +kernel) (by decide +kernel) W hW)
  have N2 := Lib.hid (fun W hW => num_lit 12 1 ⟨#[49, 50]⟩ ⟨#[49]⟩ (by omega) (by omega) (by omega) (by decide +kernel) (by decide +kernel) W hW)
  have N3 := Lib.hid (fun W hW => num_lit (-1) 1 ⟨#[45, 49]⟩ ⟨#[49]⟩ (by omega) (by omega) (by omega) (by decide +kernel) (by decide +kernel) W hW)
  have N4 := Lib.hid (fun W hW => num_lit 1 1 ⟨#[49]⟩ ⟨#[49]⟩ (by omega) (by omega) (by omega) (by decide +kernel) (by decide +kernel) W hW)
  have N5 := Lib.hid (fun W hW => num_lit (-1) 16 ⟨#[45, 49]⟩ ⟨#[49, 54]⟩ (by omega) (by omega) (by omega) (by decide +kernel) (by decide +kernel) W hW)
  have N6 := Lib.hid (fun W hW => num_lit 1 32 ⟨#[49]⟩ ⟨#[51, 50]⟩ (by omega) (by omega) (by omega) (by decide +kernel) (by decide +kernel) W hW)
  have T1 := Lib.hid (fun W p hp => Two.new (W := W) (p := p) (c := -19) (d := 12) hp i19 d19 i12 d12 (by decide +kernel) (by decide +kernel) ⟨by decide +kernel, by decide +kernel⟩ ⟨by decide +kernel, by decide +kernel⟩ (by decide +kernel) (by decide +kernel))
  have T2 := Lib.hid (fun W p hp => Two.new (W := W) (p := p) (c := -1) (d := 1) hp im1 dm1 i1 d1 (by decide +kernel) (by decide +kernel) ⟨by decide +kernel, by decide +kernel⟩ ⟨by decide +kernel, by decide +kernel⟩ (by decide +kernel) (by decide +kernel))
  have CE := Lib.hid (fun vp vs W hW hR => known_cents vp vs W hW hR ⟨by decide +kernel, by decide +kernel⟩ ⟨by decide +kernel, by decide +kernel⟩)
  clear q19 i19 d19 i12 d12 im1 dm1 i1 d1
  go_enter Tryz.func13, Tryz.ntmps13
  go_wp2_with fail
  refine hof.mono ?_
  rintro e w1 ⟨rfl, hb1⟩
  have K1 := Lib.hid (KnA.new w1 w hb1)
  clear hb1 hof
  go_wp2_with fail
  generalize (w1.alloc (.cells #[.int .i64 3, .int .i64 3, .string ⟨#[49, 50]⟩] 27)).alloc (.cells #[.int .i64 2, .int .i64 3] 3) = W at K1 ⊢
  refine (N1.out _ (hS.b K1.out.be)).mono ?_
  rintro e w2 ⟨rfl, hb2⟩
  have K2 := Lib.hid (K1.out.below hb2)
  clear hb2 K1
  go_wp2_with fail
  refine (N2.out _ (hS.b K2.out.be)).mono ?_
  rintro e w3 ⟨rfl, hb3⟩
  have K3 := Lib.hid (K2.out.below hb3)
  have K4 := Lib.hid (K3.out.below (below1 w3 (.cells #[.string ⟨#[45, 49, 57]⟩, .string ⟨#[49]⟩, .string ⟨#[49, 50]⟩, .string ⟨#[49]⟩] 42)))
  have TW := Lib.hid (T1.out w3 _ K3.out.pr)
  clear hb3 K2 K3
  go_wp2_with fail
  generalize w3.alloc (.cells #[.string ⟨#[45, 49, 57]⟩, .string ⟨#[49]⟩, .string ⟨#[49, 50]⟩, .string ⟨#[49]⟩] 42) = W4 at K4 TW ⊢
  refine (known_decide _ _ _ (hS.b K4.out.be) TW.out).mono ?_
  rintro e w5 ⟨v, rfl, hrow, hb5⟩
  obtain ⟨g, cap, rfl, hk⟩ := KnB.new (K4.out.below hb5) hrow
  have K6 := Lib.hid hk
  clear hk hrow hb5 K4 TW
  go_wp2_with fail
  generalize w5.alloc (.cells #[.int .i64 1, .int .i64 9, .slice (some ⟨g, 0, none⟩) 2 cap] 51) = W6 at K6 ⊢
  generalize w5.heap.size = cb at K6 ⊢
  refine (N1.out _ (hS.b K6.out.be)).mono ?_
  rintro e w7 ⟨rfl, hb7⟩
  have K7 := Lib.hid (K6.out.below hb7)
  clear hb7 K6
  go_wp2_with fail
  refine (N2.out _ (hS.b K7.out.be)).mono ?_
  rintro e w8 ⟨rfl, hb8⟩
  have K8 := Lib.hid (K7.out.below hb8)
  have K9 := Lib.hid (K8.out.below (below1 w8 (.cells #[.string ⟨#[45, 49, 57]⟩, .string ⟨#[49]⟩, .string ⟨#[49, 50]⟩, .string ⟨#[49]⟩] 42)))
  have TW := Lib.hid (T1.out w8 _ K8.out.pr)
  clear hb8 K7 K8
  go_wp2_with fail
  generalize w8.alloc (.cells #[.string ⟨#[45, 49, 57]⟩, .string ⟨#[49]⟩, .string ⟨#[49, 50]⟩, .string ⟨#[49]⟩] 42) = W9 at K9 TW ⊢
  refine (known_enclose _ _ _ (hS.b K9.out.be) TW.out).mono ?_
  rintro e w10 ⟨rfl, hb10⟩
  have K10 := Lib.hid (KnC.new (K9.out.below hb10))
  clear hb10 K9 TW
  go_wp2_with fail
  generalize (w10.alloc (.cells #[.string ⟨#[45, 49]⟩, .string ⟨#[49, 54]⟩] 42)).alloc (.cells #[.string ⟨#[49]⟩, .string ⟨#[51, 50]⟩] 42) = W11 at K10 ⊢
  generalize hlo : w10.heap.size + 1 = hi at K10 ⊢
  generalize w10.heap.size = lo at K10 hlo ⊢
  clear hlo
  refine (N3.out _ (hS.b K10.out.be)).mono ?_
  rintro e w12 ⟨rfl, hb12⟩
  have K12 := Lib.hid (K10.out.below hb12)
  clear hb12 K10
  go_wp2_with fail
  refine (N4.out _ (hS.b K12.out.be)).mono ?_
  rintro e w13 ⟨rfl, hb13⟩
  have K13 := Lib.hid (K12.out.below hb13)
  have K14 := Lib.hid (K13.out.below (below1 w13 (.cells #[.string ⟨#[45, 49]⟩, .string ⟨#[49]⟩, .string ⟨#[49]⟩, .string ⟨#[49]⟩] 42)))
  have TW := Lib.hid (T2.out w13 _ K13.out.pr)
  clear hb13 K12 K13
  go_wp2_with fail
  generalize w13.alloc (.cells #[.string ⟨#[45, 49]⟩, .string ⟨#[49]⟩, .string ⟨#[49]⟩, .string ⟨#[49]⟩] 42) = W14 at K14 TW ⊢
  refine (CE.out _ _ _ (hS.b K14.out.be) TW.out).mono ?_
  rintro e w15 ⟨rfl, hb15⟩
  have K15 := Lib.hid ((K14.out.below hb15).below (Below.refl w15.heap.size w15).drew)
  clear hb15 K14 TW
  have hs0 := K15.out.cells
  go_wp2
  go_region_held3 (fun V => V.cell? ⟨w1.heap.size, 0, none⟩ = some (.int .i64 3) ∧ V.cell? ⟨w1.heap.size, 1, none⟩ = some (.int .i64 3) ∧ V.cell? ⟨w1.heap.size, 2, none⟩ = some (.string ⟨#[49, 50]⟩) ∧
    V.cell? ⟨cb, 0, none⟩ = some (.int .i64 1) ∧ V.cell? ⟨cb, 1, none⟩ = some (.int .i64 9) ∧ V.cell? ⟨cb, 2, none⟩ = some (.slice (some ⟨g, 0, none⟩) 2 cap) ∧ V.cell? ⟨g, 5, none⟩ = some (.string ⟨#[56, 49, 49]⟩) ∧
    V.cell? ⟨lo, 0, none⟩ = some (.string ⟨#[45, 49]⟩) ∧ V.cell? ⟨lo, 1, none⟩ = some (.string ⟨#[49, 54]⟩) ∧ V.cell? ⟨hi, 0, none⟩ = some (.string ⟨#[49]⟩) ∧ V.cell? ⟨hi, 1, none⟩ = some (.string ⟨#[51, 50]⟩) ∧ Hid (KnC w V w1.heap.size (w1.heap.size + 1) cb g cap lo hi))
    (first | assumption | exact hs0 | exact hs1 | exact hs2)
    (first
    | (go_at_call 49; (with_reducible refine Calls.mono (N5.out _ (hS.b hs0.2.2.2.2.2.2.2.2.2.2.2.out.be)) ?_); rintro e x1 ⟨rfl, y1⟩; have hs1 := (hs0.2.2.2.2.2.2.2.2.2.2.2.out.below y1).cells; clear y1)
    | (go_at_call 49; (with_reducible refine Calls.mono (N6.out _ (hS.b hs1.2.2.2.2.2.2.2.2.2.2.2.out.be)) ?_); rintro e x2 ⟨rfl, y2⟩; have hs2 := (hs1.2.2.2.2.2.2.2.2.2.2.2.out.below y2).cells; clear y2))
  all_goals (go_wp2; go_ret; exact ⟨rfl, hs2.2.2.2.2.2.2.2.2.2.2.2.out.be⟩)
end Go.Proofs.YtbihoedcbmnccaaGreatDoor
/- schismalaw14.EnclosureGrows: the walk. -/
namespace Go.Proofs.YtbihoedcbmnccaaGreatDoor
attribute [local go_sem ↓] Go.wp_at_zero Go.wp_at_succ
open Go.RowKit

/-- The difference of a round. -/
theorem grow_diff {p k : Nat} (hp : 0 < p) : I ((lowN p (k + 1) : Int) - ((lowN p k + lowN p k : Nat) : Int)) = ⟨#[48]⟩ ∨ I ((lowN p (k + 1) : Int) - ((lowN p k + lowN p k : Nat) : Int)) = ⟨#[49]⟩ := by
  rcases lowN_succ (j := k) hp with h | h
  · left
    rw [show ((lowN p (k + 1) : Int) - ((lowN p k + lowN p k : Nat) : Int)) = 0 by omega]; decide +kernel
  · right
    rw [show ((lowN p (k + 1) : Int) - ((lowN p k + lowN p k : Nat) : Int)) = 1 by omega]; decide +kernel
/-- The bounds that lie in memory. -/
structure G1 (w W : World) (a : Nat) (n k : Int) (s : ByteArray) : Prop where
  bo : Bo W 0 a 27 [.int .i64 n, .int .i64 k, .string s]
  be : Below w.heap.size w W
theorem G1.below {w W V : World} {a : Nat} {n k : Int} {s : ByteArray} (h : G1 w W a n k s) (hb : Below W.heap.size W V) : G1 w V a n k s := ⟨h.bo.below hb, bT h.be hb⟩
theorem G1.new {w W : World} (hb : Below w.heap.size w W) (n k : Int) (s : ByteArray) : G1 w (W.alloc (.cells #[.int .i64 n, .int .i64 k, .string s] 27)) W.heap.size n k s :=
  ⟨(Bo.new W _ _ (by show 3 ≤ maxLen; decide)).mono (Nat.zero_le _), bT hb (below1 _ _)⟩

set_option maxHeartbeats 6400000 in
set_option maxRecDepth 100000 in
theorem grows_law (p b : Int) (hp : 0 ≤ p ∧ p ≤ 255) (hb : 0 ≤ b ∧ b ≤ 65535) (w : World) (hS : St w) :
    Calls Tryz.prog 3 #[.int .u8 p, .int .u16 b] w fun e w' => e = .returned (.bool true) ∧ Below w.heap.size w w' := by
  have hkn := known_true w hS
  obtain ⟨n, hn⟩ : ∃ n : Nat, p % 98 = (n : Int) := ⟨(p % 98).toNat, by omega⟩
  obtain ⟨k, hk⟩ : ∃ k : Nat, b % 900 = (k : Int) := ⟨(b % 900).toNat, by omega⟩
  obtain ⟨hp0, hp1⟩ := hp
  obtain ⟨hb0, hb1⟩ := hb
  have hk9 : k ≤ 899 := by omega
  have hn9 : n ≤ 97 := by omega
  have HPR := Lib.hid (fun W => prime_Is (n : Int) W)
  go_enter Tryz.func3, Tryz.ntmps3
  go_wp2_with fail
  refine hkn.mono ?_
  rintro e w1 ⟨rfl, hb1⟩
  have B1 := Lib.hid hb1
  clear hb1 hkn
  go_wp2_with fail
  cases hpr : primeB (n : Int) with
  | false =>
    rw [hpr] at HPR
    refine (HPR.out _).mono ?_
    rintro e w2 ⟨rfl, rfl⟩
    go_wp2
    go_ret; exact ⟨rfl, B1.out⟩
  | true =>
    rw [hpr] at HPR
    have HOF := Lib.hid (fun W hW => enclosure_Of n k W hpr (by omega) hW)
    have hof1 := fun W hW => enclosure_Of n (k + 1) W hpr (by omega) hW
    unfold bndV at hof1
    rw [show (((k + 1 : Nat)) : Int) = (k : Int) + 1 from rfl] at hof1
    have HOF1 := Lib.hid hof1
    clear hof1
    have HOF2 := Lib.hid (fun W hW => enclosure_Of 2 k W (by decide) (by omega) hW)
    have HPW := Lib.hid (fun W hW => whole_Power 2 k (by decide) (by decide) (by rw [nd_two]; omega) W hW)
    have hpm := primeB_mem hpr
    obtain ⟨n', hn', _, hn0, hn1, _, _⟩ := hpm
    obtain rfl : n' = n := by omega
    have HADD := Lib.hid (fun W hW => whole_AddD (lowN n' k) (lowN n' k) (by have := lowN_nd (p := n') (j := k) hn0 hn1; omega) (by have := lowN_nd (p := n') (j := k) hn0 hn1; omega) W hW)
    have HSUB := Lib.hid (fun W hW => whole_Sub (lowN n' (k + 1) : Int) ((lowN n' k + lowN n' k : Nat) : Int) (by rw [nd_nat]; have := lowN_nd (p := n') (j := k + 1) hn0 hn1; omega) (by rw [nd_nat]; exact Nat.le_trans (nDigits_two (k := k + 4) (by omega) (by have h := lowN_small (p := n') (j := k) hn0 hn1; have h2 : 2 ^ (k + 4) = 2 ^ (k + 3) * 2 := Nat.pow_succ ..; omega)) (by omega)) W hW)
    have HD := Lib.hid (grow_diff (p := n') (k := k) hn0)
    simp only [I_nat] at HSUB
    unfold bndV at HOF HOF2
    rw [lowN_two] at HOF2
    rw [show D 2 = ⟨#[50]⟩ by decide +kernel] at HPW
    clear hn' hn0 hn1 hpr
    refine (HPR.out _).mono ?_
    rintro e w2 ⟨rfl, rfl⟩
    generalize D (lowN n' k) = la at *
    generalize D (lowN n' (k + 1)) = lb at *
    generalize D (2 ^ k) = lc at *
    generalize D (lowN n' k + lowN n' k) = ls at *
    generalize I ((lowN n' (k + 1) : Int) - ((lowN n' k + lowN n' k : Nat) : Int)) = ld at *
    go_wp2_with fail
    refine (HOF.out _ (hS.b B1.out)).mono ?_
    rintro e w3 ⟨rfl, hb3⟩
    have GA := Lib.hid (G1.new (bT B1.out hb3) n' k la)
    clear hb3
    go_wp2_with fail
    generalize w3.alloc (.cells #[.int .i64 (n' : Int), .int .i64 (k : Int), .string la] 27) = W3 at GA ⊢
    generalize w3.heap.size = ba at GA ⊢
    refine (HOF1.out _ (hS.b GA.out.be)).mono ?_
    rintro e w4 ⟨rfl, hb4⟩
    have GB := Lib.hid (G1.new (bT GA.out.be hb4) n' (k + 1) lb)
    have GA4 := Lib.hid ((GA.out.below hb4).below (below1 w4 (.cells #[.int .i64 (n' : Int), .int .i64 ((k : Int) + 1), .string lb] 27)))
    clear hb4 GA
    go_wp2_with fail
    generalize w4.alloc (.cells #[.int .i64 (n' : Int), .int .i64 ((k : Int) + 1), .string lb] 27) = W4 at GB GA4 ⊢
    generalize w4.heap.size = bb at GB ⊢
    refine (HOF2.out _ (hS.b GB.out.be)).mono ?_
    rintro e w5 ⟨rfl, hb5⟩
    have GC := Lib.hid (G1.new (bT GB.out.be hb5) 2 k lc)
    have GA5 := Lib.hid ((GA4.out.below hb5).below (below1 w5 (.cells #[.int .i64 2, .int .i64 (k : Int), .string lc] 27)))
    have GB5 := Lib.hid ((GB.out.below hb5).below (below1 w5 (.cells #[.int .i64 2, .int .i64 (k : Int), .string lc] 27)))
    clear hb5 GA4 GB
    go_wp2_with fail
    generalize w5.alloc (.cells #[.int .i64 2, .int .i64 (k : Int), .string lc] 27) = W5 at GC GA5 GB5 ⊢
    generalize w5.heap.size = bc at GC ⊢
    refine (HPW.out _ (hS.b GC.out.be)).mono ?_
    rintro e w6 ⟨rfl, hb6⟩
    have GA6 := Lib.hid (GA5.out.below hb6)
    have GB6 := Lib.hid (GB5.out.below hb6)
    have gc := (GC.out.below hb6).bo.cell 2 (by simp)
    simp only [List.getElem_cons_succ, List.getElem_cons_zero] at gc
    clear hb6 GC GA5 GB5
    go_wp2
    have HWB := Lib.hid (bT GA6.out.be (Below.refl w6.heap.size w6).drew)
    have ga := (GA6.out.below (Below.refl w6.heap.size w6).drew).bo.cell 2 (by simp)
    have gb := (GB6.out.below (Below.refl w6.heap.size w6).drew).bo.cell 2 (by simp)
    simp only [List.getElem_cons_succ, List.getElem_cons_zero] at ga gb
    clear gc
    go_region_held3 (fun V => V.cell? ⟨ba, 2, none⟩ = some (.string la) ∧ V.cell? ⟨bb, 2, none⟩ = some (.string lb) ∧ Hid (Below w.heap.size w V))
      (first | assumption | exact ⟨ga, gb, HWB.out⟩ | exact hs1 | exact hs2)
      (first
      | (go_at_call 18; (with_reducible refine Calls.mono (HADD.out _ (hS.b HWB.out)) ?_); rintro e x1 ⟨rfl, y1⟩; have hs1 := And.intro ((gOfB y1 none).cell ga (by simp)) (And.intro ((gOfB y1 none).cell gb (by simp)) (Lib.hid (bT HWB.out y1))))
      | (go_at_call 17; (with_reducible refine Calls.mono (HSUB.out _ (hS.b hs1.2.2.out)) ?_); rintro e x2 ⟨rfl, y2⟩; have hs2 := And.intro ((gOfB y2 none).cell hs1.1 (by simp)) (And.intro ((gOfB y2 none).cell hs1.2.1 (by simp)) (Lib.hid (bT hs1.2.2.out y2)))))
    rcases HD.out with hd | hd
    · rw [hd]
      go_wp2
      go_ret; exact ⟨rfl, hs2.2.2.out⟩
    · rw [hd]
      go_wp2
      go_ret; exact ⟨rfl, hs2.2.2.out⟩
end Go.Proofs.YtbihoedcbmnccaaGreatDoor
