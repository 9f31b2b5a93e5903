/- decimal: Bits (of a word), Power; whole: Power. -/
import Derived.Test.YtbihoedcbmnccaaGreatDoorK5
import Derived.Laws.Rows
import Derived.Deep.RegionHeld3
import Derived.Deep.DrawnRows
namespace Go.Proofs.YtbihoedcbmnccaaGreatDoor
open Go.RowKit

theorem bitLen_pos {n : Nat} (h0 : 2 ≤ n) (h : n < 18446744073709551616) : 2 ≤ Lib.bitLen n ∧ Lib.bitLen n ≤ 64 ∧ 2 ^ (Lib.bitLen n - 1) ≤ n ∧ n < 2 ^ Lib.bitLen n := by
  have h1 := Lib.bitLenAux_bounds 64 n h (by omega)
  have h2 : Lib.bitLen n ≤ 64 := Lib.bitLen_le n 64 (Nat.le_refl _) h
  refine ⟨?_, h2, h1.2.1, h1.2.2⟩
  apply Classical.byContradiction
  intro hc
  have h3 : Lib.bitLen n ≤ 1 := by omega
  have h4 : 2 ^ Lib.bitLen n ≤ 2 ^ 1 := Nat.pow_le_pow_right (by decide) h3
  have h5 : n < 2 ^ Lib.bitLen n := h1.2.2
  omega
set_option maxHeartbeats 800000 in
theorem decimal_Bits_small (n : Nat) (h : n < 18446744073709551616) (w : World) :
    Calls Tryz.prog 99 #[.string (D n)] w fun e w' => e = .returned (.int .i64 (Lib.bitLen n)) ∧ Below w.heap.size w w' := by
  go_enter Tryz.func99, Tryz.ntmps99
  go_wp2_with fail; refine ((decimal_Small n h _)).mono ?_; rintro e w1 ⟨rfl, hb1⟩
  go_wp2_with fail
  refine (Tryz.bits_Len64 n w1 (by omega) (by omega)).mono ?_
  rintro e w2 ⟨rfl, rfl⟩
  go_wp2
  go_ret
  exact ⟨rfl, hb1⟩
theorem pow_dig {a n : Nat} {K : Nat} (h : a ^ n < 10 ^ K) (hK : 0 < K) : Lib.nDigits (a ^ n) ≤ K := nDigits_le hK h
theorem Ow_one (w : World) (x : Nat) : Ow (w.alloc (.cells #[.int .u64 (x : Int)] 151)) w.heap.size (sv w.heap.size [x].length 1) [x] := by
  refine ⟨rfl, .inr ⟨w.heap.size, 1, #[.int .u64 (x : Int)], rfl, Nat.le_refl _, Array.getElem?_push_size, Nat.le_refl _, by decide, rfl, rfl⟩⟩
structure PowInv (T : Nat) (xs ps : List Nat) (n : Nat) : Prop where
  prod : val base xs * val base ps ^ n = T
  lx : Lim base xs
  lp : Lim base ps
  tx : Trimmed xs
  tp : Trimmed ps
  px : 0 < val base ps
theorem PowInv.lens {T : Nat} {xs ps : List Nat} {n K : Nat} (h : PowInv T xs ps n) (hT : T < base ^ K) (hx : 0 < val base xs) (hn : 0 < n) : xs.length ≤ K ∧ ps.length ≤ K := by
  have h1 : val base xs ≤ T := by rw [← h.prod]; exact Nat.le_mul_of_pos_right _ (Nat.pow_pos h.px)
  have h2 : val base ps ≤ T := by
    rw [← h.prod]
    have h3 : val base ps ^ 1 ≤ val base ps ^ n := Nat.pow_le_pow_right h.px hn
    rw [Nat.pow_one] at h3
    exact Nat.le_trans h3 (Nat.le_mul_of_pos_left _ hx)
  exact ⟨len_of_lt (by decide) h.tx (Nat.lt_of_le_of_lt h1 hT), len_of_lt (by decide) h.tp (Nat.lt_of_le_of_lt h2 hT)⟩
set_option maxHeartbeats 1600000 in
set_option maxRecDepth 100000 in
theorem decimal_Power (a n : Nat) (ha : 2 ≤ a) (ha' : a < 18446744073709551616) (hn : 0 < n) (hk : n * (Lib.bitLen a - 1) ≤ 66439) (K : Nat) (hK0 : 0 < K) (hK : K ≤ 20000) (hT : a ^ n < 10 ^ K) (w : World) (hS : St w) :
    Calls Tryz.prog 53 #[.string (D a), .int .i64 (n : Int)] w fun e w' => e = .returned (.tuple #[.string (D (a ^ n)), .int .i64 0]) ∧ Below w.heap.size w w' := by
  have hbp := bitLen_pos ha ha'
  have e1 : ((n : Int) == 0) = false := by rw [beq_eq_false_iff_ne]; omega
  have e2 : ((D a).toList == [49]) = false := by
    have := list_D a 1
    rw [D_one, ba_list ⟨#[49]⟩] at this
    rw [show ((D a).toList == [49]) = decide (a = 1) from this]; exact decide_eq_false (by omega)
  have e3 : ((D a).toList == [48]) = false := by rw [D_is0]; exact decide_eq_false (by omega)
  obtain ⟨k, hke⟩ : ∃ k, Lib.bitLen a = k + 1 := ⟨Lib.bitLen a - 1, by omega⟩
  have hb := fun W => decimal_Bits_small a ha' W
  rw [hke] at hk hb hbp
  have hn1 : n ≤ 66439 / k := (Nat.le_div_iff_mul_le (by omega)).2 (by simpa using hk)
  have hn2 : ¬ (66439 : Int) / (k : Int) < (n : Int) := by
    have : ((66439 / k : Nat) : Int) = (66439 : Int) / (k : Int) := Int.natCast_ediv ..
    rw [← this]; omega
  have hn3 : (66439 : Int).tdiv (k : Int) = (66439 : Int) / (k : Int) := Int.tdiv_eq_ediv_of_nonneg (by decide)
  have hk0 : ¬ k = 0 := by omega
  have hq : (0 : Int) ≤ (66439 : Int) / (k : Int) ∧ (66439 : Int) / (k : Int) ≤ 66439 := by
    have : ((66439 / k : Nat) : Int) = (66439 : Int) / (k : Int) := Int.natCast_ediv ..
    have h2 : 66439 / k ≤ 66439 := Nat.div_le_self ..
    rw [← this]; omega
  obtain ⟨qq, hqq⟩ : ∃ q, (66439 : Int) / (k : Int) = q := ⟨_, rfl⟩
  rw [hqq] at hn2 hn3 hq
  have H1 := Lib.hid (And.intro hbp (And.intro hke hk))
  have hk63 : k ≤ 63 := by omega
  have hnb : n ≤ 66439 := Nat.le_trans hn1 (Nat.div_le_self ..)
  clear hbp hke hk hn1 hqq
  go_enter Tryz.func53, Tryz.ntmps53
  go_wp2_with fail; refine ((hb _)).mono ?_; rintro e w1 ⟨rfl, hb1⟩
  have hS1 := (hS.b hb1).alloc (.cells #[.int .u64 1] 151)
  have hO1 := Ow_one w1 1
  have HB1 := Lib.hid (bT hb1 (((Below.refl _ _).alloc (Nat.le_refl _) (.cells #[.int .u64 1] 151))))
  have HA := Lib.hid hb1
  clear hb1
  go_wp2_with fail
  refine (cut_D a _ (Nat.le_trans (nDigits_le (k := 20) (by decide) (by omega)) (by omega))).mono ?_
  rintro e w2 ⟨gp, capp, ps0, rfl, hop, lp, tp, vp, sp, hb2⟩
  have HO := Lib.hid ((hO1.below hb2).mono HA.out.size)
  have HP := Lib.hid (hop.mono HB1.out.size)
  have HB := Lib.hid (bT HB1.out hb2)
  have hS2 := hS1.b hb2
  have HI : Hid (PowInv (a ^ n) [1] ps0 n ∧ 0 < val base [1]) := ⟨⟨by rw [val_one, Nat.one_mul, vp], Lim.one (by decide), lp, fun _ => by simp, tp, by rw [vp]; omega⟩, by decide⟩
  clear hO1 hop lp tp vp sp hb2
  go_wp2_with fail
  go_loopw [1, 7, 8] (fun r o p wr => ∃ (m g c g2 c2 : Nat) (zs qs : List Nat), r = .int .i64 (m : Int) ∧ o = sv g zs.length c ∧ p = sv g2 qs.length c2 ∧ m ≤ 66439 ∧ Hid (PowInv (a ^ n) zs qs m ∧ 0 < val base zs) ∧ Hid (Ow wr w.heap.size (sv g zs.length c) zs) ∧ Hid (Ow wr w.heap.size (sv g2 qs.length c2) qs) ∧ Below w.heap.size w wr) (fun r _ _ _ => (intOf r).toNat)
  case atStart => exact ⟨n, _, _, _, _, [1], ps0, rfl, rfl, rfl, hnb, HI.out, HO.out, HP.out, HB.out⟩
  case round =>
    obtain ⟨m, g, c, g2, c2, zs, qs, rfl, rfl, rfl, hm, HI, HO, HP, hbw⟩ := hrel
    rename World => w0
    have hgb := HO.out.capb.2.2.2
    have hgb2 := HP.out.capb.2.2.2
    have hT3 : a ^ n < base ^ K := Nat.lt_of_lt_of_le hT (Nat.pow_le_pow_left (by decide) _)
    by_cases h0 : m = 0
    · subst h0
      have hv : val base zs = a ^ n := by have := HI.out.1.prod; rw [Nat.pow_zero, Nat.mul_one] at this; exact this
      have hzl : zs.length ≤ K := len_of_lt (b := base) (by decide) HI.out.1.tx (by rw [hv]; exact hT3)
      have htx := text_any _ _ _ zs _ HO.out HI.out.1.lx HI.out.1.tx (by omega)
      rw [hv] at htx
      have hdn := nDigits_le hK0 hT
      have hsz : ¬ (20000 : Int) < ((D (a ^ n)).size : Int) := by rw [D_size]; omega
      obtain ⟨T, hTe⟩ : ∃ T, a ^ n = T := ⟨_, rfl⟩
      rw [hTe] at htx hsz
      have HTE := Lib.hid hTe
      clear hv hT hT3 hdn hTe
      go_wp2_with fail
      refine htx.mono ?_
      rintro e w6 ⟨rfl, hb6⟩
      go_wp2
      go_ret2
      rw [HTE.out]
      exact ⟨rfl, bT hbw hb6⟩
    · have hln := HI.out.1.lens hT3 HI.out.2 (by omega)
      have hpos : (0 : Int) < m := by omega
      have hand : bits .and .i64 (m : Int) 1 = (m : Int) % 2 := bits_mask .i64 62 (by decide) (fun n h0 h1 => by rw [IntKind.wrap_i64]; omega) 1 (by decide) m (by omega) (by omega)
      have hti := times_any g 0 c g2 0 c2 zs qs w0 HI.out.1.lx HI.out.1.lp HO.out.rd HP.out.rd (by omega) (by omega)
      have htp := fun W hR => times_any g2 0 c2 g2 0 c2 qs qs W HI.out.1.lp HI.out.1.lp hR hR (by omega) (by omega)
      clear hT hT3
      rcases Nat.mod_two_eq_zero_or_one m with he | ho
      · have hc : ((m : Int) % 2 == 1) = false := by rw [beq_eq_false_iff_ne]; omega
        have hm1 : (1 : Int) < m := by omega
        have hti2 := htp w0 HP.out.rd
        clear hti htp
        go_wp2_with fail
        refine hti2.mono ?_
        rintro e w6 ⟨g3, c3, ts, rfl, ho3, l3, t3, v3, hb6⟩
        have HO6 := Lib.hid (HO.out.below hb6)
        have HP6 := Lib.hid (ho3.mono hbw.size)
        have HI6 : Hid (PowInv (a ^ n) zs ts (m / 2) ∧ 0 < val base zs) := by
          refine ⟨⟨?_, HI.out.1.lx, l3, HI.out.1.tx, t3, by rw [v3]; exact Nat.mul_pos HI.out.1.px HI.out.1.px⟩, HI.out.2⟩
          rw [v3, ← HI.out.1.prod, ← Nat.pow_two, ← Nat.pow_mul, show 2 * (m / 2) = m by omega]
        have HB6 := Lib.hid (bT hbw hb6)
        clear ho3 l3 t3 v3 hb6
        go_wp2
        go_roundw
        case rel => exact ⟨m / 2, g, c, g3, c3, zs, ts, by congr 1, rfl, rfl, by omega, HI6.out, HO6.out, HP6.out, HB6.out⟩
        case measure => simp [intOf]; omega
      · have hc : ((m : Int) % 2 == 1) = true := by rw [beq_iff_eq]; omega
        by_cases h1 : m = 1
        · have hm1 : ¬ (1 : Int) < m := by omega
          clear htp
          have H1' := Lib.hid h1
          clear h1
          go_wp2_with fail
          refine hti.mono ?_
          rintro e w6 ⟨g3, c3, ts, rfl, ho3, l3, t3, v3, hb6⟩
          have HO6 := Lib.hid (ho3.mono hbw.size)
          have HP6 := Lib.hid (HP.out.below hb6)
          have HI6 : Hid (PowInv (a ^ n) ts qs (m / 2) ∧ 0 < val base ts) := by
            refine ⟨⟨?_, l3, HI.out.1.lp, t3, HI.out.1.tp, HI.out.1.px⟩, by rw [v3]; exact Nat.mul_pos HI.out.2 HI.out.1.px⟩
            rw [v3, ← HI.out.1.prod, H1'.out, Nat.pow_zero, Nat.mul_one, Nat.pow_one]
          have HB6 := Lib.hid (bT hbw hb6)
          clear ho3 l3 t3 v3 hb6
          go_wp2
          go_roundw
          case rel => exact ⟨m / 2, g3, c3, g2, c2, ts, qs, by congr 1, rfl, rfl, by omega, HI6.out, HO6.out, HP6.out, HB6.out⟩
          case measure => simp [intOf]; omega
        · have hm1 : (1 : Int) < m := by omega
          go_wp2_with fail
          refine hti.mono ?_
          rintro e w6 ⟨g3, c3, ts, rfl, ho3, l3, t3, v3, hb6⟩
          have hti2 := htp w6 (HP.out.below hb6).rd
          have hg3 := ho3.capb.2.2.2
          have HO6 := Lib.hid (ho3.mono hbw.size)
          have HT := Lib.hid (And.intro l3 (And.intro t3 v3))
          have HB6 := Lib.hid (bT hbw hb6)
          clear ho3 l3 t3 v3 hb6 htp
          go_wp2_with fail
          refine hti2.mono ?_
          rintro e w7 ⟨g4, c4, us, rfl, ho4, l4, t4, v4, hb7⟩
          have HO7 := Lib.hid (HO6.out.below hb7)
          have HP7 := Lib.hid (ho4.mono HB6.out.size)
          have HI7 : Hid (PowInv (a ^ n) ts us (m / 2) ∧ 0 < val base ts) := by
            refine ⟨⟨?_, HT.out.1, l4, HT.out.2.1, t4, by rw [v4]; exact Nat.mul_pos HI.out.1.px HI.out.1.px⟩, by rw [HT.out.2.2]; exact Nat.mul_pos HI.out.2 HI.out.1.px⟩
            rw [v4, HT.out.2.2, ← HI.out.1.prod, ← Nat.pow_two, ← Nat.pow_mul, Nat.mul_assoc, ← Nat.pow_succ', show (2 * (m / 2)).succ = m by omega]
          have HB7 := Lib.hid (bT HB6.out hb7)
          clear ho4 l4 t4 v4 hb7
          go_wp2
          go_roundw
          case rel => exact ⟨m / 2, g3, c3, g4, c4, ts, us, by congr 1, rfl, rfl, by omega, HI7.out, HO7.out, HP7.out, HB7.out⟩
          case measure => simp [intOf]; omega
theorem D_pow_bits {a : Nat} (ha : 2 ≤ a) (ha' : a < 18446744073709551616) : Lib.bitLen a - 1 < 4 * Lib.nDigits a := by
  have h1 := bitLen_pos ha ha'
  have h2 := lt_of_nDigits_le (Nat.le_refl (Lib.nDigits a))
  have h3 : (10 : Nat) ^ Lib.nDigits a ≤ 2 ^ (4 * Lib.nDigits a) := by rw [Nat.pow_mul]; exact Nat.pow_le_pow_left (by decide) _
  have h4 : 2 ^ (Lib.bitLen a - 1) < 2 ^ (4 * Lib.nDigits a) := by omega
  exact (Nat.pow_lt_pow_iff_right (by decide)).1 h4
theorem D_pow_lim (a n : Nat) : a ^ n < 10 ^ (Lib.nDigits a * n + 1) := by
  have h2 := lt_of_nDigits_le (Nat.le_refl (Lib.nDigits a))
  have h3 : a ^ n ≤ (10 ^ Lib.nDigits a) ^ n := Nat.pow_le_pow_left (Nat.le_of_lt h2) n
  rw [← Nat.pow_mul] at h3
  exact Nat.lt_of_le_of_lt h3 (Nat.pow_lt_pow_right (by decide) (by omega))
set_option maxHeartbeats 1600000 in
set_option maxRecDepth 100000 in
/-- whole.Power of a natural number. -/
theorem whole_Power (a n : Nat) (ha : 2 ≤ a) (ha' : a < 18446744073709551616) (hn : n * Lib.nDigits a ≤ 4000) (w : World) (hS : St w) :
    Calls Tryz.prog 16 #[.string (D a), .int .i64 (n : Int)] w fun e w' => e = .returned (.tuple #[.string (D (a ^ n)), .int .i64 0]) ∧ Below w.heap.size w w' := by
  have hsp := fun W => whole_split (a : Int) W
  rw [I_nat, Int.natAbs_natCast, decide_eq_false (show ¬ (a : Int) < 0 by omega)] at hsp
  have hdp := Lib.nDigits_pos a
  have hsz : ((D a).size : Int) = (Lib.nDigits a : Int) := by rw [D_size]
  have hn1 : n ≤ 4000 / Lib.nDigits a := (Nat.le_div_iff_mul_le hdp).2 hn
  have hcast : ((4000 / Lib.nDigits a : Nat) : Int) = (4000 : Int) / (Lib.nDigits a : Int) := Int.natCast_ediv ..
  have hle : 4000 / Lib.nDigits a ≤ 4000 := Nat.div_le_self ..
  have hn2 : ¬ (4000 : Int) / (Lib.nDigits a : Int) < (n : Int) := by rw [← hcast]; omega
  have hs0 : ¬ (D a).size = 0 := by have := D_pos a; omega
  have hjn := fun W hl => whole_join false (a ^ n) W hl
  rw [show sgn false (a ^ n) = ((a ^ n : Nat) : Int) from rfl, I_nat] at hjn
  have hdl : Lib.nDigits (a ^ n) ≤ 4001 := Nat.le_trans (nDigits_le (by omega) (D_pow_lim a n)) (by rw [Nat.mul_comm]; omega)
  have hpw : ∀ W, St W → Calls Tryz.prog 53 #[.string (D a), .int .i64 (n : Int)] W fun e w' => e = .returned (.tuple #[.string (D (a ^ n)), .int .i64 0]) ∧ Below W.heap.size W w' := fun W hW => by
    rcases Nat.eq_zero_or_pos n with h0 | h0
    · subst h0
      go_enter Tryz.func53, Tryz.ntmps53
      go_wp2
      go_ret2
      rw [D_one]
      exact ⟨rfl, Below.refl _ _⟩
    · refine decimal_Power a n ha ha' h0 ?_ (Lib.nDigits a * n + 1) (by omega) (by rw [Nat.mul_comm]; omega) (D_pow_lim a n) W hW
      have h1 := D_pow_bits ha ha'
      have h2 : n * (Lib.bitLen a - 1) ≤ n * (4 * Lib.nDigits a) := Nat.mul_le_mul_left _ (Nat.le_of_lt h1)
      rw [Nat.mul_left_comm] at h2
      omega
  obtain ⟨T, hT⟩ : ∃ T, a ^ n = T := ⟨_, rfl⟩
  rw [hT] at hjn hdl hpw ⊢
  have hn0 : n ≤ 4000 := by omega
  clear hT hcast hn hn1 hle
  go_enter Tryz.func16, Tryz.ntmps16
  go_wp2_with fail; refine ((hsp _)).mono ?_; rintro e w1 ⟨rfl, hb1⟩
  go_wp2_with fail; refine ((hpw _ (hS.b hb1))).mono ?_; rintro e w2 ⟨rfl, hb2⟩
  go_wp2_with fail; refine ((hjn _ (by omega))).mono ?_; rintro e w3 ⟨rfl, hb3⟩
  go_wp2
  go_ret2
  exact ⟨rfl, bT hb1 (bT hb2 hb3)⟩
end Go.Proofs.YtbihoedcbmnccaaGreatDoor
/- fraction: little, both. -/
namespace Go.Proofs.YtbihoedcbmnccaaGreatDoor
open Go.RowKit

/-- The value of a fraction with these texts. -/
def R (n d : Int) : Value := .agg #[.string (I n), .string (I d)]
/-- The value of a rational number. -/
def Rv (q : Rat) : Value := .agg #[.string (I q.num), .string (D q.den)]
theorem Rv_eq (q : Rat) : Rv q = R q.num q.den := by unfold Rv R; rw [I_nat]
/-- A block with two cells. -/
structure Bx (w : World) (b : Nat) (x y : Value) : Prop where
  lt : b < w.heap.size
  c0 : w.cell? ⟨b, 0, none⟩ = some x
  c1 : w.cell? ⟨b, 1, none⟩ = some y
theorem Bx.b {w w1 : World} {b : Nat} {x y : Value} (h : Bx w b x y) (hb : Below w.heap.size w w1) : Bx w1 b x y :=
  ⟨Nat.lt_of_lt_of_le h.lt hb.size, ((bcell hb).1 b 0 h.lt).trans h.c0, ((bcell hb).1 b 1 h.lt).trans h.c1⟩
theorem Bx.new (w : World) (s t : ByteArray) (ty : TypeId) : Bx (w.alloc (.cells #[.string s, .string t] ty)) w.heap.size (.string s) (.string t) := by
  refine ⟨by simp, ?_, ?_⟩ <;> simp
set_option maxHeartbeats 400000 in
theorem flittle_yes (n : Int) (h : ((I n).size : Int) ≤ 9) (w : World) :
    Calls Tryz.prog 145 #[.string (I n)] w fun e w' => e = .returned (.tuple #[.int .i64 n, .bool true]) ∧ Below w.heap.size w w' := by
  have hz := I_lim9 (show (I n).size ≤ 9 by omega)
  go_enter Tryz.func145, Tryz.ntmps145
  go_wp2_with fail
  refine (Tryz.strconv_Atoi_ok (I n) (by omega) n (atoiAll_I (by omega) (by omega)) w).mono ?_
  rintro e w1 ⟨rfl, hb⟩
  have hb1 : Below w.heap.size w w1 := by
    rcases hb with rfl | ⟨t, rfl⟩
    · exact Below.refl _ _
    · exact bytes_b _ _ _
  clear hb
  go_wp2
  go_region
  all_goals (try go_wp2)
  all_goals (go_ret2; exact ⟨rfl, hb1.drew⟩)
theorem flittle_no (n : Int) (h : 9 < ((I n).size : Int)) (w : World) :
    Calls Tryz.prog 145 #[.string (I n)] w fun e w' => e = .returned (.tuple #[.int .i64 0, .bool false]) ∧ Below w.heap.size w w' := by
  go_enter Tryz.func145, Tryz.ntmps145
  go_wp2
  go_ret2; exact ⟨rfl, Below.refl _ _⟩
set_option maxHeartbeats 800000 in
theorem frac_both (n d : Int) (h : ((I n).size : Int) ≤ 9) (h2 : ((I d).size : Int) ≤ 9) (w : World) :
    Calls Tryz.prog 85 #[R n d] w fun e w' => e = .returned (.tuple #[.int .i64 n, .int .i64 d, .bool true]) ∧ Below w.heap.size w w' := by
  unfold R
  have hB := Bx.new w (I n) (I d) 42
  have HA := Lib.hid ((Below.refl w.heap.size w).alloc (Nat.le_refl _) (.cells #[.string (I n), .string (I d)] 42))
  go_enter Tryz.func85, Tryz.ntmps85
  go_wp2_with fail
  generalize w.alloc (.cells #[.string (I n), .string (I d)] 42) = W at hB HA ⊢
  refine (flittle_yes n h _).mono ?_
  rintro e w1 ⟨rfl, hb1⟩
  have hB1 := hB.b hb1
  have c1 := hB1.c1
  have HB1 := Lib.hid (bT HA.out hb1)
  clear hB hb1 hB1
  go_wp2_with fail; refine ((flittle_yes d h2 _)).mono ?_; rintro e w2 ⟨rfl, hb2⟩
  go_wp2
  go_ret3
  exact ⟨rfl, bT HB1.out hb2⟩
set_option maxHeartbeats 800000 in
theorem frac_both_no (n d : Int) (h : ¬ (((I n).size : Int) ≤ 9 ∧ ((I d).size : Int) ≤ 9)) (w : World) :
    Calls Tryz.prog 85 #[R n d] w fun e w' => ∃ x y, e = .returned (.tuple #[.int .i64 x, .int .i64 y, .bool false]) ∧ Below w.heap.size w w' := by
  unfold R
  have hB := Bx.new w (I n) (I d) 42
  have HA := Lib.hid ((Below.refl w.heap.size w).alloc (Nat.le_refl _) (.cells #[.string (I n), .string (I d)] 42))
  have hc : (9 < ((I n).size : Int)) ∨ (((I n).size : Int) ≤ 9 ∧ 9 < ((I d).size : Int)) := by omega
  clear h
  have hld : ∃ (y : Int) (g : Bool), (∀ W, Calls Tryz.prog 145 #[.string (I d)] W fun e w' => e = .returned (.tuple #[.int .i64 y, .bool g]) ∧ Below W.heap.size W w') ∧ (9 < ((I d).size : Int) → g = false) := by
    by_cases hd : 9 < ((I d).size : Int)
    · exact ⟨0, false, fun W => flittle_no d hd W, fun _ => rfl⟩
    · exact ⟨d, true, fun W => flittle_yes d (by omega) W, fun hh => absurd hh hd⟩
  obtain ⟨y, g, hld, hg⟩ := hld
  rcases hc with h1 | ⟨h1, h2⟩
  · clear hg
    go_enter Tryz.func85, Tryz.ntmps85
    go_wp2_with fail
    generalize w.alloc (.cells #[.string (I n), .string (I d)] 42) = W at hB HA ⊢
    refine (flittle_no n h1 _).mono ?_
    rintro e w1 ⟨rfl, hb1⟩
    have hB1 := hB.b hb1
    have c1 := hB1.c1
    have HB1 := Lib.hid (bT HA.out hb1)
    clear hB hb1 hB1
    go_wp2_with fail; refine ((hld _)).mono ?_; rintro e w2 ⟨rfl, hb2⟩
    go_wp2
    go_ret3
    exact ⟨_, _, rfl, bT HB1.out hb2⟩
  · obtain rfl := hg h2
    go_enter Tryz.func85, Tryz.ntmps85
    go_wp2_with fail
    generalize w.alloc (.cells #[.string (I n), .string (I d)] 42) = W at hB HA ⊢
    refine (flittle_yes n h1 _).mono ?_
    rintro e w1 ⟨rfl, hb1⟩
    have hB1 := hB.b hb1
    have c1 := hB1.c1
    have HB1 := Lib.hid (bT HA.out hb1)
    clear hB hb1 hB1
    go_wp2_with fail; refine ((hld _)).mono ?_; rintro e w2 ⟨rfl, hb2⟩
    go_wp2
    go_ret3
    exact ⟨_, _, rfl, bT HB1.out hb2⟩
end Go.Proofs.YtbihoedcbmnccaaGreatDoor
/- Boxed structs: a block of cells that a call owns; the end of a function whose result lies in such a block. -/
namespace Go.Proofs.YtbihoedcbmnccaaGreatDoor
open Go.RowKit

/-- A block of cells of a call's own (no older than B). -/
def Bo (w : World) (B b : Nat) (ty : TypeId) (vs : List Value) : Prop := vs.length ≤ maxLen ∧ w.ownsRow B ty 1 (.slice (some ⟨b, 0, none⟩) vs.length vs.length) vs.length vs
theorem Bo.new (w : World) (ty : TypeId) (cs : Array Value) (h : cs.size ≤ maxLen) : Bo (w.alloc (.cells cs ty)) w.heap.size w.heap.size ty cs.toList := by
  refine ⟨by simpa using h, by simp, .inr ⟨w.heap.size, cs.size, cs, by simp, Nat.le_refl _, Array.getElem?_push_size, by simp, h, by simp, ?_⟩⟩
  rw [Nat.mul_one]; exact List.take_of_length_le (Nat.le_refl _)
theorem Bo.cell {w : World} {B b : Nat} {ty : TypeId} {vs : List Value} (h : Bo w B b ty vs) (j : Nat) (hj : j < vs.length) : w.cell? ⟨b, j, none⟩ = some vs[j] := by
  rw [World.ownsRow.cellAt h.2 j (by omega), List.getElem?_eq_getElem hj]
theorem Bo.fz {w : World} {B b : Nat} {ty : TypeId} {vs : List Value} (h : Bo w B b ty vs) (j : Nat) : w.frozen? ⟨b, j, none⟩ = false := World.ownsRow.frozenAt h.2 j
theorem Bo.lt {w : World} {B b : Nat} {ty : TypeId} {vs : List Value} (h : Bo w B b ty vs) : B ≤ b ∧ b < w.heap.size := World.ownsRow.lt h.2 b rfl
theorem Bo.put {w : World} {B b : Nat} {ty : TypeId} {vs : List Value} (h : Bo w B b ty vs) (j : Nat) (u : Value) : Bo (w.setCell ⟨b, j, none⟩ u) B b ty (vs.set j u) := by
  refine ⟨by rw [List.length_set]; exact h.1, ?_⟩
  rw [List.length_set]; exact (World.ownsRow.stored h.2 j u).1
theorem Bo.putg {w : World} {B b : Nat} {ty : TypeId} {vs : List Value} (h : Bo w B b ty vs) (j : Nat) (u : Value) : w.grownBy (w.setCell ⟨b, j, none⟩ u) (some b) := (World.ownsRow.stored h.2 j u).2
theorem Bo.below {w w' : World} {B b : Nat} {ty : TypeId} {vs : List Value} (h : Bo w B b ty vs) (hb : Below w.heap.size w w') : Bo w' B b ty vs :=
  ⟨h.1, h.2.kept (row := none) ⟨hb.os, hb.tape, hb.output, hb.size, fun i hi _ => hb.block i hi⟩ (by simp [Value.ownBlock])⟩
theorem Bo.keptG {w w' : World} {B b : Nat} {ty : TypeId} {vs : List Value} (h : Bo w B b ty vs) {r : Option Nat} (hg : w.grownBy w' r) (hne : some b ≠ r) : Bo w' B b ty vs :=
  ⟨h.1, h.2.kept hg (.inr (by simpa [Value.ownBlock] using hne))⟩
theorem Bo.mono {w : World} {B B' b : Nat} {ty : TypeId} {vs : List Value} (h : Bo w B b ty vs) (hB : B' ≤ B) : Bo w B' b ty vs := by
  refine ⟨h.1, h.2.1, ?_⟩
  rcases h.2.2 with ⟨e, _⟩ | ⟨g', cap', cur, e, h1, h2⟩
  · cases e
  · exact .inr ⟨g', cap', cur, e, Nat.le_trans hB h1, h2⟩
theorem Bo.heap {w : World} {B b : Nat} {ty : TypeId} {vs : List Value} (h : Bo w B b ty vs) : w.heap[b]? = some (.cells vs.toArray ty) := by
  rcases h.2.2 with ⟨e, _⟩ | ⟨g', cap', cur, e, h1, h2, h3, h4, h5, h6⟩
  · cases e
  · cases e
    rw [h2]
    congr 2
    rw [← h6, Nat.mul_one, List.take_of_length_le (by rw [Array.length_toList, h5]; omega)]
theorem box_ret {P : Program} {fn : Func} {R : Ending → World → Prop} {a : Act} {w : World} {p : Tmp} {ty : TypeId} {B b : Nat} {vs : List Value} {d : TypeDesc} (h : fn.results = #[.cell p ty])
    (hp : a.tmps.getD p undef = .pointer (some ⟨b, 0, none⟩)) (hb : Bo w B b ty vs)
    (hu : P.underlying ty = some d) (hd : (match d with | .struct _ | .array _ _ => true | _ => false) = true) (hi : (P.info? ty).map (·.size) = some vs.length) (hf : a.defers = [])
    (hR : R (.returned (.agg vs.toArray)) w) : bodyPost P fn R .ret a w :=
  bodyPost_ret (results_cell_row h a.tmps w b ty vs.toArray _ d hp hb.heap hu hd (by simpa using hi)) hf hR
theorem sizeRat : (Tryz.prog.info? 42).map (·.size) = some 2 := by kernel_rfl
end Go.Proofs.YtbihoedcbmnccaaGreatDoor
/- fraction: lowest, of. -/
namespace Go.Proofs.YtbihoedcbmnccaaGreatDoor
open Go.RowKit

theorem nd_divI (a : Int) (b : Int) : nd (a.tdiv b) ≤ nd a := by unfold nd; rw [Int.natAbs_tdiv]; exact nd_div _ _
theorem nd_zero : nd 0 = 1 := by unfold nd; rw [Int.natAbs_zero, ← D_size, D_zero]; rfl
theorem nd_pos (n : Int) : 0 < nd n := Lib.nDigits_pos _
theorem nd_div_gcd (a b : Int) : nd (a / (Int.gcd a b : Int)) ≤ nd a := by
  obtain ⟨k, hk⟩ := Int.gcd_dvd_left (a := a) (b := b)
  generalize Int.gcd a b = g at hk ⊢
  rcases Nat.eq_zero_or_pos g with h | h
  · rw [h, Int.natCast_zero, Int.ediv_zero]; exact Nat.le_trans (Nat.le_of_eq nd_zero) (nd_pos a)
  · have e : a / (g : Int) = k := by
      rw [hk]
      exact Int.mul_ediv_cancel_left _ (by omega)
    rw [e]
    unfold nd
    apply nDigits_mono
    conv => rhs; rw [hk]
    rw [Int.natAbs_mul, Int.natAbs_natCast]
    exact Nat.le_mul_of_pos_left _ h
theorem nd_gcdI {a b : Int} (hb : b ≠ 0) : Lib.nDigits (Int.gcd a b) ≤ nd b := by
  unfold nd
  apply nDigits_mono
  exact Nat.le_of_dvd (by omega) (Nat.gcd_dvd_right _ _)
theorem gcd_ne {a b : Int} (h : ¬ Int.gcd a b = 0) : 0 < Int.gcd a b := by omega
/-- The state before the last store of a function that makes a fraction. -/
theorem low_end {w w2 : World} {b : Nat} {x y : ByteArray} {x0 y0 : Value} (hB : Bo w2 w.heap.size b 42 [x0, y0]) (hb : Below w.heap.size w w2) :
    Bo ((w2.setCell ⟨b, 0, none⟩ (.string x)).setCell ⟨b, 1, none⟩ (.string y)) w.heap.size b 42 [.string x, .string y] ∧ Below w.heap.size w ((w2.setCell ⟨b, 0, none⟩ (.string x)).setCell ⟨b, 1, none⟩ (.string y)) := by
  refine ⟨(hB.put 0 (.string x)).put 1 (.string y), ?_⟩
  have h1 := belowG hb (hB.putg 0 (.string x)) hb.size (fun g hg => by cases hg; exact hB.lt.1)
  exact belowG h1 ((hB.put 0 (.string x)).putg 1 (.string y)) h1.size (fun g hg => by cases hg; exact hB.lt.1)
set_option maxHeartbeats 1600000 in
set_option maxRecDepth 100000 in
/-- lowest, at a positive denominator. -/
theorem lowest_pos (n d : Int) (hd : 0 < d) (hn : nd n ≤ 400000) (hdd : nd d ≤ 400000) (w : World) (hS : St w) :
    Calls Tryz.prog 97 #[.string (I n), .string (I d)] w fun e w' => e = .returned (R (n / (Int.gcd n d : Int)) (d / (Int.gcd n d : Int))) ∧ Below w.heap.size w w' := by
  unfold R
  have hgd := nd_gcdI (a := n) (show d ≠ 0 by omega)
  have hgp : 0 < Int.gcd n d := Int.gcd_pos_of_ne_zero_right _ (by omega)
  have hgc := fun W hW => whole_Gcd n d (by omega) (by omega) W hW
  have hsg := fun W => whole_Sign d W
  rw [Int.sign_eq_one_of_pos hd] at hsg
  obtain ⟨g, hg⟩ : ∃ g, Int.gcd n d = g := ⟨_, rfl⟩
  rw [hg] at hgd hgp hgc ⊢
  clear hg
  have hl : ((D g).toList == [49]) = decide (g = 1) := by have hl := list_D g 1; rw [D_one, ba_list ⟨#[49]⟩] at hl; exact hl
  have hB := Bo.new w 42 #[.string ⟨#[]⟩, .string ⟨#[]⟩] (by decide)
  have HA := Lib.hid ((Below.refl w.heap.size w).alloc (Nat.le_refl _) (.cells #[.string ⟨#[]⟩, .string ⟨#[]⟩] 42))
  by_cases h1 : g = 1
  · rw [decide_eq_true h1] at hl
    have HE : Hid (n / (g : Int) = n ∧ d / (g : Int) = d) := by rw [h1]; exact ⟨Int.ediv_one _, Int.ediv_one _⟩
    clear h1
    go_enter Tryz.func97, Tryz.ntmps97
    go_wp2_with fail
    generalize w.alloc (.cells #[.string ⟨#[]⟩, .string ⟨#[]⟩] 42) = W at hB HA ⊢
    refine (hsg _).mono ?_
    rintro e w1 ⟨rfl, hb1⟩
    go_wp2_with fail; refine ((hgc _ ((hS.b HA.out).b hb1))).mono ?_; rintro e w2 ⟨rfl, hb2⟩
    have hB2 := (hB.below hb1).below hb2
    have hg : Below w.heap.size w w2 := bT HA.out (bT hb1 hb2)
    have c0 := hB2.cell 0 (by decide)
    have c1 := hB2.cell 1 (by decide)
    have f0 := hB2.fz 0
    have f1 := hB2.fz 1
    have hlt := hB2.lt.2
    have HE2 := Lib.hid (low_end (x := I n) (y := I d) hB2 hg)
    clear hB hB2 hb1 hb2
    go_wp2
    refine box_ret rfl rfl HE2.out.1 Tryz.underlying42 rfl sizeRat rfl ?_
    rw [HE.out.1, HE.out.2]
    exact ⟨rfl, HE2.out.2⟩
  · rw [decide_eq_false h1] at hl
    clear h1
    have hd1 := fun W hW => whole_DivMod n (g : Int) (by omega) hn (by rw [nd_nat]; omega) W hW
    have hd2 := fun W hW => whole_DivMod d (g : Int) (by omega) hdd (by rw [nd_nat]; omega) W hW
    rw [I_nat g] at hd1 hd2
    go_enter Tryz.func97, Tryz.ntmps97
    go_wp2_with fail
    generalize w.alloc (.cells #[.string ⟨#[]⟩, .string ⟨#[]⟩] 42) = W at hB HA ⊢
    refine (hsg _).mono ?_
    rintro e w1 ⟨rfl, hb1⟩
    go_wp2_with fail; refine ((hgc _ ((hS.b HA.out).b hb1))).mono ?_; rintro e w2 ⟨rfl, hb2⟩
    go_wp2_with fail; refine ((hd1 _ (((hS.b HA.out).b hb1).b hb2))).mono ?_; rintro e w3 ⟨rfl, hb3⟩
    go_wp2_with fail; refine ((hd2 _ ((((hS.b HA.out).b hb1).b hb2).b hb3))).mono ?_; rintro e w4 ⟨rfl, hb4⟩
    have hB2 := (((hB.below hb1).below hb2).below hb3).below hb4
    have hg : Below w.heap.size w w4 := bT HA.out (bT hb1 (bT hb2 (bT hb3 hb4)))
    have c0 := hB2.cell 0 (by decide)
    have c1 := hB2.cell 1 (by decide)
    have f0 := hB2.fz 0
    have f1 := hB2.fz 1
    have hlt := hB2.lt.2
    have HE2 := Lib.hid (low_end (x := I (n / (g : Int))) (y := I (d / (g : Int))) hB2 hg)
    clear hB hB2 hb1 hb2 hb3 hb4
    go_wp2
    refine box_ret rfl rfl HE2.out.1 Tryz.underlying42 rfl sizeRat rfl ?_
    exact ⟨rfl, HE2.out.2⟩
end Go.Proofs.YtbihoedcbmnccaaGreatDoor
/- fraction: of, New, Of; rational numbers. -/
namespace Go.Proofs.YtbihoedcbmnccaaGreatDoor
open Go.RowKit

theorem itoa (n : Int) (h0 : -9223372036854775808 ≤ n) (h1 : n ≤ 9223372036854775807) (w : World) (hS : St w) :
    Calls Tryz.prog 116 #[.int .i64 n] w fun e w' => e = .returned (.string (I n)) ∧ Below w.heap.size w w' := by
  refine (Tryz.strconv_Itoa n h0 h1 w hS.pow).mono ?_
  rintro e w1 ⟨rfl, k, os, rfl⟩
  exact ⟨rfl, grow_below w k os⟩
theorem R_divInt (n d : Int) (hd : 0 < d) : R (n / (Int.gcd n d : Int)) (d / (Int.gcd n d : Int)) = Rv (Rat.divInt n d) := by
  rw [Rv_eq, Rat.num_divInt, Rat.den_divInt, if_neg (by omega), Int.sign_eq_one_of_pos hd, Int.one_mul, Int.gcd_comm d n, Int.natCast_ediv, Int.natAbs_of_nonneg (by omega)]
theorem fraction_lowest (n d : Int) (hd : 0 < d) (hn : nd n ≤ 400000) (hdd : nd d ≤ 400000) (w : World) (hS : St w) :
    Calls Tryz.prog 97 #[.string (I n), .string (I d)] w fun e w' => e = .returned (Rv (Rat.divInt n d)) ∧ Below w.heap.size w w' := by
  rw [← R_divInt n d hd]; exact lowest_pos n d hd hn hdd w hS
/-- The state after the whole of a fraction is stored. -/
theorem rat_end {w w2 : World} {b : Nat} {x0 y0 : Value} (q : Rat) (hB : Bo w2 w.heap.size b 42 [x0, y0]) (hb : Below w.heap.size w w2) :
    Bo ((w2.setCell ⟨b, 0, none⟩ (.string (I q.num))).setCell ⟨b, 1, none⟩ (.string (D q.den))) w.heap.size b 42 [.string (I q.num), .string (D q.den)] ∧ Below w.heap.size w ((w2.setCell ⟨b, 0, none⟩ (.string (I q.num))).setCell ⟨b, 1, none⟩ (.string (D q.den))) := low_end hB hb
theorem gcd_abs_step (m n : Int) : Int.gcd n (m.tmod n) = Int.gcd m n := by
  show Nat.gcd n.natAbs (m.tmod n).natAbs = Nat.gcd m.natAbs n.natAbs
  rw [Int.natAbs_tmod, Nat.gcd_comm n.natAbs, ← Nat.gcd_rec, Nat.gcd_comm]
theorem tmod_abs (m n : Int) (h : n ≠ 0) : (m.tmod n).natAbs < n.natAbs := by
  rw [Int.natAbs_tmod]; exact Nat.mod_lt _ (by omega)
theorem gcd_le_left {m n : Int} (h : n ≠ 0) : Int.gcd m n ≤ n.natAbs := Nat.le_of_dvd (by omega) (Nat.gcd_dvd_right _ _)
set_option maxHeartbeats 1600000 in
set_option maxRecDepth 100000 in
theorem fraction_of (n d : Int) (hd : 0 < d) (hn : -4000000000000000000 ≤ n ∧ n ≤ 4000000000000000000) (hdd : d ≤ 4000000000000000000) (w : World) (hS : St w) :
    Calls Tryz.prog 96 #[.int .i64 n, .int .i64 d] w fun e w' => e = .returned (Rv (Rat.divInt n d)) ∧ Below w.heap.size w w' := by
  rw [← R_divInt n d hd]
  unfold R
  have hgp : 0 < Int.gcd n d := Int.gcd_pos_of_ne_zero_right _ (by omega)
  have hgl := gcd_le_left (m := n) (show d ≠ 0 by omega)
  have hgdn : (Int.gcd n d : Int) ∣ n := Int.gcd_dvd_left ..
  have hgdd : (Int.gcd n d : Int) ∣ d := Int.gcd_dvd_right ..
  obtain ⟨g, hg⟩ : ∃ g, Int.gcd n d = g := ⟨_, rfl⟩
  rw [hg] at hgp hgl hgdn hgdd ⊢
  have hqn : n.tdiv (g : Int) = n / (g : Int) := Int.tdiv_eq_ediv_of_dvd hgdn
  have hqd : d.tdiv (g : Int) = d / (g : Int) := Int.tdiv_eq_ediv_of_dvd hgdd
  have hln := Int.natAbs_tdiv_le_natAbs n (g : Int)
  have hld := Int.natAbs_tdiv_le_natAbs d (g : Int)
  rw [hqn] at hln
  rw [hqd] at hld
  obtain ⟨x, hx⟩ : ∃ x, n / (g : Int) = x := ⟨_, rfl⟩
  obtain ⟨y, hy⟩ : ∃ y, d / (g : Int) = y := ⟨_, rfl⟩
  rw [hx] at hqn hln ⊢
  rw [hy] at hqd hld ⊢
  clear hx hy hgdn hgdd
  have hwx : IntKind.i64.wrap x = x := by rw [IntKind.wrap_i64]; omega
  have hwy : IntKind.i64.wrap y = y := by rw [IntKind.wrap_i64]; omega
  have HQ := Lib.hid (And.intro hqn hqd)
  clear hqn hqd
  have HG := Lib.hid hg
  clear hg
  have hB := Bo.new w 42 #[.string ⟨#[]⟩, .string ⟨#[]⟩] (by decide)
  have HA := Lib.hid ((Below.refl w.heap.size w).alloc (Nat.le_refl _) (.cells #[.string ⟨#[]⟩, .string ⟨#[]⟩] 42))
  go_enter Tryz.func96, Tryz.ntmps96
  go_wp2_with fail
  generalize w.alloc (.cells #[.string ⟨#[]⟩, .string ⟨#[]⟩] 42) = W at hB HA ⊢
  go_loopw [5, 6] (fun a b wr => ∃ (p q : Int) (k : Nat), a = .int .i64 p ∧ b = .int .i64 q ∧ Hid (Int.gcd p q = g) ∧ (-4000000000000000000 ≤ p ∧ p ≤ 4000000000000000000) ∧ (-4000000000000000000 ≤ q ∧ q ≤ 4000000000000000000) ∧ wr = W.drewN k) (fun _ b _ => (intOf b).natAbs)
  case atStart => exact ⟨n, d, 0, rfl, rfl, HG.out, hn, by omega, rfl⟩
  case round =>
    obtain ⟨p, q, k, rfl, rfl, HI, hp, hq, rfl⟩ := hrel
    by_cases h0 : q = 0
    · have hpg : p.natAbs = g := by have := HI.out; rw [h0, Int.gcd_zero_right] at this; exact this
      have hz : (q != 0) = false := by rw [h0]; rfl
      have HBk := Lib.hid (below_drewN (Below.refl W.heap.size W) k)
      have hBk := hB.below HBk.out
      have hSk := (hS.b HA.out).b HBk.out
      have HAk := Lib.hid (bT HA.out HBk.out)
      clear h0
      generalize W.drewN k = V at hBk hSk HAk ⊢
      have hqn := HQ.out.1
      have hqd := HQ.out.2
      rcases Int.lt_or_le p 0 with hneg | hneg
      · have e : -p = (g : Int) := by omega
        go_wp2
        have hSd := hSk.drew
        have hBd := hBk.below (Below.refl _ _).drew
        have HAd := Lib.hid (bT HAk.out (Below.refl _ _).drew)
        go_region_with (go_at_call 116; refine (itoa _ (by omega) (by omega) _ (by first | exact hSd | exact St.b hSd (by assumption))).mono ?_; rintro e w' ⟨rfl, hbx⟩; have hBx := Bo.below (by assumption) hbx; have c0 := hBx.cell 0 (by decide); have c1 := hBx.cell 1 (by decide); have f0 := hBx.fz 0; have f1 := hBx.fz 1; have hlt := hBx.lt.2)
        all_goals (have HE2 := Lib.hid (low_end (x := I x) (y := I y) (by assumption) (bT HAd.out (bT (by assumption) (by assumption)))); go_wp2; refine box_ret rfl rfl HE2.out.1 Tryz.underlying42 rfl sizeRat rfl ?_; exact ⟨rfl, HE2.out.2⟩)
      · obtain rfl : p = (g : Int) := by omega
        have hneg' : ¬ (g : Int) < 0 := by omega
        go_wp2
        have hSd := hSk.drew
        have hBd := hBk.below (Below.refl _ _).drew
        have HAd := Lib.hid (bT HAk.out (Below.refl _ _).drew)
        go_region_with (go_at_call 116; refine (itoa _ (by omega) (by omega) _ (by first | exact hSd | exact St.b hSd (by assumption))).mono ?_; rintro e w' ⟨rfl, hbx⟩; have hBx := Bo.below (by assumption) hbx; have c0 := hBx.cell 0 (by decide); have c1 := hBx.cell 1 (by decide); have f0 := hBx.fz 0; have f1 := hBx.fz 1; have hlt := hBx.lt.2)
        all_goals (have HE2 := Lib.hid (low_end (x := I x) (y := I y) (by assumption) (bT HAd.out (bT (by assumption) (by assumption)))); go_wp2; refine box_ret rfl rfl HE2.out.1 Tryz.underlying42 rfl sizeRat rfl ?_; exact ⟨rfl, HE2.out.2⟩)
    · have hz : (q != 0) = true := by rw [bne_iff_ne]; exact h0
      have hg : Int.gcd q (p.tmod q) = g := by rw [gcd_abs_step]; exact HI.out
      have hl := tmod_abs p q h0
      obtain ⟨r, hr⟩ : ∃ r, p.tmod q = r := ⟨_, rfl⟩
      rw [hr] at hg hl
      have HG2 := Lib.hid hg
      clear hg
      go_wp2
      go_region
      all_goals go_wp2
      all_goals go_roundw
      case rel => exact ⟨q, r, k + 1, rfl, rfl, HG2.out, hq, by omega, rfl⟩
      case measure => simp [intOf]; omega
end Go.Proofs.YtbihoedcbmnccaaGreatDoor
/- fraction: Mul. -/
namespace Go.Proofs.YtbihoedcbmnccaaGreatDoor
attribute [local go_sem ↓] Go.wp_at_zero Go.wp_at_succ
open Go.RowKit

theorem R_D (n : Int) (d : Nat) : R n d = .agg #[.string (I n), .string (D d)] := by unfold R; rw [I_nat]
theorem rat_both (q : Rat) (h : ((I q.num).size : Int) ≤ 9) (h2 : ((D q.den).size : Int) ≤ 9) (w : World) :
    Calls Tryz.prog 85 #[Rv q] w fun e w' => e = .returned (.tuple #[.int .i64 q.num, .int .i64 (q.den : Int), .bool true]) ∧ Below w.heap.size w w' := by
  rw [Rv_eq]; exact frac_both q.num q.den h (by rw [I_nat]; exact h2) w
theorem rat_both_no (q : Rat) (h : ¬ (((I q.num).size : Int) ≤ 9 ∧ ((D q.den).size : Int) ≤ 9)) (w : World) :
    Calls Tryz.prog 85 #[Rv q] w fun e w' => ∃ x y, e = .returned (.tuple #[.int .i64 x, .int .i64 y, .bool false]) ∧ Below w.heap.size w w' := by
  rw [Rv_eq]; exact frac_both_no q.num q.den (by rw [I_nat]; exact h) w
theorem whole_MulD (a b : Nat) (ha : Lib.nDigits a ≤ 400000) (hb : Lib.nDigits b ≤ 400000) (w : World) (hS : St w) :
    Calls Tryz.prog 87 #[.string (D a), .string (D b)] w fun e w' => e = .returned (.string (D (a * b))) ∧ Below w.heap.size w w' := by
  have h := whole_Mul a b (by rw [nd_nat]; exact ha) (by rw [nd_nat]; exact hb) w hS
  rw [I_nat, I_nat, ← Int.natCast_mul, I_nat] at h; exact h
theorem whole_MulID (a : Int) (b : Nat) (ha : nd a ≤ 400000) (hb : Lib.nDigits b ≤ 400000) (w : World) (hS : St w) :
    Calls Tryz.prog 87 #[.string (I a), .string (D b)] w fun e w' => e = .returned (.string (I (a * b))) ∧ Below w.heap.size w w' := by
  have h := whole_Mul a b ha (by rw [nd_nat]; exact hb) w hS
  rw [I_nat] at h; exact h
theorem lowestD (n : Int) (d : Nat) (hd : 0 < d) (hn : nd n ≤ 400000) (hdd : Lib.nDigits d ≤ 400000) (w : World) (hS : St w) :
    Calls Tryz.prog 97 #[.string (I n), .string (D d)] w fun e w' => e = .returned (Rv (Rat.divInt n d)) ∧ Below w.heap.size w w' := by
  have h := fraction_lowest n d (by omega) hn (by rw [nd_nat]; exact hdd) w hS
  rw [I_nat] at h; exact h
/-- Three blocks of two cells. -/
structure B3 (w : World) (B b : Nat) (s t s' t' : ByteArray) : Prop where
  one : Bo w B b 42 [.string s, .string t]
  two : Bo w B (b + 1) 42 [.string s', .string t']
  out : ∃ x y, Bo w B (b + 1 + 1) 42 [x, y]
theorem B3.below {w w' : World} {B b : Nat} {s t s' t' : ByteArray} (h : B3 w B b s t s' t') (hb : Below w.heap.size w w') : B3 w' B b s t s' t' :=
  ⟨h.one.below hb, h.two.below hb, let ⟨x, y, ho⟩ := h.out; ⟨x, y, ho.below hb⟩⟩
theorem B3.new (w : World) (s t s' t' : ByteArray) : B3 (((w.alloc (.cells #[.string s, .string t] 42)).alloc (.cells #[.string s', .string t'] 42)).alloc (.cells #[.string ⟨#[]⟩, .string ⟨#[]⟩] 42)) w.heap.size w.heap.size s t s' t' := by
  have a1 := Bo.new w 42 #[.string s, .string t] (by show 2 ≤ maxLen; decide)
  have e1 : (w.alloc (.cells #[.string s, .string t] 42)).heap.size = w.heap.size + 1 := by simp
  generalize w.alloc (.cells #[.string s, .string t] 42) = W at a1 e1 ⊢
  have a2 := Bo.new W 42 #[.string s', .string t'] (by show 2 ≤ maxLen; decide)
  have b2 : Below W.heap.size W (W.alloc (.cells #[.string s', .string t'] 42)) := (Below.refl _ _).alloc (Nat.le_refl _) _
  have e2 : (W.alloc (.cells #[.string s', .string t'] 42)).heap.size = W.heap.size + 1 := by simp
  generalize W.alloc (.cells #[.string s', .string t'] 42) = V at a2 b2 e2 ⊢
  have a3 := Bo.new V 42 #[.string ⟨#[]⟩, .string ⟨#[]⟩] (by decide)
  have b3 : Below V.heap.size V (V.alloc (.cells #[.string ⟨#[]⟩, .string ⟨#[]⟩] 42)) := (Below.refl _ _).alloc (Nat.le_refl _) _
  rw [e2, e1] at a3
  rw [e1] at a2
  exact ⟨((a1.below b2).below b3), ((a2.mono (by omega)).below b3), ⟨_, _, a3.mono (by omega)⟩⟩
theorem below3 (w : World) (s t s' t' : ByteArray) : Below w.heap.size w (((w.alloc (.cells #[.string s, .string t] 42)).alloc (.cells #[.string s', .string t'] 42)).alloc (.cells #[.string ⟨#[]⟩, .string ⟨#[]⟩] 42)) :=
  bT ((Below.refl _ _).alloc (Nat.le_refl _) _) (bT ((Below.refl _ _).alloc (Nat.le_refl _) _) ((Below.refl _ _).alloc (Nat.le_refl _) _))
/-- What holds at each world of a walk that began at w: its three blocks, the library's variables, what lay before. -/
structure K3 (w W : World) (s t s' t' : ByteArray) : Prop where
  b3 : B3 W w.heap.size w.heap.size s t s' t'
  s0 : St w
  be : Below w.heap.size w W
theorem K3.st {w W : World} {s t s' t' : ByteArray} (h : K3 w W s t s' t') : St W := h.s0.b h.be
theorem K3.below {w W V : World} {s t s' t' : ByteArray} (h : K3 w W s t s' t') (hb : Below W.heap.size W V) : K3 w V s t s' t' := ⟨h.b3.below hb, h.s0, bT h.be hb⟩
theorem K3.put {w W : World} {s t s' t' : ByteArray} (h : K3 w W s t s' t') (x y : ByteArray) : K3 w ((W.setCell ⟨w.heap.size + 1 + 1, 0, none⟩ (.string x)).setCell ⟨w.heap.size + 1 + 1, 1, none⟩ (.string y)) s t s' t' ∧ Bo ((W.setCell ⟨w.heap.size + 1 + 1, 0, none⟩ (.string x)).setCell ⟨w.heap.size + 1 + 1, 1, none⟩ (.string y)) w.heap.size (w.heap.size + 1 + 1) 42 [.string x, .string y] := by
  obtain ⟨x0, y0, ho⟩ := h.b3.out
  have h1 := ho.putg 0 (.string x)
  have h2 := ho.put 0 (.string x)
  have h3 := h2.putg 1 (.string y)
  have h4 := h2.put 1 (.string y)
  have hs1 := h1.size
  have hs2 := h3.size
  refine ⟨⟨⟨(h.b3.one.keptG h1 (by simp; omega)).keptG h3 (by simp; omega), (h.b3.two.keptG h1 (by simp)).keptG h3 (by simp), ⟨_, _, h4⟩⟩, h.s0, ?_⟩, h4⟩
  · have k1 := belowG h.be h1 h.be.size (fun g hg => by cases hg; exact ho.lt.1)
    exact belowG k1 h3 k1.size (fun g hg => by cases hg; exact ho.lt.1)
theorem K3.all {w W : World} {s t s' t' : ByteArray} (h : K3 w W s t s' t') : K3 w W s t s' t' ∧ W.cell? ⟨w.heap.size, 0, none⟩ = some (.string s) ∧ W.cell? ⟨w.heap.size, 1, none⟩ = some (.string t) ∧ W.cell? ⟨w.heap.size + 1, 0, none⟩ = some (.string s') ∧ W.cell? ⟨w.heap.size + 1, 1, none⟩ = some (.string t') :=
  ⟨h, h.b3.one.cell 0 (by simp), h.b3.one.cell 1 (by simp), h.b3.two.cell 0 (by simp), h.b3.two.cell 1 (by simp)⟩
theorem rat_mul (a b : Rat) : Rat.divInt (a.num * b.num) ((a.den * b.den : Nat) : Int) = a * b := by
  rw [Rat.mul_def, Rat.normalize_eq_mkRat, Rat.divInt_ofNat]
abbrev V2 (s t : ByteArray) : Value := .agg #[.string s, .string t]
set_option maxHeartbeats 1600000 in
set_option maxRecDepth 100000 in
theorem mul_walk1 (s t s' t' u v : ByteArray) (n d m e : Int) (h1 : -1000000000000000000 ≤ n * m ∧ n * m ≤ 1000000000000000000) (h2 : -1000000000000000000 ≤ d * e ∧ d * e ≤ 1000000000000000000)
    (ha : ∀ W, Calls Tryz.prog 85 #[V2 s t] W fun e' w' => e' = .returned (.tuple #[.int .i64 n, .int .i64 d, .bool true]) ∧ Below W.heap.size W w')
    (hb : ∀ W, Calls Tryz.prog 85 #[V2 s' t'] W fun e' w' => e' = .returned (.tuple #[.int .i64 m, .int .i64 e, .bool true]) ∧ Below W.heap.size W w')
    (hof : ∀ W, St W → Calls Tryz.prog 96 #[.int .i64 (n * m), .int .i64 (d * e)] W fun e' w' => e' = .returned (V2 u v) ∧ Below W.heap.size W w') (w : World) (hS : St w) :
    Calls Tryz.prog 38 #[V2 s t, V2 s' t'] w fun e w' => e = .returned (V2 u v) ∧ Below w.heap.size w w' := by
  have hB := B3.new w s t s' t'
  have HA := Lib.hid (below3 w s t s' t')
  go_enter Tryz.func38, Tryz.ntmps38
  go_wp2_with fail
  generalize ((w.alloc (.cells #[.string s, .string t] 42)).alloc (.cells #[.string s', .string t'] 42)).alloc (.cells #[.string ⟨#[]⟩, .string ⟨#[]⟩] 42) = W at hB HA ⊢
  refine (ha _).mono ?_
  rintro e w1 ⟨rfl, hb1⟩
  have hB1 := hB.below hb1
  have HB1 := Lib.hid (bT HA.out hb1)
  have d0 := hB1.two.cell 0 (by simp)
  have d1 := hB1.two.cell 1 (by simp)
  have hS1 := hS.b HB1.out
  clear hB hb1
  go_wp2_with fail
  refine (hb _).mono ?_
  rintro e w2 ⟨rfl, hb2⟩
  have HB2 := Lib.hid (bT HB1.out hb2)
  have hS2 := hS.b HB2.out
  have hB2 := hB1.below hb2
  clear hb2 hB1 d0 d1
  go_wp2_with fail
  refine (hof _ hS2).mono ?_
  rintro e w3 ⟨rfl, hb3⟩
  have hB3 := hB2.below hb3
  obtain ⟨x0, y0, ho⟩ := hB3.out
  have c0 := ho.cell 0 (by simp)
  have c1 := ho.cell 1 (by simp)
  have f0 := ho.fz 0
  have f1 := ho.fz 1
  have hlt := ho.lt.2
  have HE2 := Lib.hid (low_end (x := u) (y := v) ho (bT HB2.out hb3))
  clear hB3 hB2 hb3 ho
  go_wp2
  refine box_ret rfl rfl HE2.out.1 Tryz.underlying42 rfl sizeRat rfl ?_
  exact ⟨rfl, HE2.out.2⟩
set_option maxHeartbeats 3200000 in
set_option maxRecDepth 100000 in
theorem mul_walk2 (s t s' t' u v y z : ByteArray)
    (hm1 : ∀ W, St W → Calls Tryz.prog 87 #[.string s, .string s'] W fun e' w' => e' = .returned (.string y) ∧ Below W.heap.size W w')
    (hm2 : ∀ W, St W → Calls Tryz.prog 87 #[.string t, .string t'] W fun e' w' => e' = .returned (.string z) ∧ Below W.heap.size W w')
    (hlo : ∀ W, St W → Calls Tryz.prog 97 #[.string y, .string z] W fun e' w' => e' = .returned (V2 u v) ∧ Below W.heap.size W w')
    (hn : (∀ W, Calls Tryz.prog 85 #[V2 s t] W fun e' w' => ∃ x x', e' = .returned (.tuple #[.int .i64 x, .int .i64 x', .bool false]) ∧ Below W.heap.size W w')) (w : World) (hS : St w) :
    Calls Tryz.prog 38 #[V2 s t, V2 s' t'] w fun e w' => e = .returned (V2 u v) ∧ Below w.heap.size w w' := by
  have hB := B3.new w s t s' t'
  have HA := Lib.hid (below3 w s t s' t')
  go_enter Tryz.func38, Tryz.ntmps38
  go_wp2_with fail
  generalize ((w.alloc (.cells #[.string s, .string t] 42)).alloc (.cells #[.string s', .string t'] 42)).alloc (.cells #[.string ⟨#[]⟩, .string ⟨#[]⟩] 42) = W at hB HA ⊢
  refine (hn _).mono ?_
  rintro e w1 ⟨x0, x1, rfl, hb1⟩
  have hK := K3.all (K3.below (K3.mk hB hS HA.out) (bT hb1 (Below.refl _ _).drew))
  clear hB hb1
  go_wp2_with fail
  go_region_held3 (fun V => K3 w V s t s' t' ∧ V.cell? ⟨w.heap.size, 0, none⟩ = some (.string s) ∧ V.cell? ⟨w.heap.size, 1, none⟩ = some (.string t) ∧ V.cell? ⟨w.heap.size + 1, 0, none⟩ = some (.string s') ∧ V.cell? ⟨w.heap.size + 1, 1, none⟩ = some (.string t'))
    (first | assumption | exact K3.all (K3.below (And.left (by assumption)) hbx) | exact K3.all HE.out.1)
    (first
    | (go_at_call 87; with_reducible refine Calls.mono (hm1 _ (K3.st (And.left (by assumption)))) ?_; rintro e w' ⟨rfl, hbx⟩)
    | (go_at_call 87; with_reducible refine Calls.mono (hm2 _ (K3.st (And.left (by assumption)))) ?_; rintro e w' ⟨rfl, hbx⟩)
    | (go_at_call 97; with_reducible refine Calls.mono (hlo _ (K3.st (And.left (by assumption)))) ?_; rintro e w' ⟨rfl, hbx⟩; have hKx := K3.below (And.left (by assumption)) hbx; obtain ⟨x0, y0, ho⟩ := hKx.b3.out; have c0 := ho.cell 0 (by simp); have c1 := ho.cell 1 (by simp); have f0 := ho.fz 0; have f1 := ho.fz 1; have hlt := ho.lt.2; have HE := Lib.hid (K3.put hKx u v)))
  all_goals (go_wp2; refine box_ret rfl rfl HE.out.2 Tryz.underlying42 rfl sizeRat rfl ?_; exact ⟨rfl, HE.out.1.be⟩)
set_option maxHeartbeats 3200000 in
set_option maxRecDepth 100000 in
theorem mul_walk3 (s t s' t' u v y z : ByteArray) (n d : Int)
    (hm1 : ∀ W, St W → Calls Tryz.prog 87 #[.string s, .string s'] W fun e' w' => e' = .returned (.string y) ∧ Below W.heap.size W w')
    (hm2 : ∀ W, St W → Calls Tryz.prog 87 #[.string t, .string t'] W fun e' w' => e' = .returned (.string z) ∧ Below W.heap.size W w')
    (hlo : ∀ W, St W → Calls Tryz.prog 97 #[.string y, .string z] W fun e' w' => e' = .returned (V2 u v) ∧ Below W.heap.size W w')
    (ha : ∀ W, Calls Tryz.prog 85 #[V2 s t] W fun e' w' => e' = .returned (.tuple #[.int .i64 n, .int .i64 d, .bool true]) ∧ Below W.heap.size W w')
    (hn : (∀ W, Calls Tryz.prog 85 #[V2 s' t'] W fun e' w' => ∃ x x', e' = .returned (.tuple #[.int .i64 x, .int .i64 x', .bool false]) ∧ Below W.heap.size W w')) (w : World) (hS : St w) :
    Calls Tryz.prog 38 #[V2 s t, V2 s' t'] w fun e w' => e = .returned (V2 u v) ∧ Below w.heap.size w w' := by
  have hB := B3.new w s t s' t'
  have HA := Lib.hid (below3 w s t s' t')
  go_enter Tryz.func38, Tryz.ntmps38
  go_wp2_with fail
  generalize ((w.alloc (.cells #[.string s, .string t] 42)).alloc (.cells #[.string s', .string t'] 42)).alloc (.cells #[.string ⟨#[]⟩, .string ⟨#[]⟩] 42) = W at hB HA ⊢
  refine (ha _).mono ?_
  rintro e w0 ⟨rfl, hb0⟩
  have hB0 := hB.below hb0
  have d0 := hB0.two.cell 0 (by simp)
  have d1 := hB0.two.cell 1 (by simp)
  have HA0 := Lib.hid (bT HA.out hb0)
  clear hB hb0
  go_wp2_with fail
  refine (hn _).mono ?_
  rintro e w1 ⟨x0, x1, rfl, hb1⟩
  have hK := K3.all (K3.below (K3.mk hB0 hS HA0.out) (bT hb1 (Below.refl _ _).drew))
  clear hB0 hb1 d0 d1
  go_wp2_with fail
  go_region_held3 (fun V => K3 w V s t s' t' ∧ V.cell? ⟨w.heap.size, 0, none⟩ = some (.string s) ∧ V.cell? ⟨w.heap.size, 1, none⟩ = some (.string t) ∧ V.cell? ⟨w.heap.size + 1, 0, none⟩ = some (.string s') ∧ V.cell? ⟨w.heap.size + 1, 1, none⟩ = some (.string t'))
    (first | assumption | exact K3.all (K3.below (And.left (by assumption)) hbx) | exact K3.all HE.out.1)
    (first
    | (go_at_call 87; with_reducible refine Calls.mono (hm1 _ (K3.st (And.left (by assumption)))) ?_; rintro e w' ⟨rfl, hbx⟩)
    | (go_at_call 87; with_reducible refine Calls.mono (hm2 _ (K3.st (And.left (by assumption)))) ?_; rintro e w' ⟨rfl, hbx⟩)
    | (go_at_call 97; with_reducible refine Calls.mono (hlo _ (K3.st (And.left (by assumption)))) ?_; rintro e w' ⟨rfl, hbx⟩; have hKx := K3.below (And.left (by assumption)) hbx; obtain ⟨x0, y0, ho⟩ := hKx.b3.out; have c0 := ho.cell 0 (by simp); have c1 := ho.cell 1 (by simp); have f0 := ho.fz 0; have f1 := ho.fz 1; have hlt := ho.lt.2; have HE := Lib.hid (K3.put hKx u v)))
  all_goals (go_wp2; refine box_ret rfl rfl HE.out.2 Tryz.underlying42 rfl sizeRat rfl ?_; exact ⟨rfl, HE.out.1.be⟩)
set_option maxHeartbeats 1600000 in
set_option maxRecDepth 100000 in
theorem mul_small (a b : Rat) (h1 : ((I a.num).size : Int) ≤ 9) (h2 : ((D a.den).size : Int) ≤ 9) (h3 : ((I b.num).size : Int) ≤ 9) (h4 : ((D b.den).size : Int) ≤ 9) (w : World) (hS : St w) :
    Calls Tryz.prog 38 #[Rv a, Rv b] w fun e w' => e = .returned (Rv (a * b)) ∧ Below w.heap.size w w' := by
  have ha := fun W => rat_both a h1 h2 W
  have hb := fun W => rat_both b h3 h4 W
  have hof : ∀ W, St W → Calls Tryz.prog 96 #[.int .i64 (a.num * b.num), .int .i64 ((a.den : Int) * (b.den : Int))] W fun e w' => e = .returned (Rv (a * b)) ∧ Below W.heap.size W w' := fun W hW => by
    have l1 := I_lim9 (show (I a.num).size ≤ 9 by omega)
    have l3 := I_lim9 (show (I b.num).size ≤ 9 by omega)
    have l2 := I_lim9 (n := (a.den : Int)) (by rw [I_nat]; omega)
    have l4 := I_lim9 (n := (b.den : Int)) (by rw [I_nat]; omega)
    have m1 := mul_lim l1 l3
    have m2 := mul_lim l2 l4
    have hp : (0 : Int) < (a.den : Int) * (b.den : Int) := Int.mul_pos (by have := a.den_pos; omega) (by have := b.den_pos; omega)
    have h := fraction_of (a.num * b.num) ((a.den : Int) * (b.den : Int)) hp (by omega) (by omega) W hW
    rw [← Int.natCast_mul, rat_mul] at h
    rw [← Int.natCast_mul]; exact h
  exact mul_walk1 _ _ _ _ _ _ _ _ _ _ (mul_lim (I_lim9 (by omega)) (I_lim9 (by omega))) (mul_lim (I_lim9 (n := (a.den : Int)) (by rw [I_nat]; omega)) (I_lim9 (n := (b.den : Int)) (by rw [I_nat]; omega))) ha hb hof w hS
theorem fraction_Mul (a b : Rat) (ha : nd a.num ≤ 200000 ∧ Lib.nDigits a.den ≤ 200000) (hb : nd b.num ≤ 200000 ∧ Lib.nDigits b.den ≤ 200000) (w : World) (hS : St w) :
    Calls Tryz.prog 38 #[Rv a, Rv b] w fun e w' => e = .returned (Rv (a * b)) ∧ Below w.heap.size w w' := by
  have hm1 := fun W hW => whole_Mul a.num b.num (by omega) (by omega) W hW
  have hm2 := fun W hW => whole_MulD a.den b.den (by omega) (by omega) W hW
  have hlo := fun W hW => lowestD (a.num * b.num) (a.den * b.den) (Nat.mul_pos a.den_pos b.den_pos) (Nat.le_trans (nd_mulI _ _) (by omega)) (Nat.le_trans (nd_mul _ _) (by omega)) W hW
  rw [rat_mul] at hlo
  by_cases h1 : ((I a.num).size : Int) ≤ 9 ∧ ((D a.den).size : Int) ≤ 9
  · by_cases h2 : ((I b.num).size : Int) ≤ 9 ∧ ((D b.den).size : Int) ≤ 9
    · exact mul_small a b h1.1 h1.2 h2.1 h2.2 w hS
    · exact mul_walk3 _ _ _ _ _ _ _ _ _ _ hm1 hm2 hlo (fun W => rat_both a h1.1 h1.2 W) (fun W => rat_both_no b h2 W) w hS
  · exact mul_walk2 _ _ _ _ _ _ _ _ hm1 hm2 hlo (fun W => rat_both_no a h1 W) w hS
end Go.Proofs.YtbihoedcbmnccaaGreatDoor
