/- enclosure: low. -/
import Derived.Test.YtbihoedcbmnccaaGreatDoorK9
import Derived.Test.YtbihoedcbmnccaaGreatDoorK6
import Derived.Test.YtbihoedcbmnccaaGreatDoorK1
import Derived.Test.YtbihoedcbmnccaaGreatDoorK7
import Derived.Test.YtbihoedcbmnccaaGreatDoorK5
import Derived.OwnWalk
import Derived.Laws.OwnMore
namespace Go.Proofs.YtbihoedcbmnccaaGreatDoor
open Go.RowKit

theorem lowN_bit {p j : Nat} (hp : 0 < p) : lowN p (j + 1) = 2 * lowN p j + (if bitN p j then 1 else 0) := by
  unfold bitN
  rcases lowN_succ (p := p) (j := j) hp with h | h
  · rw [decide_eq_false (by omega), h]; rfl
  · rw [decide_eq_true h, h]; rfl
theorem lowN_small {p j : Nat} (hp0 : 0 < p) (hp : p < 128) : lowN p j < 2 ^ (j + 3) := by
  have h0 : tw p j ≠ 0 := by have := tw_pos (j := j) hp0; omega
  refine (Nat.log2_lt h0).2 ?_
  have h1 : tw p j ≤ 128 ^ (2 ^ j) := Nat.pow_le_pow_left (by omega) _
  have h2 : (128 : Nat) ^ (2 ^ j) < 2 ^ (2 ^ (j + 3)) := by
    rw [show (128 : Nat) = 2 ^ 7 from rfl, ← Nat.pow_mul]
    refine Nat.pow_lt_pow_right (by omega) ?_
    rw [Nat.pow_add]; have := Nat.two_pow_pos j; omega
  exact Nat.lt_of_le_of_lt h1 h2
theorem nDigits_two {x k : Nat} (hk : 0 < k) (h : x < 2 ^ k) : Lib.nDigits x ≤ k := nDigits_le hk (Nat.lt_of_lt_of_le h (Nat.pow_le_pow_left (by omega) k))
theorem lowN_nd {p j : Nat} (hp0 : 0 < p) (hp : p < 128) : Lib.nDigits (lowN p j) ≤ j + 3 := nDigits_two (by omega) (lowN_small hp0 hp)
/-- Booleans that may be read. -/
def Rb (w : World) (g o : Nat) (xs : List Value) : Prop := g < w.heap.size ∧ ∀ j, (h : j < xs.length) → w.cell? ⟨g, o + j, none⟩ = some xs[j]
theorem Rb.b {w w' : World} {g o : Nat} {xs : List Value} (h : Rb w g o xs) (hb : Below w.heap.size w w') : Rb w' g o xs :=
  ⟨Nat.lt_of_lt_of_le h.1 hb.size, fun j hj => (gOfB hb none).cell (h.2 j hj) (by simp)⟩
theorem boolsN_get (p n j : Nat) (h : j < (boolsN p n).length) : (boolsN p n)[j] = .bool (bitN p j) := by simp [boolsN]
theorem bitN_two (i : Nat) : bitN 2 i = false := by
  unfold bitN; rw [lowN_two, lowN_two, Nat.pow_succ]; exact decide_eq_false (by omega)
theorem boolsN_two (n : Nat) : boolsN 2 n = List.replicate n (.bool false) := by
  induction n with
  | zero => rfl
  | succ n ih => rw [boolsN_succ, ih, bitN_two, List.replicate_succ']
/-- The digits of a row are there to be read, whatever the row's value looks like. -/
theorem row_shape {w : World} {B p n : Nat} {v : Value} (h : w.ownsRow B 4 1 v n (boolsN p n)) : (n = 0 ∧ v = .slice none 0 0) ∨ ∃ g cap, v = .slice (some ⟨g, 0, none⟩) n cap ∧ n ≤ cap ∧ cap ≤ 9223372036854775807 ∧ B ≤ g ∧ Rb w g 0 (boolsN p n) := by
  have hs := h
  rcases h.2 with ⟨e, h0⟩ | ⟨g, cap, cur, e, h1, h2, h3, h4, h5, h6⟩
  · exact .inl ⟨h0, e⟩
  · subst e
    refine .inr ⟨g, cap, rfl, h3, h4, h1, (World.ownsRow.lt hs g rfl).2, fun j hj => ?_⟩
    rw [Nat.zero_add, World.ownsRow.cellAt hs j (by rw [boolsN_length] at hj; omega), List.getElem?_eq_getElem hj]
theorem made_bool (n : Nat) : (madeCells (Value.bool false).cells (n * 1)).toList = boolsN 2 n := by
  rw [Nat.mul_one, show (Value.bool false).cells = #[Value.bool false] from rfl, toList_madeCells_one, boolsN_two]

theorem bitLen_log2 {p : Nat} (h1 : 1 ≤ p.log2) (hp1 : p < 128) : Lib.bitLen p = p.log2 + 1 := by
  have hp : 2 ≤ p := by
    rcases Nat.lt_or_ge p 2 with h | h
    · exfalso
      have : p = 0 ∨ p = 1 := by omega
      rcases this with rfl | rfl <;> revert h1 <;> decide
    · exact h
  obtain ⟨k1, k2, k3, k4⟩ := bitLen_pos hp (by omega)
  have h0 : p ≠ 0 := by omega
  have e1 := (Nat.le_log2 h0).2 k3
  have e2 := (Nat.log2_lt h0).2 k4
  omega
theorem whole_AddD (a b : Nat) (ha : Lib.nDigits a ≤ 400000) (hb : Lib.nDigits b ≤ 400000) (w : World) (hS : St w) :
    Calls Tryz.prog 18 #[.string (D a), .string (D b)] w fun e w' => e = .returned (.string (D (a + b))) ∧ Below w.heap.size w w' := by
  have h := whole_Add a b (by rw [nd_nat]; exact ha) (by rw [nd_nat]; exact hb) w hS
  rw [I_nat, I_nat, ← Int.natCast_add, I_nat] at h; exact h
def lenV : Value → Nat
  | .slice _ n _ => n
  | _ => 0

set_option maxHeartbeats 3200000 in
set_option maxRecDepth 100000 in
theorem low_any (p n : Nat) (w : World) (hp : p = 2 ∨ p ∈ odd24) (hp0 : 0 < p) (hp1 : p < 128) (hk : p.log2 ≤ 6) (hk1 : 1 ≤ p.log2) (hn : n ≤ 2000) (hS : St w) :
    Calls Tryz.prog 51 #[.int .i64 (p : Int), .int .i64 (n : Int)] w fun e w' => e = .returned (.string (D (lowN p n))) ∧ Below w.heap.size w w' := by
  obtain ⟨i0, hi, hz0, hz1, hz2⟩ := info_parts info_bool
  have hlen := fun W => Tryz.bits_Len (p : Int) W (by omega) (by omega)
  rw [Int.toNat_natCast, bitLen_log2 hk1 hp1] at hlen
  have hof := fun W hW => whole_OfN p.log2 (by omega) W hW
  have HST := Lib.hid hS
  have HL0 := Lib.hid (show D p.log2 = D (lowN p 0) by rw [lowN_zero])
  have hkI : ((p.log2 + 1 : Nat) : Int) - 1 = (p.log2 : Int) := by omega
  go_enter Tryz.func51, Tryz.ntmps51
  go_wp2_with fail
  refine (hlen _).mono ?_
  rintro e w1 ⟨rfl, rfl⟩
  rename World => w
  go_wp2_with fail
  refine (hof _ HST.out).mono ?_
  rintro e w2 ⟨rfl, hb2⟩
  have HB2 := Lib.hid hb2
  have HOF := Lib.hid hof
  clear hof hlen hb2
  rw [HL0.out]
  -- the digits
  rcases hp with h2 | hodd
  · have hq1 : ((p : Int) == 2) = true := by rw [beq_iff_eq]; omega
    have hq2 : ((p : Int) != 2) = false := by rw [bne_eq_false_iff_eq]; omega
    have H2 := Lib.hid h2
    clear h2
    go_wp2_with (at_make; refine wpList_make_full _ rfl _ _ 148 rfl w2.heap.size 4 i0 (.bool false) 1 Tryz.underlying148 hi hz0 hz1 .i64 .i64 _ _ n rfl rfl rfl rfl (by rw [hz2]; omega) (by unfold maxLen; omega) (Nat.le_refl _) ?_; intro w3 hown hg3)
    rw [made_bool] at hown
    have HROW : Hid (w3.ownsRow w2.heap.size 4 1 (.slice (some ⟨w2.heap.size, 0, none⟩) n n) n (boolsN p n)) := by rw [← H2.out] at hown; exact hown
    have HRB : Hid (Rb w3 w2.heap.size 0 (boolsN p n)) := by
      rcases row_shape HROW.out with ⟨_, e⟩ | ⟨g, cap, e, _, _, _, h⟩
      · cases e
      · cases e; exact h
    have HB3 := Lib.hid (bT HB2.out (bOfG hg3))
    clear hown
    go_loopw [7, 8] (fun l q wr => l = .slice (some ⟨w2.heap.size, 0, none⟩) n n ∧ wr = w3) (fun _ _ _ => 0)
    case atStart => exact ⟨rfl, rfl⟩
    case round =>
      obtain ⟨rfl, rfl⟩ := hrel
      rename World => w3
      go_wp2
      go_loopw [6, 7] (fun s l wr => ∃ (j o c : Nat), s = .string (D (lowN p j)) ∧ l = .slice (some ⟨w2.heap.size, o, none⟩) (n - j) c ∧ Hid (n - j = 0 ∨ o = j) ∧ j ≤ n ∧ n - j ≤ c ∧ c ≤ 9223372036854775807 ∧ Hid (Rb wr (w2.heap.size) 0 (boolsN p n)) ∧ Hid (Below w.heap.size w wr)) (fun _ l _ => lenV l)
      case atStart => exact ⟨0, 0, n, rfl, rfl, .inr rfl, by omega, by omega, by omega, HRB.out, HB3.out⟩
      case round =>
        obtain ⟨j, o, c, rfl, rfl, HOJ, hj, hc1, hc2, HR, HBj⟩ := hrel
        rename World => w4
        by_cases hlt : j < n
        · have hoj : o = j := by
            rcases HOJ.out with h | h
            · omega
            · exact h
          subst o
          clear HOJ
          obtain ⟨gg, hgg⟩ : ∃ gg, min (n - j) 28 = gg := ⟨_, rfl⟩
          obtain ⟨r, hr⟩ : ∃ r, n - j = r := ⟨_, rfl⟩
          rw [hr] at hc1 hgg
          have hr0 : 0 < r := by omega
          have hg0 : 0 < gg := by omega
          have hg28 : gg ≤ 28 := by omega
          have hgr : gg ≤ r := by omega
          have hgc : gg ≤ c := by omega
          have hjg : j + gg ≤ n := by omega
          have hr2 : r ≤ 2000 := by omega
          have hmin : min (r : Int) 28 = (gg : Int) := by omega
          have HRR := Lib.hid hr
          rw [hr]
          clear hr hgg
          go_wp2
          go_loopw [11, 49] (fun a i wr => ∃ an m : Nat, a = .int .i64 (an : Int) ∧ i = .int .i64 (m : Int) ∧ m ≤ gg ∧ an < 268435456 ∧ Hid (lowN p (j + m) = lowN p j * 2 ^ m + an) ∧ Hid (an < 2 ^ m) ∧ wr = w4) (fun _ i _ => gg - (intOf i).toNat)
          case atStart => exact ⟨0, 0, rfl, rfl, by omega, by omega, by show _ = _; simp, by show 0 < 1; omega, by trivial⟩
          case round =>
            obtain ⟨an, m, rfl, rfl, hm, han, HE, HA, rfl⟩ := hrel
            rename World => w4
            by_cases hmg : m < gg
            · have hcell := HR.out.2 (j + m) (by rw [boolsN_length]; omega)
              rw [boolsN_get, Nat.zero_add] at hcell
              have hbit := lowN_bit (p := p) (j := j + m) hp0
              have hp2 : 2 ^ (m + 1) ≤ 2 ^ 28 := Nat.pow_le_pow_right (by omega) (by omega)
              have HBIT := Lib.hid hbit
              have han2 : an * 2 + 1 < 2 ^ (m + 1) := by have := HA.out; rw [Nat.pow_succ]; omega
              have han3 : an * 2 + 1 < 268435456 := by omega
              have HA2 := Lib.hid han2
              clear hbit hp2 han2
              generalize hb : bitN p (j + m) = bb at hcell
              have HBB := Lib.hid hb
              clear hb
              have hst : ∀ x : Nat, x = (if bb then 1 else 0) → lowN p (j + (m + 1)) = lowN p j * 2 ^ (m + 1) + (an * 2 + x) := by
                intro x hx
                have e := HBIT.out
                rw [HBB.out, ← hx, HE.out, Nat.add_assoc] at e
                rw [← Nat.add_assoc] at e
                rw [show j + (m + 1) = j + m + 1 by omega, e, Nat.pow_succ, ← Nat.mul_assoc]; omega
              have HST2 := Lib.hid hst
              clear hst
              cases bb with
              | true =>
                go_wp2
                go_roundw
                case rel => exact ⟨an * 2 + 1, m + 1, by go_num, by go_num, by omega, by omega, HST2.out 1 rfl, HA2.out, by trivial⟩
                case measure => simp [intOf]; omega
              | false =>
                go_wp2
                go_roundw
                case rel => exact ⟨an * 2, m + 1, by go_num, by go_num, by omega, by omega, by have := HST2.out 0 rfl; exact this, by have := HA2.out; show an * 2 < _; omega, by trivial⟩
                case measure => simp [intOf]; omega
            · obtain rfl : m = gg := by omega
              obtain ⟨pw, hpw⟩ : ∃ k, 2 ^ m = k := ⟨_, rfl⟩
              have hpw1 : pw ≤ 268435456 := by rw [← hpw]; exact Nat.pow_le_pow_right (n := 2) (by omega) (show m ≤ 28 by omega)
              have hw1 : IntKind.i64.wrap (2 ^ m) = (pw : Int) := by
                rw [show (2 ^ m : Int) = (pw : Int) by rw [← hpw, Int.natCast_pow]; rfl, IntKind.wrap_i64]; omega
              have hsum := HE.out
              rw [hpw] at hsum
              have ho1 := whole_OfN pw (by omega) w4 (HST.out.b HBj.out)
              have hmul := fun W hW => whole_MulD (lowN p j) pw (by have := lowN_nd (p := p) (j := j) hp0 hp1; omega) (Nat.le_trans (nDigits_le (n := pw) (k := 9) (by omega) (by omega)) (by omega)) W hW
              have ho2 := fun W hW => whole_OfN an (by omega) W hW
              have hadd := fun W hW => whole_AddD (lowN p j * pw) an (Nat.le_trans (nd_mul _ _) (by have := lowN_nd (p := p) (j := j) hp0 hp1; have := nDigits_le (n := pw) (k := 9) (by omega) (by omega); omega)) (Nat.le_trans (nDigits_le (n := an) (k := 9) (by omega) (by omega)) (by omega)) W hW
              rw [← hsum] at hadd
              have HMUL := Lib.hid hmul
              have HO2 := Lib.hid ho2
              have HADD := Lib.hid hadd
              clear hsum hpw hmul ho2 hadd
              go_wp2_with fail
              refine ho1.mono ?_
              rintro e w5 ⟨rfl, hb5⟩
              have h5 := bT HBj.out hb5
              clear ho1
              go_wp2_with fail
              refine (HMUL.out _ (HST.out.b h5)).mono ?_
              rintro e w6 ⟨rfl, hb6⟩
              have h6 := bT h5 hb6
              go_wp2_with fail
              refine (HO2.out _ (HST.out.b h6)).mono ?_
              rintro e w7 ⟨rfl, hb7⟩
              have h7 := bT h6 hb7
              go_wp2_with fail
              refine (HADD.out _ (HST.out.b h7)).mono ?_
              rintro e w8 ⟨rfl, hb8⟩
              have h8 := bT h7 hb8
              have HB8 := Lib.hid h8
              have HR8 := Lib.hid ((((HR.out.b hb5).b hb6).b hb7).b hb8)
              clear hb5 hb6 hb7 hb8 h5 h6 h7 h8
              have hcc : 0 ≤ (c : Int) - (m : Int) := by omega
              go_wp2
              go_roundw
              case rel =>
                have e1 := HRR.out
                have e2 : n - (j + m) = r - m := by omega
                rcases Nat.decEq c m with h | h
                · refine ⟨j + m, j + m, c - m, rfl, ?_, .inr rfl, by omega, by omega, by omega, HR8.out, HB8.out⟩
                  rw [if_neg h, e2]
                · refine ⟨j + m, j, c - m, rfl, ?_, .inl (by omega), by omega, by omega, by omega, HR8.out, HB8.out⟩
                  rw [if_pos h, e2]
              case measure => simp [lenV]; have := HRR.out; omega
        · obtain rfl : j = n := by omega
          rw [Nat.sub_self]
          go_wp2
          go_ret
          exact ⟨rfl, HBj.out⟩
  · have hq1 : ((p : Int) == 2) = false := by
      rw [beq_eq_false_iff_ne]; intro h; have : p = 2 := by omega
      subst this; revert hodd; decide
    have hq2 : ((p : Int) != 2) = true := by
      rw [bne_iff_ne]; intro h; have : p = 2 := by omega
      subst this; revert hodd; decide
    go_wp2
    go_loopw [7, 8] (fun l q wr => q = .int .i64 ((n + 64 : Nat) : Int) ∧ wr = w2) (fun _ _ _ => 0)
    case atStart => exact ⟨by go_num, rfl⟩
    case round =>
      obtain ⟨rfl, rfl⟩ := hrel
      rename World => w2
      have hdig := digits_any p n w2 hodd hp0 hp1 hk hn
      go_wp2_with fail
      refine hdig.mono ?_
      rintro e w3 ⟨v, rfl, hown, hb3⟩
      have HB3 := Lib.hid (bT HB2.out hb3)
      rcases row_shape hown with ⟨h0, rfl⟩ | ⟨g, cap, rfl, hcap, hcap2, _, hrb⟩
      · subst h0
        clear hdig hown hb3
        go_wp2
        go_loopw [6, 7] (fun s l wr => s = .string (D (lowN p 0)) ∧ l = .slice none 0 0 ∧ wr = w3) (fun _ _ _ => 0)
        case atStart => exact ⟨rfl, rfl, rfl⟩
        case round =>
          obtain ⟨rfl, rfl, rfl⟩ := hrel
          go_wp2
          go_ret
          exact ⟨rfl, HB3.out⟩
      have HRB := Lib.hid hrb
      clear hdig hown hb3 hrb
      go_wp2
      go_loopw [6, 7] (fun s l wr => ∃ (j o c : Nat), s = .string (D (lowN p j)) ∧ l = .slice (some ⟨g, o, none⟩) (n - j) c ∧ Hid (n - j = 0 ∨ o = j) ∧ j ≤ n ∧ n - j ≤ c ∧ c ≤ 9223372036854775807 ∧ Hid (Rb wr (g) 0 (boolsN p n)) ∧ Hid (Below w.heap.size w wr)) (fun _ l _ => lenV l)
      case atStart => exact ⟨0, 0, cap, rfl, rfl, .inr rfl, by omega, by omega, by omega, HRB.out, HB3.out⟩
      case round =>
        obtain ⟨j, o, c, rfl, rfl, HOJ, hj, hc1, hc2, HR, HBj⟩ := hrel
        rename World => w4
        by_cases hlt : j < n
        · have hoj : o = j := by
            rcases HOJ.out with h | h
            · omega
            · exact h
          subst o
          clear HOJ
          obtain ⟨gg, hgg⟩ : ∃ gg, min (n - j) 28 = gg := ⟨_, rfl⟩
          obtain ⟨r, hr⟩ : ∃ r, n - j = r := ⟨_, rfl⟩
          rw [hr] at hc1 hgg
          have hr0 : 0 < r := by omega
          have hg0 : 0 < gg := by omega
          have hg28 : gg ≤ 28 := by omega
          have hgr : gg ≤ r := by omega
          have hgc : gg ≤ c := by omega
          have hjg : j + gg ≤ n := by omega
          have hr2 : r ≤ 2000 := by omega
          have hmin : min (r : Int) 28 = (gg : Int) := by omega
          have HRR := Lib.hid hr
          rw [hr]
          clear hr hgg
          go_wp2
          go_loopw [11, 49] (fun a i wr => ∃ an m : Nat, a = .int .i64 (an : Int) ∧ i = .int .i64 (m : Int) ∧ m ≤ gg ∧ an < 268435456 ∧ Hid (lowN p (j + m) = lowN p j * 2 ^ m + an) ∧ Hid (an < 2 ^ m) ∧ wr = w4) (fun _ i _ => gg - (intOf i).toNat)
          case atStart => exact ⟨0, 0, rfl, rfl, by omega, by omega, by show _ = _; simp, by show 0 < 1; omega, by trivial⟩
          case round =>
            obtain ⟨an, m, rfl, rfl, hm, han, HE, HA, rfl⟩ := hrel
            rename World => w4
            by_cases hmg : m < gg
            · have hcell := HR.out.2 (j + m) (by rw [boolsN_length]; omega)
              rw [boolsN_get, Nat.zero_add] at hcell
              have hbit := lowN_bit (p := p) (j := j + m) hp0
              have hp2 : 2 ^ (m + 1) ≤ 2 ^ 28 := Nat.pow_le_pow_right (by omega) (by omega)
              have HBIT := Lib.hid hbit
              have han2 : an * 2 + 1 < 2 ^ (m + 1) := by have := HA.out; rw [Nat.pow_succ]; omega
              have han3 : an * 2 + 1 < 268435456 := by omega
              have HA2 := Lib.hid han2
              clear hbit hp2 han2
              generalize hb : bitN p (j + m) = bb at hcell
              have HBB := Lib.hid hb
              clear hb
              have hst : ∀ x : Nat, x = (if bb then 1 else 0) → lowN p (j + (m + 1)) = lowN p j * 2 ^ (m + 1) + (an * 2 + x) := by
                intro x hx
                have e := HBIT.out
                rw [HBB.out, ← hx, HE.out, Nat.add_assoc] at e
                rw [← Nat.add_assoc] at e
                rw [show j + (m + 1) = j + m + 1 by omega, e, Nat.pow_succ, ← Nat.mul_assoc]; omega
              have HST2 := Lib.hid hst
              clear hst
              cases bb with
              | true =>
                go_wp2
                go_roundw
                case rel => exact ⟨an * 2 + 1, m + 1, by go_num, by go_num, by omega, by omega, HST2.out 1 rfl, HA2.out, by trivial⟩
                case measure => simp [intOf]; omega
              | false =>
                go_wp2
                go_roundw
                case rel => exact ⟨an * 2, m + 1, by go_num, by go_num, by omega, by omega, by have := HST2.out 0 rfl; exact this, by have := HA2.out; show an * 2 < _; omega, by trivial⟩
                case measure => simp [intOf]; omega
            · obtain rfl : m = gg := by omega
              obtain ⟨pw, hpw⟩ : ∃ k, 2 ^ m = k := ⟨_, rfl⟩
              have hpw1 : pw ≤ 268435456 := by rw [← hpw]; exact Nat.pow_le_pow_right (n := 2) (by omega) (show m ≤ 28 by omega)
              have hw1 : IntKind.i64.wrap (2 ^ m) = (pw : Int) := by
                rw [show (2 ^ m : Int) = (pw : Int) by rw [← hpw, Int.natCast_pow]; rfl, IntKind.wrap_i64]; omega
              have hsum := HE.out
              rw [hpw] at hsum
              have ho1 := whole_OfN pw (by omega) w4 (HST.out.b HBj.out)
              have hmul := fun W hW => whole_MulD (lowN p j) pw (by have := lowN_nd (p := p) (j := j) hp0 hp1; omega) (Nat.le_trans (nDigits_le (n := pw) (k := 9) (by omega) (by omega)) (by omega)) W hW
              have ho2 := fun W hW => whole_OfN an (by omega) W hW
              have hadd := fun W hW => whole_AddD (lowN p j * pw) an (Nat.le_trans (nd_mul _ _) (by have := lowN_nd (p := p) (j := j) hp0 hp1; have := nDigits_le (n := pw) (k := 9) (by omega) (by omega); omega)) (Nat.le_trans (nDigits_le (n := an) (k := 9) (by omega) (by omega)) (by omega)) W hW
              rw [← hsum] at hadd
              have HMUL := Lib.hid hmul
              have HO2 := Lib.hid ho2
              have HADD := Lib.hid hadd
              clear hsum hpw hmul ho2 hadd
              go_wp2_with fail
              refine ho1.mono ?_
              rintro e w5 ⟨rfl, hb5⟩
              have h5 := bT HBj.out hb5
              clear ho1
              go_wp2_with fail
              refine (HMUL.out _ (HST.out.b h5)).mono ?_
              rintro e w6 ⟨rfl, hb6⟩
              have h6 := bT h5 hb6
              go_wp2_with fail
              refine (HO2.out _ (HST.out.b h6)).mono ?_
              rintro e w7 ⟨rfl, hb7⟩
              have h7 := bT h6 hb7
              go_wp2_with fail
              refine (HADD.out _ (HST.out.b h7)).mono ?_
              rintro e w8 ⟨rfl, hb8⟩
              have h8 := bT h7 hb8
              have HB8 := Lib.hid h8
              have HR8 := Lib.hid ((((HR.out.b hb5).b hb6).b hb7).b hb8)
              clear hb5 hb6 hb7 hb8 h5 h6 h7 h8
              have hcc : 0 ≤ (c : Int) - (m : Int) := by omega
              go_wp2
              go_roundw
              case rel =>
                have e1 := HRR.out
                have e2 : n - (j + m) = r - m := by omega
                rcases Nat.decEq c m with h | h
                · refine ⟨j + m, j + m, c - m, rfl, ?_, .inr rfl, by omega, by omega, by omega, HR8.out, HB8.out⟩
                  rw [if_neg h, e2]
                · refine ⟨j + m, j, c - m, rfl, ?_, .inl (by omega), by omega, by omega, by omega, HR8.out, HB8.out⟩
                  rw [if_pos h, e2]
              case measure => simp [lenV]; have := HRR.out; omega
        · obtain rfl : j = n := by omega
          rw [Nat.sub_self]
          go_wp2
          go_ret
          exact ⟨rfl, HBj.out⟩
end Go.Proofs.YtbihoedcbmnccaaGreatDoor
/- prime: IsPrime. -/
namespace Go.Proofs.YtbihoedcbmnccaaGreatDoor
open Go.RowKit

/-- A prime that can be in a list. -/
def primeB (n : Int) : Bool := decide (2 ≤ n) && decide (n ≤ 97) && (List.range 10).all fun d => decide (d < 2) || decide (n < (d : Int) * d) || decide (n % d ≠ 0)
theorem primeB_small {n : Int} (h : n < 2) : primeB n = false := by unfold primeB; rw [decide_eq_false (by omega)]; rfl
theorem primeB_great {n : Int} (h : 97 < n) : primeB n = false := by unfold primeB; rw [decide_eq_false (show ¬ n ≤ 97 by omega), Bool.and_false]; rfl
theorem primeB_div {n : Int} {d : Nat} (h1 : 2 ≤ d) (h2 : (d : Int) * d ≤ n) (h3 : n ≤ 97) (h4 : n % d = 0) : primeB n = false := by
  have hd : d < 10 := by
    rcases Nat.lt_or_ge d 10 with h | h
    · exact h
    · exfalso
      have : 10 * 10 ≤ d * d := Nat.mul_le_mul h h
      have : ((d * d : Nat) : Int) = (d : Int) * d := Int.natCast_mul ..
      omega
  unfold primeB
  rw [Bool.and_eq_false_iff]; right
  rw [List.all_eq_false]
  refine ⟨d, List.mem_range.2 hd, ?_⟩
  simp only [Bool.or_eq_true, decide_eq_true_eq]
  rintro ((h | h) | h)
  · omega
  · omega
  · exact h h4
theorem primeB_true {n : Int} {d : Nat} (h0 : 2 ≤ n) (h1 : n ≤ 97) (h2 : n < (d : Int) * d) (h3 : ∀ e : Nat, 2 ≤ e → e < d → n % e ≠ 0) : primeB n = true := by
  unfold primeB
  rw [decide_eq_true h0, decide_eq_true h1]
  simp only [Bool.true_and, List.all_eq_true, Bool.or_eq_true, decide_eq_true_eq]
  intro e _
  rcases Nat.lt_or_ge e 2 with h | h
  · exact .inl (.inl h)
  rcases Nat.lt_or_ge e d with k | k
  · exact .inr (h3 e h k)
  · refine .inl (.inr ?_)
    have : d * d ≤ e * e := Nat.mul_le_mul k k
    have e1 : ((d * d : Nat) : Int) = (d : Int) * d := Int.natCast_mul ..
    have e2 : ((e * e : Nat) : Int) = (e : Int) * e := Int.natCast_mul ..
    omega

set_option maxHeartbeats 1600000 in
theorem prime_Is (n : Int) (w : World) : Calls Tryz.prog 14 #[.int .i64 n] w fun e w' => e = .returned (.bool (primeB n)) ∧ w' = w := by
  by_cases h1 : n < 2
  · rw [primeB_small h1]
    go_enter Tryz.func14, Tryz.ntmps14
    go_wp2
    go_ret; exact ⟨rfl, rfl⟩
  by_cases h2 : 97 < n
  · rw [primeB_great h2]
    go_enter Tryz.func14, Tryz.ntmps14
    go_wp2
    go_ret; exact ⟨rfl, rfl⟩
  obtain ⟨m, rfl⟩ : ∃ m : Nat, n = (m : Int) := ⟨n.toNat, by omega⟩
  go_enter Tryz.func14, Tryz.ntmps14
  go_wp2
  go_loopw [3] (fun i wr => ∃ d : Nat, i = .int .i64 (d : Int) ∧ 2 ≤ d ∧ d ≤ 10 ∧ Hid (∀ e : Nat, 2 ≤ e → e < d → (m : Int) % e ≠ 0) ∧ wr = w) (fun i _ => 10 - (intOf i).toNat)
  case atStart => exact ⟨2, rfl, by omega, by omega, fun e h3 h4 => by omega, rfl⟩
  case round =>
    obtain ⟨d, rfl, hd, hd10, HD, rfl⟩ := hrel
    rename World => w
    obtain ⟨q, hq⟩ : ∃ q, d * d = q := ⟨_, rfl⟩
    have hqI : (d : Int) * (d : Int) = (q : Int) := by rw [← hq, Int.natCast_mul]
    have hq1 : q ≤ 100 := by rw [← hq]; exact Nat.mul_le_mul hd10 hd10
    have hd9 : q ≤ m → d < 10 := by
      intro h
      rcases Nat.lt_or_ge d 10 with k | k
      · exact k
      · exfalso; have : 10 * 10 ≤ d * d := Nat.mul_le_mul k k; omega
    have HQ := Lib.hid hq
    clear hq
    by_cases hle : q ≤ m
    · have hd9' := hd9 hle
      clear hd9
      by_cases h0 : m % d = 0
      · have H0 := Lib.hid h0
        have hb0 : ((m : Int) % (d : Int) == 0) = true := by rw [beq_iff_eq]; omega
        have hb : primeB (m : Int) = false := primeB_div hd (by rw [hqI]; omega) (by omega) (by omega)
        clear h0
        go_wp2
        go_ret
        rw [hb]
        exact ⟨rfl, rfl⟩
      · have hb0 : ((m : Int) % (d : Int) == 0) = false := by rw [beq_eq_false_iff_ne]; omega
        have H0 := Lib.hid h0
        clear h0
        go_wp2
        go_roundw
        case rel =>
          refine ⟨d + 1, by go_num, by omega, by omega, ?_, by trivial⟩
          intro e h3 h4
          rcases Nat.lt_or_ge e d with k | k
          · exact HD.out e h3 k
          · obtain rfl : e = d := by omega
            have := H0.out; omega
        case measure => simp [intOf]; omega
    · go_wp2
      go_ret
      rw [primeB_true (d := d) (by omega) (by omega) (by rw [hqI]; omega) HD.out]
      exact ⟨rfl, rfl⟩
end Go.Proofs.YtbihoedcbmnccaaGreatDoor
/- enclosure: checkBounds, Of. -/
namespace Go.Proofs.YtbihoedcbmnccaaGreatDoor
open Go.RowKit

theorem primeB_mem {n : Int} (h : primeB n = true) : ∃ p : Nat, n = (p : Int) ∧ (p = 2 ∨ p ∈ odd24) ∧ 0 < p ∧ p < 128 ∧ p.log2 ≤ 6 ∧ 1 ≤ p.log2 := by
  have h1 : 2 ≤ n := by
    by_cases k : n < 2
    · rw [primeB_small k] at h; cases h
    · omega
  have h2 : n ≤ 97 := by
    by_cases k : 97 < n
    · rw [primeB_great k] at h; cases h
    · omega
  have hall : (List.range 98).all (fun p => !primeB (p : Int) || decide ((p = 2 ∨ p ∈ odd24) ∧ 0 < p ∧ p < 128 ∧ p.log2 ≤ 6 ∧ 1 ≤ p.log2)) = true := by decide +kernel
  obtain ⟨p, rfl⟩ : ∃ p : Nat, n = (p : Int) := ⟨n.toNat, by omega⟩
  have := List.all_eq_true.1 hall p (List.mem_range.2 (by omega))
  rw [h] at this
  exact ⟨p, rfl, by simpa using this⟩
/-- The error of a prime with a number of bits. -/
def errB (p n : Int) : Int := if primeB p = false then 25 else if n < 0 ∨ 1000 < n then 3 else 0
theorem check_Bounds (p n : Int) (w : World) : Calls Tryz.prog 50 #[.int .i64 p, .int .i64 n] w fun e w' => e = .returned (.int .i64 (errB p n)) ∧ w' = w := by
  have hpr := prime_Is p w
  cases hb : primeB p with
  | false =>
    have he : errB p n = 25 := by unfold errB; rw [if_pos hb]
    rw [he]
    rw [hb] at hpr
    clear hb he
    go_enter Tryz.func50, Tryz.ntmps50
    go_wp2_with fail
    refine hpr.mono ?_
    rintro e w1 ⟨rfl, rfl⟩
    go_wp2
    go_ret; exact ⟨rfl, rfl⟩
  | true =>
    rw [hb] at hpr
    have he : errB p n = if n < 0 ∨ 1000 < n then 3 else 0 := by unfold errB; rw [if_neg (by rw [hb]; simp)]
    rw [he]
    clear hb he
    by_cases h1 : n < 0
    · rw [if_pos (.inl h1)]
      go_enter Tryz.func50, Tryz.ntmps50
      go_wp2_with fail
      refine hpr.mono ?_
      rintro e w1 ⟨rfl, rfl⟩
      go_wp2
      go_ret; exact ⟨rfl, rfl⟩
    by_cases h2 : 1000 < n
    · rw [if_pos (.inr h2)]
      go_enter Tryz.func50, Tryz.ntmps50
      go_wp2_with fail
      refine hpr.mono ?_
      rintro e w1 ⟨rfl, rfl⟩
      go_wp2
      go_ret; exact ⟨rfl, rfl⟩
    · rw [if_neg (by omega)]
      go_enter Tryz.func50, Tryz.ntmps50
      go_wp2_with fail
      refine hpr.mono ?_
      rintro e w1 ⟨rfl, rfl⟩
      go_wp2
      go_ret; exact ⟨rfl, rfl⟩
theorem sizeBounds : (Tryz.prog.info? 27).map (·.size) = some 3 := by kernel_rfl
/-- Bounds as a value. -/
def bndV (p n : Int) (s : ByteArray) : Value := .agg #[.int .i64 p, .int .i64 n, .string s]

set_option maxHeartbeats 1600000 in
theorem enclosure_Of (p n : Nat) (w : World) (hp : primeB (p : Int) = true) (hn : n ≤ 1000) (hS : St w) :
    Calls Tryz.prog 15 #[.int .i64 (p : Int), .int .i64 (n : Int)] w fun e w' => e = .returned (.tuple #[bndV p n (D (lowN p n)), .int .i64 0]) ∧ Below w.heap.size w w' := by
  obtain ⟨q, hq, h1, h2, h3, h4, h5⟩ := primeB_mem hp
  obtain rfl : q = p := by omega
  have hcb := fun W => check_Bounds (q : Int) (n : Int) W
  rw [show errB (q : Int) (n : Int) = 0 by unfold errB; rw [if_neg (by rw [hp]; simp), if_neg (by omega)]] at hcb
  have hlow := fun W hW => low_any q n W h1 h2 h3 h4 h5 (by omega) hW
  have HB0 : Hid (Bo (w.alloc (.cells #[.int .i64 0, .int .i64 0, .string ⟨#[]⟩] 27)) w.heap.size w.heap.size 27 [.int .i64 0, .int .i64 0, .string ⟨#[]⟩]) := Bo.new w _ _ (by decide)
  have HA : Hid (Below w.heap.size w (w.alloc (.cells #[.int .i64 0, .int .i64 0, .string ⟨#[]⟩] 27))) := (Below.refl _ _).alloc (Nat.le_refl _) _
  have HLOW := Lib.hid hlow
  clear hlow hp hq
  unfold bndV
  generalize D (lowN q n) = dl at *
  go_enter Tryz.func15, Tryz.ntmps15
  go_wp2_with fail
  generalize w.alloc (.cells #[.int .i64 0, .int .i64 0, .string ⟨#[]⟩] 27) = W at HB0 HA ⊢
  refine (hcb _).mono ?_
  rintro e w1 ⟨rfl, rfl⟩
  go_wp2_with fail
  refine (HLOW.out _ (hS.b HA.out)).mono ?_
  rintro e w2 ⟨rfl, hb2⟩
  have ho := HB0.out.below hb2
  have c0 := ho.cell 0 (by simp)
  have c1 := ho.cell 1 (by simp)
  have c2 := ho.cell 2 (by simp)
  have f0 := ho.fz 0
  have f1 := ho.fz 1
  have f2 := ho.fz 2
  have hlt := ho.lt.2
  have HE := Lib.hid ((((ho.put 0 (.int .i64 (q : Int))).put 1 (.int .i64 (n : Int))).put 2 (.string dl)))
  have HBB := Lib.hid (belowG (belowG (belowG (bT HA.out hb2) (ho.putg 0 (.int .i64 (q : Int))) (bT HA.out hb2).size (fun g hg => by cases hg; exact Nat.le_refl _)) ((ho.put 0 (.int .i64 (q : Int))).putg 1 (.int .i64 (n : Int))) (by have := (bT HA.out hb2).size; simpa using this) (fun g hg => by cases hg; exact Nat.le_refl _)) (((ho.put 0 (.int .i64 (q : Int))).put 1 (.int .i64 (n : Int))).putg 2 (.string dl)) (by have := (bT HA.out hb2).size; simpa using this) (fun g hg => by cases hg; exact Nat.le_refl _))
  clear ho hb2
  go_wp2
  refine box_ret1 rfl rfl HE.out Tryz.underlying27 rfl sizeBounds rfl ?_
  exact ⟨rfl, HBB.out⟩
end Go.Proofs.YtbihoedcbmnccaaGreatDoor
/- fraction: Min, Max. -/
namespace Go.Proofs.YtbihoedcbmnccaaGreatDoor
attribute [local go_sem ↓] Go.wp_at_zero Go.wp_at_succ
open Go.RowKit

set_option maxHeartbeats 1600000 in
set_option maxRecDepth 100000 in
theorem min_walk (s t s' t' u v : ByteArray) (c : Int) (hc : (c < 0 ∧ u = s' ∧ v = t') ∨ (¬ c < 0 ∧ u = s ∧ v = t))
    (hcmp : ∀ W, St W → Calls Tryz.prog 34 #[V2 s' t', V2 s t] W fun e' w' => e' = .returned (.int .i64 c) ∧ Below W.heap.size W w') (w : World) (hS : St w) :
    Calls Tryz.prog 83 #[V2 s t, V2 s' t'] w fun e w' => e = .returned (V2 u v) ∧ Below w.heap.size w w' := by
  have hB := B3.new w s t s' t'
  have HA := Lib.hid (below3 w s t s' t')
  rcases hc with ⟨hneg, rfl, rfl⟩ | ⟨hneg, rfl, rfl⟩
  all_goals
    go_enter Tryz.func83, Tryz.ntmps83
    go_wp2_with fail
    generalize ((w.alloc (.cells #[.string _, .string _] 42)).alloc (.cells #[.string _, .string _] 42)).alloc (.cells #[.string ⟨#[]⟩, .string ⟨#[]⟩] 42) = W at hB HA ⊢
    have hK := K3.mk hB hS HA.out
    refine (hcmp _ hK.st).mono ?_
    rintro e w1 ⟨rfl, hb1⟩
    have hK1 := hK.below hb1
    obtain ⟨_, d0, d1, d2, d3⟩ := hK1.all
    obtain ⟨x0, y0, ho⟩ := hK1.b3.out
    have c0 := ho.cell 0 (by simp)
    have c1 := ho.cell 1 (by simp)
    have f0 := ho.fz 0
    have f1 := ho.fz 1
    have hlt := ho.lt.2
    have HE := Lib.hid (hK1.put u v)
    clear hB hK hK1 ho hb1
    go_wp2
    refine box_ret rfl rfl HE.out.2 Tryz.underlying42 rfl sizeRat rfl ?_
    exact ⟨rfl, HE.out.1.be⟩
set_option maxHeartbeats 1600000 in
set_option maxRecDepth 100000 in
theorem max_walk (s t s' t' u v : ByteArray) (c : Int) (hc : (0 < c ∧ u = s' ∧ v = t') ∨ (¬ 0 < c ∧ u = s ∧ v = t))
    (hcmp : ∀ W, St W → Calls Tryz.prog 34 #[V2 s' t', V2 s t] W fun e' w' => e' = .returned (.int .i64 c) ∧ Below W.heap.size W w') (w : World) (hS : St w) :
    Calls Tryz.prog 84 #[V2 s t, V2 s' t'] w fun e w' => e = .returned (V2 u v) ∧ Below w.heap.size w w' := by
  have hB := B3.new w s t s' t'
  have HA := Lib.hid (below3 w s t s' t')
  rcases hc with ⟨hneg, rfl, rfl⟩ | ⟨hneg, rfl, rfl⟩
  all_goals
    go_enter Tryz.func84, Tryz.ntmps84
    go_wp2_with fail
    generalize ((w.alloc (.cells #[.string _, .string _] 42)).alloc (.cells #[.string _, .string _] 42)).alloc (.cells #[.string ⟨#[]⟩, .string ⟨#[]⟩] 42) = W at hB HA ⊢
    have hK := K3.mk hB hS HA.out
    refine (hcmp _ hK.st).mono ?_
    rintro e w1 ⟨rfl, hb1⟩
    have hK1 := hK.below hb1
    obtain ⟨_, d0, d1, d2, d3⟩ := hK1.all
    obtain ⟨x0, y0, ho⟩ := hK1.b3.out
    have c0 := ho.cell 0 (by simp)
    have c1 := ho.cell 1 (by simp)
    have f0 := ho.fz 0
    have f1 := ho.fz 1
    have hlt := ho.lt.2
    have HE := Lib.hid (hK1.put u v)
    clear hB hK hK1 ho hb1
    go_wp2
    refine box_ret rfl rfl HE.out.2 Tryz.underlying42 rfl sizeRat rfl ?_
    exact ⟨rfl, HE.out.1.be⟩
/-- The lesser and the greater fraction. -/
def minQ (a b : Rat) : Rat := if cmpQ b a < 0 then b else a
def maxQ (a b : Rat) : Rat := if 0 < cmpQ b a then b else a
theorem fraction_Min (a b : Rat) (ha : nd a.num ≤ 100000 ∧ Lib.nDigits a.den ≤ 100000) (hb : nd b.num ≤ 100000 ∧ Lib.nDigits b.den ≤ 100000) (w : World) (hS : St w) :
    Calls Tryz.prog 83 #[Rv a, Rv b] w fun e w' => e = .returned (Rv (minQ a b)) ∧ Below w.heap.size w w' := by
  refine min_walk (I a.num) (D a.den) (I b.num) (D b.den) (I (minQ a b).num) (D (minQ a b).den) (cmpQ b a) ?_ (fun W hW => fraction_Compare b a hb ha W hW) w hS
  unfold minQ
  by_cases h : cmpQ b a < 0
  · rw [if_pos h]; exact .inl ⟨h, rfl, rfl⟩
  · rw [if_neg h]; exact .inr ⟨h, rfl, rfl⟩
theorem fraction_Max (a b : Rat) (ha : nd a.num ≤ 100000 ∧ Lib.nDigits a.den ≤ 100000) (hb : nd b.num ≤ 100000 ∧ Lib.nDigits b.den ≤ 100000) (w : World) (hS : St w) :
    Calls Tryz.prog 84 #[Rv a, Rv b] w fun e w' => e = .returned (Rv (maxQ a b)) ∧ Below w.heap.size w w' := by
  refine max_walk (I a.num) (D a.den) (I b.num) (D b.den) (I (maxQ a b).num) (D (maxQ a b).den) (cmpQ b a) ?_ (fun W hW => fraction_Compare b a hb ha W hW) w hS
  unfold maxQ
  by_cases h : 0 < cmpQ b a
  · rw [if_pos h]; exact .inl ⟨h, rfl, rfl⟩
  · rw [if_neg h]; exact .inr ⟨h, rfl, rfl⟩
end Go.Proofs.YtbihoedcbmnccaaGreatDoor
/- prime: Check of a list. -/
namespace Go.Proofs.YtbihoedcbmnccaaGreatDoor
open Go.RowKit

/-- Numbers that may be read. -/
def RdI (w : World) (g o : Nat) (xs : List Int) : Prop := g < w.heap.size ∧ ∀ j, j < xs.length → w.cell? ⟨g, o + j, none⟩ = some (.int .i64 (xs.getD j 0))
/-- A list of numbers as a value in a world: nil, empty, or cells that may be read. -/
def IntsAt (w : World) (v : Value) (xs : List Int) : Prop := (xs = [] ∧ ∃ a c, v = .slice a 0 c) ∨ (xs ≠ [] ∧ ∃ g o c, v = .slice (some ⟨g, o, none⟩) xs.length c ∧ RdI w g o xs)
theorem RdI.b {w w' : World} {g o : Nat} {xs : List Int} (h : RdI w g o xs) (hb : Below w.heap.size w w') : RdI w' g o xs :=
  ⟨Nat.lt_of_lt_of_le h.1 hb.size, fun j hj => by
    have hg : w.grownBy w' none := ⟨hb.os, hb.tape, hb.output, hb.size, fun k hk _ => hb.block k hk⟩
    exact hg.cell (h.2 j hj) (by simp)⟩
theorem IntsAt.b {w w' : World} {v : Value} {xs : List Int} (h : IntsAt w v xs) (hb : Below w.heap.size w w') : IntsAt w' v xs := by
  rcases h with h | ⟨h0, g, o, c, h1, h2⟩
  · exact .inl h
  · exact .inr ⟨h0, g, o, c, h1, h2.b hb⟩
/-- The first error of a list's elements. -/
def chkP : Option Int → List Int → Int
  | _, [] => 0
  | p, x :: r => if primeB x = false then 25 else if (match p with | some y => decide (x ≤ y) | none => false) = true then 6 else chkP (some x) r
theorem chkP_cons (p : Option Int) (x : Int) (r : List Int) : chkP p (x :: r) = if primeB x = false then 25 else if (match p with | some y => decide (x ≤ y) | none => false) = true then 6 else chkP (some x) r := by
  cases p <;> rfl
theorem chkP_nil (p : Option Int) : chkP p [] = 0 := by cases p <;> rfl
/-- The error of a list. -/
def errP (xs : List Int) : Int := if xs = [] then 13 else if 6 < xs.length then 4 else chkP none xs
/-- What stands before place m. -/
def prevP (xs : List Int) (m : Nat) : Option Int := if m = 0 then none else some (xs.getD (m - 1) 0)
theorem chkP_step {xs : List Int} {m : Nat} (hm : m < xs.length) : chkP (prevP xs m) (xs.drop m) =
    if primeB (xs.getD m 0) = false then 25 else if 0 < m ∧ xs.getD m 0 ≤ xs.getD (m - 1) 0 then 6 else chkP (prevP xs (m + 1)) (xs.drop (m + 1)) := by
  have hd : xs.drop m = xs.getD m 0 :: xs.drop (m + 1) := by
    rw [List.drop_eq_getElem_cons hm, List.getD_eq_getElem?_getD, List.getElem?_eq_getElem hm]; rfl
  rw [hd, chkP_cons]
  have hp : prevP xs (m + 1) = some (xs.getD m 0) := by unfold prevP; rw [if_neg (by omega), Nat.add_sub_cancel]
  rw [hp]
  by_cases h0 : m = 0
  · subst h0
    rw [show prevP xs 0 = none from rfl]
    simp
  · have : prevP xs m = some (xs.getD (m - 1) 0) := by unfold prevP; rw [if_neg h0]
    rw [this]
    simp only [decide_eq_true_eq]
    have h1 : 0 < m := by omega
    simp only [h1, true_and]

set_option maxHeartbeats 1600000 in
theorem prime_Check (v : Value) (xs : List Int) (w : World) (hx : IntsAt w v xs) : Calls Tryz.prog 61 #[v] w fun e w' => e = .returned (.int .i64 (errP xs)) ∧ w' = w := by
  rcases hx with ⟨rfl, a, c, rfl⟩ | ⟨h0, g, o, c, rfl, hr⟩
  · rw [show errP [] = 13 from rfl]
    go_enter Tryz.func61, Tryz.ntmps61
    go_wp2
    go_ret; exact ⟨rfl, rfl⟩
  · have hl : 0 < xs.length := List.length_pos_iff.2 h0
    by_cases h6 : 6 < xs.length
    · rw [show errP xs = 4 by unfold errP; rw [if_neg h0, if_pos h6]]
      clear h0
      go_enter Tryz.func61, Tryz.ntmps61
      go_wp2
      go_ret; exact ⟨rfl, rfl⟩
    · rw [show errP xs = chkP none xs by unfold errP; rw [if_neg h0, if_neg h6]]
      clear h0
      have hq0 : ((xs.length : Int) == 0) = false := by rw [beq_eq_false_iff_ne]; omega
      have hq6 : decide ((6 : Int) < (xs.length : Int)) = false := decide_eq_false (by omega)
      go_enter Tryz.func61, Tryz.ntmps61
      go_wp2
      go_loopw [15] (fun i wr => ∃ m : Nat, i = .int .i64 (m : Int) ∧ m ≤ xs.length ∧ Hid (chkP none xs = chkP (prevP xs m) (xs.drop m)) ∧ wr = w) (fun i _ => xs.length - (intOf i).toNat)
      case atStart => exact ⟨0, rfl, by omega, rfl, rfl⟩
      case round =>
        obtain ⟨m, rfl, hm, HC, rfl⟩ := hrel
        rename World => w
        by_cases hlt : m < xs.length
        · have hst := chkP_step hlt
          rw [← HC.out] at hst
          have hc := hr.2 m hlt
          have hcp := fun h : 0 < m => hr.2 (m - 1) (by omega)
          have HCP := Lib.hid hcp
          have hpr := prime_Is (xs.getD m 0) w
          generalize hx : xs.getD m 0 = x at *
          cases hb : primeB x with
          | false =>
            rw [hb, if_pos rfl] at hst
            have HST := Lib.hid hst
            rw [hb] at hpr
            clear hst hcp hb hx
            go_wp2_with fail
            refine hpr.mono ?_
            rintro e w1 ⟨rfl, rfl⟩
            go_wp2
            go_ret
            refine ⟨?_, rfl⟩
            rw [HST.out]; rfl
          | true =>
            rw [hb, if_neg (by simp)] at hst
            rw [hb] at hpr
            have HST := Lib.hid hst
            clear hb hst hcp
            by_cases hm0 : m = 0
            · subst hm0
              rw [Nat.add_zero] at hc
              go_wp2_with fail
              refine hpr.mono ?_
              rintro e w1 ⟨rfl, rfl⟩
              go_wp2
              go_roundw
              case rel =>
                refine ⟨1, by go_num, by omega, ?_, by trivial⟩
                have := HST.out
                rw [if_neg (by omega)] at this; exact this
              case measure => simp [intOf]; omega
            · have hc1 := HCP.out (by omega)
              have hm1 : 0 < m := by omega
              have hmi : (m : Int) - 1 = ((m - 1 : Nat) : Int) := by omega
              clear hm0
              generalize hy : xs.getD (m - 1) 0 = y at *
              obtain ⟨k, hk⟩ : ∃ k, m - 1 = k := ⟨_, rfl⟩
              rw [hk] at hc1 hmi
              have hk1 : k < xs.length := by omega
              clear hk hy
              by_cases hle : x ≤ y
              · have HLE := Lib.hid hle
                go_wp2_with fail
                refine hpr.mono ?_
                rintro e w1 ⟨rfl, rfl⟩
                go_wp2
                go_ret
                refine ⟨?_, rfl⟩
                rw [HST.out, if_pos ⟨hm1, HLE.out⟩]; rfl
              · have HLE := Lib.hid hle
                go_wp2_with fail
                refine hpr.mono ?_
                rintro e w1 ⟨rfl, rfl⟩
                go_wp2
                go_roundw
                case rel =>
                  refine ⟨m + 1, by go_num, by omega, ?_, by trivial⟩
                  have := HST.out
                  rw [if_neg (fun h => by have := HLE.out; have := h.2; omega)] at this; exact this
                case measure => simp [intOf]; omega
        · obtain rfl : m = xs.length := by omega
          go_wp2
          go_ret
          refine ⟨?_, rfl⟩
          rw [HC.out, List.drop_length, chkP_nil]; rfl
end Go.Proofs.YtbihoedcbmnccaaGreatDoor
/- fraction: Check, of any strings. -/
namespace Go.Proofs.YtbihoedcbmnccaaGreatDoor
attribute [local go_sem ↓] Go.wp_at_zero Go.wp_at_succ
open Go.RowKit

/-- Two strings that are a right fraction's. -/
def rightQ (s t : ByteArray) : Prop := ∃ q : Rat, s = I q.num ∧ t = D q.den ∧ nd q.num ≤ 400 ∧ Lib.nDigits q.den ≤ 400
theorem rightQ.num {s t : ByteArray} (h : rightQ s t) : wcanon s := let ⟨q, h1, _, h3, _⟩ := h; ⟨q.num, h1, h3⟩
theorem rightQ.den {s t : ByteArray} (h : rightQ s t) : wcanon t := let ⟨q, _, h2, _, h4⟩ := h; ⟨q.den, by rw [I_nat]; exact h2, by rw [nd_nat]; exact h4⟩
theorem rightQ_I {n d : Int} (hn : nd n ≤ 400) (hd : nd d ≤ 400) : rightQ (I n) (I d) ↔ 0 < d ∧ Int.gcd n d = 1 := by
  constructor
  · rintro ⟨q, h1, h2, _, _⟩
    have e1 : n = q.num := I_inj h1
    have e2 : d = q.den := I_inj (by rw [h2, I_nat])
    have := q.den_pos
    refine ⟨by omega, ?_⟩
    rw [e1, e2]
    show Nat.gcd q.num.natAbs (q.den : Int).natAbs = 1
    rw [Int.natAbs_natCast]
    exact q.reduced
  · rintro ⟨h0, hg⟩
    obtain ⟨k, rfl⟩ : ∃ k : Nat, d = (k : Int) := ⟨d.toNat, by omega⟩
    refine ⟨⟨n, k, by omega, ?_⟩, rfl, I_nat k, hn, by rw [← nd_nat]; exact hd⟩
    have : Nat.gcd n.natAbs (k : Int).natAbs = 1 := hg
    rwa [Int.natAbs_natCast] at this
/-- Contracts of the calls in Check: what a string's Check, Sign, Gcd return. -/
abbrev CkS (s : ByteArray) (v : Int) : Prop := ∀ W, Calls Tryz.prog 98 #[.string s] W fun e w' => e = .returned (.int .i64 v) ∧ Below W.heap.size W w'
set_option maxHeartbeats 1600000 in
set_option maxRecDepth 100000 in
theorem fcheck1 (s t : ByteArray) (h1 : CkS s 2) (w : World) :
    Calls Tryz.prog 122 #[V2 s t] w fun e w' => e = .returned (.int .i64 2) ∧ Below w.heap.size w w' := by
  have HA := Lib.hid (box1 w s t)
  have H1 := Lib.hid h1
  clear h1
  go_enter Tryz.func122, Tryz.ntmps122
  go_wp2_with fail
  generalize w.alloc (.cells #[.string s, .string t] 42) = W at HA ⊢
  refine (H1.out _).mono ?_
  rintro e w1 ⟨rfl, hb1⟩
  go_wp2
  go_ret; exact ⟨rfl, bT HA.out.2 hb1⟩
set_option maxHeartbeats 1600000 in
set_option maxRecDepth 100000 in
theorem fcheck2 (s t : ByteArray) (h1 : CkS s 0) (h2 : CkS t 2) (w : World) :
    Calls Tryz.prog 122 #[V2 s t] w fun e w' => e = .returned (.int .i64 2) ∧ Below w.heap.size w w' := by
  have HA := Lib.hid (box1 w s t)
  have H1 := Lib.hid h1
  have H2 := Lib.hid h2
  clear h1 h2
  go_enter Tryz.func122, Tryz.ntmps122
  go_wp2_with fail
  generalize w.alloc (.cells #[.string s, .string t] 42) = W at HA ⊢
  refine (H1.out _).mono ?_
  rintro e w1 ⟨rfl, hb1⟩
  have ho := HA.out.1.below hb1
  have c0 := ho.cell 0 (by simp)
  have c1 := ho.cell 1 (by simp)
  have hlt := ho.lt.2
  clear ho
  go_wp2_with fail
  refine (H2.out _).mono ?_
  rintro e w2 ⟨rfl, hb2⟩
  go_wp2
  go_ret; exact ⟨rfl, bT HA.out.2 (bT hb1 hb2)⟩
set_option maxHeartbeats 1600000 in
set_option maxRecDepth 100000 in
theorem fcheck3 (s t : ByteArray) (sg : Int) (h1 : CkS s 0) (h2 : CkS t 0) (h3 : ∀ W, Calls Tryz.prog 68 #[.string t] W fun e w' => e = .returned (.int .i64 sg) ∧ Below W.heap.size W w') (hsg : sg ≤ 0) (w : World) :
    Calls Tryz.prog 122 #[V2 s t] w fun e w' => e = .returned (.int .i64 2) ∧ Below w.heap.size w w' := by
  have HA := Lib.hid (box1 w s t)
  have H1 := Lib.hid h1
  have H2 := Lib.hid h2
  have H3 := Lib.hid h3
  clear h1 h2 h3
  go_enter Tryz.func122, Tryz.ntmps122
  go_wp2_with fail
  generalize w.alloc (.cells #[.string s, .string t] 42) = W at HA ⊢
  refine (H1.out _).mono ?_
  rintro e w1 ⟨rfl, hb1⟩
  have ho := HA.out.1.below hb1
  have c0 := ho.cell 0 (by simp)
  have c1 := ho.cell 1 (by simp)
  have hlt := ho.lt.2
  have HO := Lib.hid ho
  clear ho
  go_wp2_with fail
  refine (H2.out _).mono ?_
  rintro e w2 ⟨rfl, hb2⟩
  have ho := HO.out.below hb2
  have d0 := ho.cell 0 (by simp)
  have d1 := ho.cell 1 (by simp)
  have hlt2 := ho.lt.2
  clear ho
  go_wp2_with fail
  refine (H3.out _).mono ?_
  rintro e w3 ⟨rfl, hb3⟩
  go_wp2
  go_ret; exact ⟨rfl, bT HA.out.2 (bT hb1 (bT hb2 hb3))⟩
set_option maxHeartbeats 1600000 in
set_option maxRecDepth 100000 in
theorem fcheck4 (s t u : ByteArray) (sg v : Int) (hv : (v = 0 ∧ (u.toList == [49]) = true) ∨ (v = 2 ∧ (u.toList == [49]) = false)) (h1 : CkS s 0) (h2 : CkS t 0) (h3 : ∀ W, Calls Tryz.prog 68 #[.string t] W fun e w' => e = .returned (.int .i64 sg) ∧ Below W.heap.size W w') (hsg : 0 < sg)
    (h4 : ∀ W, St W → Calls Tryz.prog 150 #[.string s, .string t] W fun e w' => e = .returned (.string u) ∧ Below W.heap.size W w') (w : World) (hS : St w) :
    Calls Tryz.prog 122 #[V2 s t] w fun e w' => e = .returned (.int .i64 v) ∧ Below w.heap.size w w' := by
  have HA := Lib.hid (box1 w s t)
  have H1 := Lib.hid h1
  have H2 := Lib.hid h2
  have H3 := Lib.hid h3
  have H4 := Lib.hid h4
  clear h1 h2 h3 h4
  rcases hv with ⟨rfl, hu⟩ | ⟨rfl, hu⟩
  all_goals
    go_enter Tryz.func122, Tryz.ntmps122
    go_wp2_with fail
    generalize w.alloc (.cells #[.string s, .string t] 42) = W at HA ⊢
    refine (H1.out _).mono ?_
    rintro e w1 ⟨rfl, hb1⟩
    have ho := HA.out.1.below hb1
    have c0 := ho.cell 0 (by simp)
    have c1 := ho.cell 1 (by simp)
    have hlt := ho.lt.2
    have HO := Lib.hid ho
    clear ho
    go_wp2_with fail
    refine (H2.out _).mono ?_
    rintro e w2 ⟨rfl, hb2⟩
    have ho := HO.out.below hb2
    have d0 := ho.cell 0 (by simp)
    have d1 := ho.cell 1 (by simp)
    have hlt2 := ho.lt.2
    have HO2 := Lib.hid ho
    clear ho
    go_wp2_with fail
    refine (H3.out _).mono ?_
    rintro e w3 ⟨rfl, hb3⟩
    have ho := HO2.out.below hb3
    have e0 := ho.cell 0 (by simp)
    have e1 := ho.cell 1 (by simp)
    have hlt3 := ho.lt.2
    clear ho
    have hbb := bT HA.out.2 (bT hb1 (bT hb2 hb3))
    have HBB := Lib.hid hbb
    clear hb1 hb2 hb3 hbb
    go_wp2_with fail
    refine (H4.out _ (hS.b HBB.out)).mono ?_
    rintro e w4 ⟨rfl, hb4⟩
    go_wp2
    go_ret; exact ⟨rfl, bT HBB.out hb4⟩
/-- Check, of any strings. -/
theorem fraction_Check (s t : ByteArray) (v : Int) (hv : v = 0 ∧ rightQ s t ∨ v = 2 ∧ ¬ rightQ s t) (hs : s.size ≤ 1000000) (ht : t.size ≤ 1000000) (w : World) (hS : St w) :
    Calls Tryz.prog 122 #[V2 s t] w fun e w' => e = .returned (.int .i64 v) ∧ Below w.heap.size w w' := by
  by_cases c1 : wcanon s
  · have k1 : CkS s 0 := fun W => whole_Check s 0 (.inl ⟨rfl, c1⟩) (by omega) W
    by_cases c2 : wcanon t
    · have k2 : CkS t 0 := fun W => whole_Check t 0 (.inl ⟨rfl, c2⟩) (by omega) W
      obtain ⟨n, rfl, hn⟩ := c1
      obtain ⟨d, rfl, hd⟩ := c2
      have hiff := rightQ_I hn hd
      have k3 := fun W => whole_Sign d W
      have k4 := fun W hW => whole_Gcd n d (by omega) (by omega) W hW
      rw [hiff] at hv
      by_cases c3 : d ≤ 0
      · have hv2 : v = 2 := by
          rcases hv with ⟨_, h⟩ | ⟨h, _⟩
          · have := h.1; omega
          · exact h
        subst hv2
        have hsg : d.sign ≤ 0 := by
          by_cases h : d = 0
          · rw [h]; decide
          · rw [Int.sign_eq_neg_one_of_neg (by omega)]; decide
        exact fcheck3 _ _ _ k1 k2 k3 hsg w
      · refine fcheck4 _ _ _ _ v ?_ k1 k2 k3 (by rw [Int.sign_eq_one_of_pos (by omega)]; decide) k4 w hS
        rw [D_is1]
        rcases hv with ⟨h1, h2⟩ | ⟨h1, h2⟩
        · exact .inl ⟨h1, decide_eq_true h2.2⟩
        · exact .inr ⟨h1, decide_eq_false fun h => h2 ⟨by omega, h⟩⟩
    · have hv2 : v = 2 := by
        rcases hv with ⟨_, h⟩ | ⟨h, _⟩
        · exact absurd h.den c2
        · exact h
      subst hv2
      exact fcheck2 s t k1 (fun W => whole_Check t 2 (.inr ⟨rfl, c2⟩) (by omega) W) w
  · have hv2 : v = 2 := by
      rcases hv with ⟨_, h⟩ | ⟨h, _⟩
      · exact absurd h.num c1
      · exact h
    subst hv2
    exact fcheck1 s t (fun W => whole_Check s 2 (.inr ⟨rfl, c1⟩) (by omega) W) w
end Go.Proofs.YtbihoedcbmnccaaGreatDoor
