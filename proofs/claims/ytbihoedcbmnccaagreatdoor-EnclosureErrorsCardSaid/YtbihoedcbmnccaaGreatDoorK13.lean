/- Plain: the values of some logarithms, by the kernel's run. -/
import Derived.Test.YtbihoedcbmnccaaGreatDoorK7
import Derived.Test.YtbihoedcbmnccaaGreatDoorK12
import Derived.Test.YtbihoedcbmnccaaGreatDoorK1
import Derived.Test.YtbihoedcbmnccaaGreatDoorK11
import Derived.Test.YtbihoedcbmnccaaGreatDoorRows
import Derived.ProofKit
import Derived.LaidMore
import Derived.OpenShut
import Derived.Stop.Joined
import Derived.Lib.LaidTab
import Derived.Below
import Derived.Carry
import Derived.Deep.AppendLies
namespace Go.Proofs.YtbihoedcbmnccaaGreatDoor
/-- The squares, with the digits put together. -/
def runV (P : Nat) : Nat → Nat → Nat → Nat → Option Nat
  | 0, _, _, acc => some acc
  | _ + 1, 0, _, _ => none
  | _ + 1, _ + 1, 0, _ => none
  | f + 1, l + 1, h + 1, acc =>
    if (2 ^ 50 + 1) * 2 ^ (2 * P + 1) ≤ (l + 1) * (l + 1) * 2 ^ 50 then runV P f ((l + 1) * (l + 1) / 2 ^ P / 2) ((h + 1) * (h + 1) / 2 ^ P / 2 + 1) (2 * acc + 1)
    else if (h + 1) * (h + 1) * (2 ^ 50 + 1) ≤ 2 ^ 50 * 2 ^ (2 * P + 1) then runV P f ((l + 1) * (l + 1) / 2 ^ P) ((h + 1) * (h + 1) / 2 ^ P + 1) (2 * acc)
    else none
theorem runV_low {p P : Nat} (hp : 0 < p) : ∀ (f j lo hi acc r : Nat), Enc p P j lo hi → lowN p j = acc → runV P f lo hi acc = some r → lowN p (j + f) = r := by
  intro f
  induction f with
  | zero => intro j lo hi acc r _ ha hr; rw [runV] at hr; injection hr with hr; rw [Nat.add_zero, ha, hr]
  | succ f ih =>
    intro j lo hi acc r he ha hr
    have hP : 0 < 2 ^ (2 * P) := Nat.two_pow_pos _
    obtain ⟨s1, s2⟩ := he.sq
    match lo, hi, he, hr with
    | 0, _, _, hr => simp [runV] at hr
    | _ + 1, 0, _, hr => simp [runV] at hr
    | l + 1, h + 1, he, hr =>
      rw [runV] at hr
      by_cases c : (2 ^ 50 + 1) * 2 ^ (2 * P + 1) ≤ (l + 1) * (l + 1) * 2 ^ 50
      · rw [if_pos c] at hr
        have m : (2 ^ 50 + 1) * 2 ^ (2 * lowN p j + 1) ≤ tw p (j + 1) * 2 ^ 50 := by
          refine Nat.le_of_mul_le_mul_right (c := 2 ^ (2 * P)) ?_ hP
          have h3 := Nat.mul_le_mul_right (2 ^ 50) s1
          have h4 := Nat.mul_le_mul_right (2 ^ (2 * lowN p j)) c
          rw [Nat.pow_succ 2 (2 * P)] at h4; rw [Nat.pow_succ 2 (2 * lowN p j)]
          generalize 2 ^ (2 * P) = u at *; generalize 2 ^ (2 * lowN p j) = v at *; generalize tw p (j + 1) = t at *
          generalize (l + 1) * (l + 1) = w at *
          have e1 : (2 ^ 50 + 1) * (u * 2) * v = (2 ^ 50 + 1) * (v * 2) * u := by ac_rfl
          have e2 : w * 2 ^ 50 * v = w * v * 2 ^ 50 := by ac_rfl
          have e3 : t * u * 2 ^ 50 = t * 2 ^ 50 * u := by ac_rfl
          rw [e1, e2] at h4; rw [e3] at h3; exact Nat.le_trans h4 h3
        have hn : lowN p (j + 1) = 2 * lowN p j + 1 := lowN_up hp (by omega)
        have := ih (j + 1) _ _ _ _ (he.up hn).2 (by rw [hn, ha]) hr
        rwa [show j + 1 + f = j + (f + 1) by omega] at this
      · rw [if_neg c] at hr
        by_cases d : (h + 1) * (h + 1) * (2 ^ 50 + 1) ≤ 2 ^ 50 * 2 ^ (2 * P + 1)
        · rw [if_pos d] at hr
          have m : tw p (j + 1) * (2 ^ 50 + 1) ≤ 2 ^ 50 * 2 ^ (2 * lowN p j + 1) := by
            refine Nat.le_of_mul_le_mul_right (c := 2 ^ (2 * P)) ?_ hP
            have h3 := Nat.mul_le_mul_right (2 ^ 50 + 1) s2
            have h4 := Nat.mul_le_mul_right (2 ^ (2 * lowN p j)) d
            rw [Nat.pow_succ 2 (2 * P)] at h4; rw [Nat.pow_succ 2 (2 * lowN p j)]
            generalize 2 ^ (2 * P) = u at *; generalize 2 ^ (2 * lowN p j) = v at *; generalize tw p (j + 1) = t at *
            generalize (h + 1) * (h + 1) = w at *
            have e1 : 2 ^ 50 * (u * 2) * v = 2 ^ 50 * (v * 2) * u := by ac_rfl
            have e2 : w * (2 ^ 50 + 1) * v = w * v * (2 ^ 50 + 1) := by ac_rfl
            have e3 : t * u * (2 ^ 50 + 1) = t * (2 ^ 50 + 1) * u := by ac_rfl
            rw [e1, e2] at h4; rw [e3] at h3; exact Nat.le_trans h3 h4
          have hn : lowN p (j + 1) = 2 * lowN p j := lowN_same hp (by
            have := Nat.two_pow_pos (2 * lowN p j + 1); omega)
          have := ih (j + 1) _ _ _ _ (he.same hn) (by rw [hn, ha]) hr
          rwa [show j + 1 + f = j + (f + 1) by omega] at this
        · rw [if_neg d] at hr; exact absurd hr (by simp)
theorem lowN_val {p n r : Nat} (hp : 0 < p) (hk : p.log2 ≤ 128) (h : runV 128 n (p * 2 ^ (128 - p.log2)) (p * 2 ^ (128 - p.log2)) p.log2 = some r) : lowN p n = r := by
  have := runV_low hp n 0 _ _ _ r (Enc.first hk) lowN_zero h
  rwa [Nat.zero_add] at this
theorem low3_32 : lowN 3 32 = 6807362105 := lowN_val (by decide) (by decide +kernel) (by decide +kernel)
theorem low3_9 : lowN 3 9 = 811 := lowN_val (by decide) (by decide +kernel) (by decide +kernel)
theorem low3_3 : lowN 3 3 = 12 := lowN_val (by decide) (by decide +kernel) (by decide +kernel)
end Go.Proofs.YtbihoedcbmnccaaGreatDoor
/- enclosure: least, where 32 bits suffice. -/
namespace Go.Proofs.YtbihoedcbmnccaaGreatDoor
attribute [local go_sem ↓] Go.wp_at_zero Go.wp_at_succ
open Go.RowKit

/-- The search between f and g. -/
def bsN (T : Nat → Bool) : Nat → Nat → Nat → Nat
  | 0, _, g => g
  | k + 1, f, g => if f < g then (if T ((f + g - 1) / 2) then bsN T k f ((f + g - 1) / 2) else bsN T k ((f + g - 1) / 2 + 1) g) else g
theorem bsN_end (T : Nat → Bool) {k f g : Nat} (h : g ≤ f) : bsN T k f g = g := by
  cases k with
  | zero => rfl
  | succ k => rw [bsN, if_neg (by omega)]

set_option maxHeartbeats 3200000 in
set_option maxRecDepth 100000 in
theorem least_ok (T : Nat → Bool) (vp vs : Value) (ps : List Nat) (qs : List Rat) (w : World) (hS : St w) (hR : Right w vp vs ps qs)
    (ht : ∀ n W, n ≤ 32 → Below w.heap.size w W → Calls Tryz.prog 71 #[Rv (endsQ ps qs n).1, Rv (endsQ ps qs n).2] W fun e w' => e = .returned (.bool (T n)) ∧ Below W.heap.size W w') (h32 : T 32 = true) :
    Calls Tryz.prog 70 #[vp, vs, .func (.func 71) #[] #[]] w fun e w' => ∃ lb, e = .returned (.tuple #[.pointer (some ⟨lb, 0, none⟩), .int .i64 ((bsN T 33 0 32 : Nat) : Int), .bool true]) ∧ LG w' w.heap.size lb vp vs ps qs 32 ∧ Below w.heap.size w w' := by
  have hop := enc_open vp vs ps qs 32 w hS hR.pr hR.sz hR.len hR.prime (by have := hR.six; omega) (by omega) hR.pos
  have hen := fun lb b W (hb : b ≤ 32) (hW : Below w.heap.size w W) hL => enc_ends w.heap.size lb vp vs ps qs 32 b W (hS.b hW) hL hR.len hR.prime hR.dig (by have := hR.six; omega) hR.pos (by omega) hb
  have HEN := Lib.hid hen
  have HT := Lib.hid ht
  clear hen ht
  obtain ⟨R, hR0⟩ : ∃ R, bsN T 33 0 32 = R := ⟨_, rfl⟩
  rw [hR0]
  have HR0 := Lib.hid hR0
  clear hR0
  go_enter Tryz.func70, Tryz.ntmps70
  go_wp2_with fail
  refine hop.mono ?_
  rintro e w1 ⟨lb, rfl, hL, hb1⟩
  have HL := Lib.hid hL
  have HB1 := Lib.hid hb1
  clear hL hb1 hop
  go_wp2
  go_loopw [9, 10] (fun o l wr => o = .int .i64 32 ∧ l = .pointer (some ⟨lb, 0, none⟩) ∧ wr = w1) (fun _ _ _ => 0)
  case atStart => exact ⟨rfl, rfl, rfl⟩
  case round =>
    obtain ⟨rfl, rfl, rfl⟩ := hrel
    rename World => w1
    go_wp2_with fail
    refine (HEN.out lb 32 _ (by omega) HB1.out HL.out).mono ?_
    rintro e w2 ⟨rfl, hb2⟩
    have HB2 := Lib.hid (bT HB1.out hb2)
    have HL2 := Lib.hid (HL.out.below hb2)
    clear hb2
    go_wp2_with fail
    refine (HT.out 32 _ (by omega) HB2.out).mono ?_
    rintro e w3 ⟨rfl, hb3⟩
    have HB3 := Lib.hid (bT HB2.out hb3)
    have HL3 := Lib.hid (HL2.out.below hb3)
    rw [h32]
    clear hb3
    go_wp2
    go_loopw [11, 12] (fun a c wr => ∃ (f g r : Nat), a = .int .i64 ((f : Int) - 1) ∧ c = .int .i64 (g : Int) ∧ f ≤ g ∧ g ≤ 32 ∧ g - f ≤ r ∧ Hid (bsN T r f g = R) ∧ Hid (LG wr w.heap.size lb vp vs ps qs 32) ∧ Hid (Below w.heap.size w wr)) (fun a c _ => (intOf c - intOf a).toNat)
    case atStart => exact ⟨0, 32, 33, rfl, rfl, by omega, by omega, by omega, HR0.out, HL3.out, HB3.out⟩
    case round =>
      obtain ⟨f, g, r, rfl, rfl, hfg, hg, hr, HBS, HLx, HBx⟩ := hrel
      rename World => wx
      by_cases hlt : f < g
      · obtain ⟨k, rfl⟩ : ∃ k, r = k + 1 := ⟨r - 1, by omega⟩
        obtain ⟨mid, hmid⟩ : ∃ x, (f + g - 1) / 2 = x := ⟨_, rfl⟩
        have hst := HBS.out
        rw [bsN, if_pos hlt, hmid] at hst
        have HST := Lib.hid hst
        have hmI : ((f : Int) - 1 + (g : Int)) / 2 = (mid : Int) := by omega
        have hm0 : 0 ≤ (f : Int) - 1 + (g : Int) := by omega
        have hmt : Int.tdiv ((f : Int) - 1 + (g : Int)) 2 = (mid : Int) := by rw [Int.tdiv_eq_ediv_of_nonneg hm0]; exact hmI
        have hmf : f ≤ mid ∧ mid < g := by omega
        clear hst hmid
        go_wp2_with fail
        refine (HEN.out lb mid _ (by omega) HBx.out HLx.out).mono ?_
        rintro e w4 ⟨rfl, hb4⟩
        have HB4 := Lib.hid (bT HBx.out hb4)
        have HL4 := Lib.hid (HLx.out.below hb4)
        clear hb4
        go_wp2_with fail
        refine (HT.out mid _ (by omega) HB4.out).mono ?_
        rintro e w5 ⟨rfl, hb5⟩
        have HB5 := Lib.hid (bT HB4.out hb5)
        have HL5 := Lib.hid (HL4.out.below hb5)
        clear hb5
        cases htm : T mid with
        | true =>
          rw [htm, if_pos rfl] at HST
          go_wp2
          go_roundw
          case rel => exact ⟨f, mid, k, rfl, rfl, by omega, by omega, by omega, HST.out, HL5.out, HB5.out⟩
          case measure => simp [intOf]; omega
        | false =>
          rw [htm, if_neg (by simp)] at HST
          go_wp2
          go_roundw
          case rel => exact ⟨mid + 1, g, k, by congr 1; omega, rfl, by omega, by omega, by omega, HST.out, HL5.out, HB5.out⟩
          case measure => simp [intOf]; omega
      · have hge : g = f := by omega
        subst hge
        have hend := HBS.out
        rw [bsN_end T (Nat.le_refl _)] at hend
        have HEND := Lib.hid hend
        clear hend
        go_wp2
        go_ret3
        exact ⟨lb, by rw [← HEND.out]; rfl, HLx.out, HBx.out⟩
end Go.Proofs.YtbihoedcbmnccaaGreatDoor
/- enclosure: scaled. -/
namespace Go.Proofs.YtbihoedcbmnccaaGreatDoor
attribute [local go_sem ↓] Go.wp_at_zero Go.wp_at_succ
open Go.RowKit

/-- Cents times a power of ten, rounded. -/
def scaledQ (x : Rat) (k : Nat) : Int := (x * ((1200 * 10 ^ k : Nat) : Int) + halfQ).floor
theorem Rv_int (n : Nat) : Rv (((n : Nat) : Int) : Rat) = V2 (D n) ⟨#[49]⟩ := by
  unfold Rv V2
  rw [show (((n : Nat) : Int) : Rat).num = (n : Int) from Rat.num_intCast .., show (((n : Nat) : Int) : Rat).den = 1 from Rat.den_intCast .., I_nat, D_one]
theorem Sz_int {n k : Nat} (h : Lib.nDigits n ≤ k) (hk : 1 ≤ k) : Sz k (((n : Nat) : Int) : Rat) := by
  refine ⟨?_, ?_⟩
  · rw [show (((n : Nat) : Int) : Rat).num = (n : Int) from Rat.num_intCast .., nd_nat]; exact h
  · rw [show (((n : Nat) : Int) : Rat).den = 1 from Rat.den_intCast ..]; exact Nat.le_trans (by decide +kernel) hk
set_option maxHeartbeats 1600000 in
set_option maxRecDepth 100000 in
theorem enc_scaled (x : Rat) (k : Nat) (hk : k ≤ 9) (hx : Sz 90000 x) (w : World) (hS : St w) : Calls Tryz.prog 127 #[Rv x, .int .i64 (k : Int)] w fun e w' => e = .returned (.string (I (scaledQ x k))) ∧ Below w.heap.size w w' := by
  have hlim : 1200 * 10 ^ k ≤ 1200000000000 := by
    have : 10 ^ k ≤ 10 ^ 9 := Nat.pow_le_pow_right (by decide) hk
    omega
  have hof := fun W hW => whole_OfN (1200 * 10 ^ k) (by omega) W hW
  have hsb := Sz_int (n := 1200 * 10 ^ k) (k := 14) (nDigits_le (by decide) (by omega)) (by decide)
  have hmu := fun W hW => fraction_Mul x ((1200 * 10 ^ k : Nat) : Int) (hx.mono (by decide)) (hsb.mono (by decide)) W hW
  have hne := fun W hW => fraction_Nearest (x * ((1200 * 10 ^ k : Nat) : Int)) ((hx.mul hsb).mono (show 90000 + 14 ≤ 100000 by decide)).1 ((hx.mul hsb).mono (show 90000 + 14 ≤ 100000 by decide)).2 W hW
  rw [Rv_int] at hmu
  unfold scaledQ
  have HA := Lib.hid (box1 w (I x.num) (D x.den))
  unfold Rv at hmu hne ⊢
  generalize x * ((1200 * 10 ^ k : Nat) : Int) = z at *
  have HOF := Lib.hid hof
  have HMU := Lib.hid hmu
  have HNE := Lib.hid hne
  clear hof hmu hne hsb hx
  generalize I (z + halfQ).floor = rs at *
  generalize I x.num = s at *
  generalize D x.den = t at *
  obtain ⟨bb, hbb⟩ : ∃ y, 1200 * 10 ^ k = y := ⟨_, rfl⟩
  rw [hbb] at HOF HMU hlim
  have HBY := Lib.hid hbb
  clear hbb
  go_enter Tryz.func127, Tryz.ntmps127
  go_wp2
  generalize w.alloc (.cells #[.string s, .string t] 42) = W at HA ⊢
  go_loopw [5, 7] (fun b i wr => ∃ (j y : Nat), b = .int .i64 (y : Int) ∧ i = .int .i64 (j : Int) ∧ j ≤ k ∧ y ≤ 1200000000000 ∧ Hid (y = 1200 * 10 ^ j) ∧ wr = W) (fun _ i _ => k - (intOf i).toNat)
  case atStart => exact ⟨0, 1200, rfl, rfl, by omega, by omega, rfl, by trivial⟩
  case round =>
    obtain ⟨j, y, rfl, rfl, hj, hy, HY, rfl⟩ := hrel
    rename World => W
    by_cases hlt : j < k
    · have hnext : y * 10 ≤ 1200000000000 := by
        have h1 : 10 ^ (j + 1) ≤ 10 ^ k := Nat.pow_le_pow_right (by decide) hlt
        have h2 := HBY.out
        have h3 := HY.out
        rw [Nat.pow_succ] at h1
        omega
      have HNX : Hid (y * 10 = 1200 * 10 ^ (j + 1)) := by show _ = _; rw [HY.out, Nat.pow_succ, Nat.mul_assoc]
      go_wp2
      go_roundw
      case rel => exact ⟨j + 1, y * 10, by go_num, by go_num, by omega, hnext, HNX.out, by trivial⟩
      case measure => simp [intOf]; omega
    · have hjk : j = k := by omega
      have hyb : y = bb := by rw [HY.out, hjk, HBY.out]
      subst hyb
      subst hjk
      have d0 := HA.out.1.cell 0 (by simp)
      have d1 := HA.out.1.cell 1 (by simp)
      simp only [List.getElem_cons_zero, List.getElem_cons_succ] at d0 d1
      go_wp2
      have hwd : Below w.heap.size w W.drew := HA.out.2.drew
      go_region_held3 (fun V => V.cell? ⟨w.heap.size, 0, none⟩ = some (.string s) ∧ V.cell? ⟨w.heap.size, 1, none⟩ = some (.string t) ∧ Hid (Below w.heap.size w V))
        (first | assumption | exact ⟨d0, d1, hwd⟩ | exact hk3 | exact hk2 | exact hk1)
        (first
        | (go_at_call 57; (with_reducible refine Calls.mono (HOF.out _ (hS.b hwd)) ?_); rintro e x1 ⟨rfl, y1⟩; have g1 := gOfB y1 none; have hk1 := And.intro (g1.cell d0 (by simp)) (And.intro (g1.cell d1 (by simp)) (Lib.hid (bT hwd y1))))
        | (go_at_call 38; (with_reducible refine Calls.mono (HMU.out _ (hS.b hk1.2.2.out)) ?_); rintro e x2 ⟨rfl, y2⟩; have g2 := gOfB y2 none; have hk2 := And.intro (g2.cell hk1.1 (by simp)) (And.intro (g2.cell hk1.2.1 (by simp)) (Lib.hid (bT hk1.2.2.out y2))))
        | (go_at_call 37; (with_reducible refine Calls.mono (HNE.out _ (hS.b hk2.2.2.out)) ?_); rintro e x3 ⟨rfl, y3⟩; have g3 := gOfB y3 none; have hk3 := And.intro (g3.cell hk2.1 (by simp)) (And.intro (g3.cell hk2.2.1 (by simp)) (Lib.hid (bT hk2.2.2.out y3)))))
      all_goals (go_wp2; go_ret; exact ⟨rfl, hk3.2.2.out⟩)
end Go.Proofs.YtbihoedcbmnccaaGreatDoor
/- enclosure: the closure of Decide. -/
namespace Go.Proofs.YtbihoedcbmnccaaGreatDoor
attribute [local go_sem ↓] Go.wp_at_zero Go.wp_at_succ
open Go.RowKit

set_option maxHeartbeats 1600000 in
set_option maxRecDepth 100000 in
theorem decide_fn (lo hi : Rat) (w : World) (hS : St w) : Calls Tryz.prog 71 #[Rv lo, Rv hi] w fun e w' => e = .returned (.bool (decide (signE lo hi ≠ 0))) ∧ Below w.heap.size w w' := by
  have h1 := fun W hW => enc_sign lo hi W hW
  have HK := Lib.hid (K2.new w hS (I lo.num) (D lo.den) (I hi.num) (D hi.den))
  have hd : ((signE lo hi) != 0) = decide (signE lo hi ≠ 0) := by
    by_cases h : signE lo hi = 0
    · rw [h]; rfl
    · rw [decide_eq_true h, bne_iff_ne]; exact h
  unfold Rv at h1 ⊢
  generalize decide (signE lo hi ≠ 0) = d at *
  generalize signE lo hi = a at *
  generalize I lo.num = s at *
  generalize D lo.den = t at *
  generalize I hi.num = s' at *
  generalize D hi.den = t' at *
  go_enter Tryz.func71, Tryz.ntmps71
  go_wp2_with fail
  generalize (w.alloc (.cells #[.string s, .string t] 42)).alloc (.cells #[.string s', .string t'] 42) = W at HK ⊢
  refine (h1 _ HK.out.st).mono ?_
  rintro e w1 ⟨rfl, hb1⟩
  go_wp2
  go_ret; exact ⟨rfl, bT HK.out.be hb1⟩
end Go.Proofs.YtbihoedcbmnccaaGreatDoor
/- enclosure: least, at the closure of certain (it bears the address of the places). -/
namespace Go.Proofs.YtbihoedcbmnccaaGreatDoor
attribute [local go_sem ↓] Go.wp_at_zero Go.wp_at_succ
open Go.RowKit

set_option maxHeartbeats 3200000 in
set_option maxRecDepth 100000 in
theorem least_cap (pa : Addr) (T : Nat → Bool) (vp vs : Value) (ps : List Nat) (qs : List Rat) (w : World) (hS : St w) (hR : Right w vp vs ps qs)
    (ht : ∀ n W, n ≤ 32 → Below w.heap.size w W → Calls Tryz.prog 126 #[Rv (endsQ ps qs n).1, Rv (endsQ ps qs n).2, .pointer (some pa)] W fun e w' => e = .returned (.bool (T n)) ∧ Below W.heap.size W w') (h32 : T 32 = true) :
    Calls Tryz.prog 70 #[vp, vs, .func (.func 126) #[] #[.pointer (some pa)]] w fun e w' => ∃ lb, e = .returned (.tuple #[.pointer (some ⟨lb, 0, none⟩), .int .i64 ((bsN T 33 0 32 : Nat) : Int), .bool true]) ∧ LG w' w.heap.size lb vp vs ps qs 32 ∧ Below w.heap.size w w' := by
  have hop := enc_open vp vs ps qs 32 w hS hR.pr hR.sz hR.len hR.prime (by have := hR.six; omega) (by omega) hR.pos
  have hen := fun lb b W (hb : b ≤ 32) (hW : Below w.heap.size w W) hL => enc_ends w.heap.size lb vp vs ps qs 32 b W (hS.b hW) hL hR.len hR.prime hR.dig (by have := hR.six; omega) hR.pos (by omega) hb
  have HEN := Lib.hid hen
  have HT := Lib.hid ht
  clear hen ht
  obtain ⟨R, hR0⟩ : ∃ R, bsN T 33 0 32 = R := ⟨_, rfl⟩
  rw [hR0]
  have HR0 := Lib.hid hR0
  clear hR0
  go_enter Tryz.func70, Tryz.ntmps70
  go_wp2_with fail
  refine hop.mono ?_
  rintro e w1 ⟨lb, rfl, hL, hb1⟩
  have HL := Lib.hid hL
  have HB1 := Lib.hid hb1
  clear hL hb1 hop
  go_wp2
  go_loopw [9, 10] (fun o l wr => o = .int .i64 32 ∧ l = .pointer (some ⟨lb, 0, none⟩) ∧ wr = w1) (fun _ _ _ => 0)
  case atStart => exact ⟨rfl, rfl, rfl⟩
  case round =>
    obtain ⟨rfl, rfl, rfl⟩ := hrel
    rename World => w1
    go_wp2_with fail
    refine (HEN.out lb 32 _ (by omega) HB1.out HL.out).mono ?_
    rintro e w2 ⟨rfl, hb2⟩
    have HB2 := Lib.hid (bT HB1.out hb2)
    have HL2 := Lib.hid (HL.out.below hb2)
    clear hb2
    go_wp2_with fail
    refine (HT.out 32 _ (by omega) HB2.out).mono ?_
    rintro e w3 ⟨rfl, hb3⟩
    have HB3 := Lib.hid (bT HB2.out hb3)
    have HL3 := Lib.hid (HL2.out.below hb3)
    rw [h32]
    clear hb3
    go_wp2
    go_loopw [11, 12] (fun a c wr => ∃ (f g r : Nat), a = .int .i64 ((f : Int) - 1) ∧ c = .int .i64 (g : Int) ∧ f ≤ g ∧ g ≤ 32 ∧ g - f ≤ r ∧ Hid (bsN T r f g = R) ∧ Hid (LG wr w.heap.size lb vp vs ps qs 32) ∧ Hid (Below w.heap.size w wr)) (fun a c _ => (intOf c - intOf a).toNat)
    case atStart => exact ⟨0, 32, 33, rfl, rfl, by omega, by omega, by omega, HR0.out, HL3.out, HB3.out⟩
    case round =>
      obtain ⟨f, g, r, rfl, rfl, hfg, hg, hr, HBS, HLx, HBx⟩ := hrel
      rename World => wx
      by_cases hlt : f < g
      · obtain ⟨k, rfl⟩ : ∃ k, r = k + 1 := ⟨r - 1, by omega⟩
        obtain ⟨mid, hmid⟩ : ∃ x, (f + g - 1) / 2 = x := ⟨_, rfl⟩
        have hst := HBS.out
        rw [bsN, if_pos hlt, hmid] at hst
        have HST := Lib.hid hst
        have hmI : ((f : Int) - 1 + (g : Int)) / 2 = (mid : Int) := by omega
        have hm0 : 0 ≤ (f : Int) - 1 + (g : Int) := by omega
        have hmt : Int.tdiv ((f : Int) - 1 + (g : Int)) 2 = (mid : Int) := by rw [Int.tdiv_eq_ediv_of_nonneg hm0]; exact hmI
        have hmf : f ≤ mid ∧ mid < g := by omega
        clear hst hmid
        go_wp2_with fail
        refine (HEN.out lb mid _ (by omega) HBx.out HLx.out).mono ?_
        rintro e w4 ⟨rfl, hb4⟩
        have HB4 := Lib.hid (bT HBx.out hb4)
        have HL4 := Lib.hid (HLx.out.below hb4)
        clear hb4
        go_wp2_with fail
        refine (HT.out mid _ (by omega) HB4.out).mono ?_
        rintro e w5 ⟨rfl, hb5⟩
        have HB5 := Lib.hid (bT HB4.out hb5)
        have HL5 := Lib.hid (HL4.out.below hb5)
        clear hb5
        cases htm : T mid with
        | true =>
          rw [htm, if_pos rfl] at HST
          go_wp2
          go_roundw
          case rel => exact ⟨f, mid, k, rfl, rfl, by omega, by omega, by omega, HST.out, HL5.out, HB5.out⟩
          case measure => simp [intOf]; omega
        | false =>
          rw [htm, if_neg (by simp)] at HST
          go_wp2
          go_roundw
          case rel => exact ⟨mid + 1, g, k, by congr 1; omega, rfl, by omega, by omega, by omega, HST.out, HL5.out, HB5.out⟩
          case measure => simp [intOf]; omega
      · have hge : g = f := by omega
        subst hge
        have hend := HBS.out
        rw [bsN_end T (Nat.le_refl _)] at hend
        have HEND := Lib.hid hend
        clear hend
        go_wp2
        go_ret3
        exact ⟨lb, by rw [← HEND.out]; rfl, HLx.out, HBx.out⟩
end Go.Proofs.YtbihoedcbmnccaaGreatDoor
/- enclosure: the closure of certain. -/
namespace Go.Proofs.YtbihoedcbmnccaaGreatDoor
attribute [local go_sem ↓] Go.wp_at_zero Go.wp_at_succ
open Go.RowKit

set_option maxHeartbeats 1600000 in
set_option maxRecDepth 100000 in
theorem certain_fn (lo hi : Rat) (k pb : Nat) (hk : k ≤ 9) (hl : Sz 90000 lo) (hh : Sz 90000 hi) (w : World) (hS : St w) (hp : w.cell? ⟨pb, 0, none⟩ = some (.int .i64 (k : Int))) :
    Calls Tryz.prog 126 #[Rv lo, Rv hi, .pointer (some ⟨pb, 0, none⟩)] w fun e w' => e = .returned (.bool (decide (scaledQ lo k = scaledQ hi k))) ∧ Below w.heap.size w w' := by
  have h1 := fun W hW => enc_scaled lo k hk hl W hW
  have h2 := fun W hW => enc_scaled hi k hk hh W hW
  have hK := K2.new w hS (I lo.num) (D lo.den) (I hi.num) (D hi.den)
  have heq : ((I (scaledQ lo k)).toList == (I (scaledQ hi k)).toList) = decide (scaledQ lo k = scaledQ hi k) := by
    by_cases h : scaledQ lo k = scaledQ hi k
    · rw [h, decide_eq_true rfl]; simp
    · rw [decide_eq_false h]
      rw [beq_eq_false_iff_ne]
      intro hc
      exact h (I_inj (ByteArray.ext (Array.ext' (by simpa [ba_list] using hc))))
  have hpK := (gOfB hK.be none).cell hp (by simp)
  have HK := Lib.hid hK
  unfold Rv at h1 h2 ⊢
  have H1 := Lib.hid h1
  have H2 := Lib.hid h2
  have HEQ := Lib.hid heq
  clear h1 h2 heq hl hh hK
  generalize decide (scaledQ lo k = scaledQ hi k) = d at *
  generalize I (scaledQ lo k) = u at *
  generalize I (scaledQ hi k) = v at *
  generalize I lo.num = s at *
  generalize D lo.den = t at *
  generalize I hi.num = s' at *
  generalize D hi.den = t' at *
  have heq := HEQ.out
  go_enter Tryz.func126, Tryz.ntmps126
  go_wp2
  generalize (w.alloc (.cells #[.string s, .string t] 42)).alloc (.cells #[.string s', .string t'] 42) = W at HK hpK ⊢
  have hkd := HK.out.below (Below.refl _ _).drew
  have hka := And.intro hkd.all (show W.drew.cell? ⟨pb, 0, none⟩ = some (.int .i64 (k : Int)) from hpK)
  clear hpK
  go_region_held3 (fun V => (K2 w V s t s' t' ∧ V.cell? ⟨w.heap.size, 0, none⟩ = some (.string s) ∧ V.cell? ⟨w.heap.size, 1, none⟩ = some (.string t) ∧ V.cell? ⟨w.heap.size + 1, 0, none⟩ = some (.string s') ∧ V.cell? ⟨w.heap.size + 1, 1, none⟩ = some (.string t')) ∧ V.cell? ⟨pb, 0, none⟩ = some (.int .i64 (k : Int)))
    (first | assumption | exact hkc | exact hkb | exact hka)
    (first
    | (go_at_call 127; (with_reducible refine Calls.mono (H1.out _ hka.1.1.st) ?_); rintro e x1 ⟨rfl, y1⟩; have hkb := And.intro (hka.1.1.below y1).all ((gOfB y1 none).cell hka.2 (by simp)))
    | (go_at_call 127; (with_reducible refine Calls.mono (H2.out _ hkb.1.1.st) ?_); rintro e x2 ⟨rfl, y2⟩; have hkc := And.intro (hkb.1.1.below y2).all ((gOfB y2 none).cell hkb.2 (by simp))))
  all_goals (go_wp2; go_ret; exact ⟨rfl, hkc.1.1.be⟩)
end Go.Proofs.YtbihoedcbmnccaaGreatDoor
/- enclosure: certain, where 32 bits suffice. -/
namespace Go.Proofs.YtbihoedcbmnccaaGreatDoor
attribute [local go_sem ↓] Go.wp_at_zero Go.wp_at_succ
open Go.RowKit

set_option maxHeartbeats 3200000 in
set_option maxRecDepth 100000 in
theorem certain_ok (k : Nat) (vp vs : Value) (ps : List Nat) (qs : List Rat) (w : World) (hk : k ≤ 9) (hS : St w) (hR : Right w vp vs ps qs) (hb : ∀ n, n ≤ 32 → Sz 90000 (endsQ ps qs n).1 ∧ Sz 90000 (endsQ ps qs n).2)
    (h32 : decide (scaledQ (endsQ ps qs 32).1 k = scaledQ (endsQ ps qs 32).2 k) = true) (R : Nat) (hRR : bsN (fun n => decide (scaledQ (endsQ ps qs n).1 k = scaledQ (endsQ ps qs n).2 k)) 33 0 32 = R) (hR32 : R ≤ 32) :
    Calls Tryz.prog 65 #[vp, vs, .int .i64 (k : Int)] w fun e w' => e = .returned (.tuple #[.int .i64 (R : Int), .string (I (scaledQ (endsQ ps qs R).1 k)), .int .i64 0]) ∧ Below w.heap.size w w' := by
  have hbox : Bo (w.alloc (.cells #[.int .i64 (k : Int)] 3)) w.heap.size w.heap.size 3 [.int .i64 (k : Int)] := Bo.new w _ _ (by simp [maxLen])
  have hbe : Below w.heap.size w (w.alloc (.cells #[.int .i64 (k : Int)] 3)) := (Below.refl _ _).alloc (Nat.le_refl _) _
  have HBX := Lib.hid hbox
  have HBE := Lib.hid hbe
  have hck := fun W (hW : Below w.heap.size w W) => (hR.b hW).check (hS.b hW)
  clear hbox hbe
  have HR := Lib.hid hR
  have HBD := Lib.hid hb
  have HRR := Lib.hid hRR
  have H32 := Lib.hid h32
  clear hR hb hRR h32
  go_enter Tryz.func65, Tryz.ntmps65
  go_wp2_with fail
  generalize w.alloc (.cells #[.int .i64 (k : Int)] 3) = W at HBX HBE ⊢
  refine (hck _ HBE.out).mono ?_
  rintro e w1 ⟨rfl, hb1⟩
  have hbx := HBX.out.below hb1
  have c0 := hbx.cell 0 (by simp)
  simp only [List.getElem_cons_zero] at c0
  have hlt := hbx.lt.2
  have HB1 := Lib.hid (bT HBE.out hb1)
  have hls := least_cap ⟨w.heap.size, 0, none⟩ (fun n => decide (scaledQ (endsQ ps qs n).1 k = scaledQ (endsQ ps qs n).2 k)) vp vs ps qs w1 (hS.b HB1.out) (HR.out.b HB1.out)
    (fun n V hn hV => certain_fn (endsQ ps qs n).1 (endsQ ps qs n).2 k w.heap.size hk (HBD.out n hn).1 (HBD.out n hn).2 V (hS.b (bT HB1.out hV)) ((gOfB hV none).cell c0 (by simp))) H32.out
  rw [HRR.out] at hls
  have HLS := Lib.hid hls
  clear hls hb1 hbx hck
  go_wp2_with fail
  refine HLS.out.mono ?_
  rintro e w2 ⟨lb, rfl, hL, hb2⟩
  have hc2 := (gOfB hb2 none).cell c0 (by simp)
  have hlt2 : w.heap.size < w2.heap.size := Nat.lt_of_lt_of_le hlt hb2.size
  have HB2 := Lib.hid (bT HB1.out hb2)
  have hen := enc_ends w1.heap.size lb vp vs ps qs 32 R w2 (hS.b HB2.out) hL HR.out.len HR.out.prime HR.out.dig (by have := HR.out.six; omega) HR.out.pos (by omega) hR32
  have HEN := Lib.hid hen
  clear hen hb2 hL HLS c0 hlt
  go_wp2_with fail
  refine HEN.out.mono ?_
  rintro e w3 ⟨rfl, hb3⟩
  have hc3 := (gOfB hb3 none).cell hc2 (by simp)
  have hlt3 : w.heap.size < w3.heap.size := Nat.lt_of_lt_of_le hlt2 hb3.size
  have HB3 := Lib.hid (bT HB2.out hb3)
  clear hb3 hc2 hlt2 HEN
  have hk2 := (K2.new w3 (hS.b HB3.out) (I (endsQ ps qs R).1.num) (D (endsQ ps qs R).1.den) (I (endsQ ps qs R).2.num) (D (endsQ ps qs R).2.den)).be
  have hsc := fun V hV => enc_scaled (endsQ ps qs R).1 k hk (HBD.out R hR32).1 V hV
  unfold Rv at hsc ⊢
  have HSC := Lib.hid hsc
  have HK2 := Lib.hid (bT HB3.out hk2)
  clear hsc hk2
  go_simp
  go_wp2_with fail
  refine (HSC.out _ (hS.b HK2.out)).mono ?_
  rintro e w5 ⟨rfl, hb5⟩
  go_wp2
  go_ret3
  exact ⟨rfl, bT HK2.out hb5⟩
end Go.Proofs.YtbihoedcbmnccaaGreatDoor
/- enclosure: Cents of the example. -/
namespace Go.Proofs.YtbihoedcbmnccaaGreatDoor
attribute [local go_sem ↓] Go.wp_at_zero Go.wp_at_succ
open Go.RowKit

set_option maxHeartbeats 1600000 in
set_option maxRecDepth 100000 in
theorem cents_case (vp vs : Value) (R : Int) (w : World) (hc : Calls Tryz.prog 65 #[vp, vs, .int .i64 3] w fun e w' => e = .returned (.tuple #[.int .i64 R, .string (I 701955), .int .i64 0]) ∧ Below w.heap.size w w') :
    Calls Tryz.prog 22 #[vp, vs, .int .i64 3] w fun e w' => e = .returned (.tuple #[.string ⟨#[55, 48, 49, 46, 57, 53, 53]⟩, .int .i64 0]) ∧ Below w.heap.size w w' := by
  have ha := fun W => whole_Abs 701955 W
  have hs := fun W => whole_Sign 701955 W
  rw [show (701955 : Int).natAbs = 701955 from rfl] at ha
  rw [show (701955 : Int).sign = 1 from rfl] at hs
  have e1 : D 701955 = ⟨#[55, 48, 49, 57, 53, 53]⟩ := by decide +kernel
  rw [e1] at ha
  have e2 : I 701955 = ⟨#[55, 48, 49, 57, 53, 53]⟩ := by rw [← e1]; exact I_nat 701955
  rw [e2] at ha hs hc
  clear e1 e2
  go_enter Tryz.func22, Tryz.ntmps22
  go_wp2_with fail
  refine hc.mono ?_
  rintro e w1 ⟨rfl, hb1⟩
  go_wp2_with fail
  refine (ha _).mono ?_
  rintro e w2 ⟨rfl, hb2⟩
  go_wp2
  go_region
  go_wp2_with fail
  refine (hs _).mono ?_
  rintro e w3 ⟨rfl, hb3⟩
  go_wp2
  go_ret2
  exact ⟨rfl, bT hb1 (bT hb2 (bT (Below.refl _ _).drew hb3))⟩
end Go.Proofs.YtbihoedcbmnccaaGreatDoor
/- schismalaw14.number. -/
namespace Go.Proofs.YtbihoedcbmnccaaGreatDoor
open Go.RowKit

set_option maxHeartbeats 1600000 in
set_option maxRecDepth 100000 in
theorem law_number (n d : Int) (hd : 0 < d) (hn : -9223372036854775808 ≤ n ∧ n ≤ 9223372036854775807) (hdd : d ≤ 9223372036854775807) (w : World) (hS : St w) :
    Calls Tryz.prog 49 #[.int .i64 n, .int .i64 d] w fun e w' => e = .returned (Rv (Rat.divInt n d)) ∧ Below w.heap.size w w' := by
  have hof := fun W hW => fraction_Of n d hd hn hdd W hW
  obtain ⟨q, hq⟩ : ∃ q, Rat.divInt n d = q := ⟨_, rfl⟩
  rw [hq] at hof ⊢
  clear hq
  unfold Rv at hof ⊢
  have HA := Lib.hid (box1 w ⟨#[]⟩ ⟨#[]⟩)
  go_enter Tryz.func49, Tryz.ntmps49
  go_wp2_with fail
  generalize w.alloc (.cells #[.string ⟨#[]⟩, .string ⟨#[]⟩] 42) = W at HA ⊢
  refine (hof _ (hS.b HA.out.2)).mono ?_
  rintro e w1 ⟨rfl, hb1⟩
  have ho := HA.out.1.below hb1
  have c0 := ho.cell 0 (by simp)
  have c1 := ho.cell 1 (by simp)
  have f0 := ho.fz 0
  have f1 := ho.fz 1
  have hlt := ho.lt.2
  have HE := Lib.hid (rat_end q ho (bT HA.out.2 hb1))
  clear ho hb1
  go_wp2
  refine box_ret rfl rfl (HE.out.1.below ((Below.refl _ _).alloc (Nat.le_refl _) _)) Tryz.underlying42 rfl sizeRat rfl ?_
  exact ⟨rfl, bT HE.out.2 ((Below.refl _ _).alloc (Nat.le_refl _) _)⟩
end Go.Proofs.YtbihoedcbmnccaaGreatDoor
/- What a law's statement gives a walk, and its last step: the listed variables; arguments that read as they did. -/
namespace Go.Proofs.YtbihoedcbmnccaaGreatDoor
open Go.ChangeShapes Go.WideShapes Go.ChangeAt Go.RowKit

theorem ownK : ownKnob Tryz.prog.godebug = none := by kernel_rfl
theorem laidOutP : laidOutB Tryz.prog = true := by kernel_rfl
/-- What the rows list. -/
def lays : List (String × DataW Unit) := [("math/bits.deBruijn32tab", Rows.laid_math_bits_deBruijn32tab), ("math/bits.deBruijn64tab", Rows.laid_math_bits_deBruijn64tab), ("internal/strconv.uint64pow10", Rows.laid_internal_strconv_uint64pow10), ("strconv.ErrRange", Rows.laid_strconv_ErrRange), ("strconv.ErrSyntax", Rows.laid_strconv_ErrSyntax)]
theorem tPow : (Tryz.prog.globals[3]?).map (·.type) = some 267 := by kernel_rfl
theorem tSyn : (Tryz.prog.globals[0]?).map (·.type) = some 158 := by kernel_rfl
theorem tRng : (Tryz.prog.globals[1]?).map (·.type) = some 158 := by kernel_rfl
theorem iface_type : ∃ ms, Tryz.prog.underlying 158 = some (.interface ms) := ⟨_, Tryz.underlying158⟩
theorem pow_data : (Rows.laid_internal_strconv_uint64pow10 : DataW Unit) = Lib.tabData .u64 Lib.pow10Tab := by kernel_rfl
theorem arr_one {cs : Array Value} {v : Value} (h : cs.toList = [v]) : cs = #[v] := by
  apply Array.ext'; simpa using h
theorem st_of_laid {W : World} (h : laidMetH Tryz.prog lays W) : St W := by
  rw [MakeChecks.laidMetH_plain _ _ _ (by kernel_rfl)] at h
  obtain ⟨ps, ⟨g0, t0, cs0, f0, p0, q0, hg0, ht0, hv0, hd0, ⟨g1, t1, cs1, f1, p1, q1, hg1, ht1, hv1, hd1, ⟨g2, t2, cs2, f2, p2, q2, hg2, ht2, hv2, hd2, ⟨g3, t3, cs3, f3, p3, q3, hg3, ht3, hv3, hd3, ⟨g4, t4, cs4, f4, p4, q4, hg4, ht4, hv4, hd4, _, _⟩, _⟩, _⟩, _⟩, _⟩, _, _⟩ := h
  obtain rfl := Option.some.inj (gPow.symm.trans hg2)
  obtain rfl := Option.some.inj (gRng.symm.trans hg3)
  obtain rfl := Option.some.inj (gSyn.symm.trans hg4)
  obtain rfl := Option.some.inj (tPow.symm.trans ht2)
  obtain rfl := Option.some.inj (tRng.symm.trans ht3)
  obtain rfl := Option.some.inj (tSyn.symm.trans ht4)
  obtain ⟨ms, hms⟩ := iface_type
  rw [pow_data] at hd2
  have hpow : Lib.TabIs Tryz.prog W "internal/strconv.uint64pow10" .u64 Lib.pow10Tab := by
    unfold Lib.TabIs
    rw [hv2, ← Lib.cells_of_tab Tryz.underlying267 Tryz.underlying151 (by kernel_rfl) (by kernel_rfl) hd2]
  obtain ⟨_, u, v, e3, _, _⟩ := iface_of_trod hms hd3
  obtain ⟨_, u', v', e4, _, _⟩ := iface_of_trod hms hd4
  refine ⟨?_, hpow, ⟨u', v', by rw [hv4, arr_one e4]⟩, ⟨u, v, by rw [hv3, arr_one e3]⟩⟩
  have hc := hpow.cell gPow 0 (by decide)
  rcases Nat.lt_or_ge 3 W.heap.size with hlt | hge
  · exact hlt
  · exfalso
    unfold World.cell? at hc
    simp only [Array.getElem?_eq_none hge] at hc
    simp at hc
theorem door_met (os : Os) (args : Array Value) : laidMetH Tryz.prog lays ((World.doorLaid Tryz.prog 62 os).forCall (fun _ _ => 0) ⟨#[], args, []⟩).memory :=
  laidMetH_of_parts3 (fuel := 8) (laidMet_of_run' 8 (by kernel_rfl) (by kernel_rfl)) (by kernel_rfl) (by kernel_rfl)
/-- A law's last step. -/
theorem law_post {H : Type} {enc : TypeId × Value → H} {f : Func} {s : ChangeSpec} {W W' : World} {args : Array Value} {ds : List (DataW H)} {before : List MemPlace}
    (hW : DataW.Whole enc Tryz.prog f.params.toList s.vars false W args.toList ds [] before) (hf : f.resultTypes = #[4]) (hs : s.fn H (ds ++ []) = { results := [.lit (.bool true)], args := ds }) (hv : s.vars = [])
    (hargs : DataW.TrodAll enc Tryz.prog W' 0 (fun b => decide (b < W.heap.size)) true f.params.toList args.toList ds before) (hb : Below W.heap.size W W') :
    s.post enc Tryz.prog f false true false false W args (.bool true) W' := by
  refine ⟨ds, [], before, [], before, [], hW, ?_, ?_, ?_, World.keptBut_mono (fun p hp => ⟨hp, .inr (.inl hp)⟩) (hb.frame (· ∈ before)), fun h => by cases h⟩
  · rw [hs, hf]; exact trodAll_mk1 (shut_bool Tryz.underlying4 true)
  · rw [hs]; exact hargs
  · rw [hs, hv]; rfl
end Go.Proofs.YtbihoedcbmnccaaGreatDoor
/- enclosure: Decide, given what least returns. -/
namespace Go.Proofs.YtbihoedcbmnccaaGreatDoor
attribute [local go_sem ↓] Go.wp_at_zero Go.wp_at_succ
open Go.RowKit

/-- The number of bounds of the first m places, and the bounds. -/
def bndK (qs : List Rat) : Nat → Nat
  | 0 => 0
  | m + 1 => if (qs.getD m 0).num = 0 then bndK qs m else bndK qs m + 1
def bndL (ps : List Nat) (qs : List Rat) (b : Nat) : Nat → List Value
  | 0 => []
  | m + 1 => if (qs.getD m 0).num = 0 then bndL ps qs b m else bndL ps qs b m ++ [.int .i64 ((ps.getD m 2 : Nat) : Int), .int .i64 (b : Int), .string (D (lowN (ps.getD m 2) b))]
theorem bndK_le (qs : List Rat) : ∀ m, bndK qs m ≤ m := by
  intro m
  induction m with
  | zero => exact Nat.le_refl _
  | succ m ih => unfold bndK; split <;> omega
theorem sizeComp : (Tryz.prog.info? 51).map (·.size) = some 3 := by kernel_rfl
theorem info_bnd : (Tryz.prog.info? 27).map (fun i => (i.zero, i.size, i.bytes)) = some (some (.agg #[.int .i64 0, .int .i64 0, .string ⟨#[]⟩]), 3, 32) := by kernel_rfl
/-- A comparison as a result. -/
def DecP (w : World) (sg : Int) (b k : Nat) (xs : List Value) (e : Ending) (w' : World) : Prop :=
  ∃ v, e = .returned (.tuple #[.agg #[.int .i64 sg, .int .i64 (b : Int), v], .int .i64 0]) ∧ w'.ownsRow w.heap.size 27 3 v k xs ∧ Below w.heap.size w w'

theorem own_mono {w : World} {B C : Nat} {e : TypeId} {n k : Nat} {v : Value} {xs : List Value} (h : w.ownsRow B e n v k xs) (hC : C ≤ B) : w.ownsRow C e n v k xs := by
  refine ⟨h.1, ?_⟩
  rcases h.2 with h1 | ⟨g, cap, cur, h1, h2, h3⟩
  · exact .inl h1
  · exact .inr ⟨g, cap, cur, h1, Nat.le_trans hC h2, h3⟩
/-- A result of three cells is laid. -/
theorem three_put {w : World} {B b : Nat} {ty : TypeId} {x y z : Value} (h : Bo w B b ty [x, y, z]) (x' y' z' : Value) :
    Bo (((w.setCell ⟨b, 0, none⟩ x').setCell ⟨b, 1, none⟩ y').setCell ⟨b, 2, none⟩ z') B b ty [x', y', z'] ∧ w.grownBy (((w.setCell ⟨b, 0, none⟩ x').setCell ⟨b, 1, none⟩ y').setCell ⟨b, 2, none⟩ z') (some b) :=
  ⟨((h.put 0 x').put 1 y').put 2 z', gtrans (gtrans (h.putg 0 x') ((h.put 0 x').putg 1 y')) (((h.put 0 x').put 1 y').putg 2 z')⟩

set_option maxHeartbeats 6400000 in
set_option maxRecDepth 100000 in
set_option linter.unusedSimpArgs false in
theorem decide_gen (vp vs : Value) (ps : List Nat) (qs : List Rat) (R : Nat) (w : World) (hS : St w) (hR : Right w vp vs ps qs) (hz : zeroQ qs = false)
    (hls : ∀ W, Below w.heap.size w W → Calls Tryz.prog 70 #[vp, vs, .func (.func 71) #[] #[]] W fun e w' => ∃ lb n, e = .returned (.tuple #[.pointer (some ⟨lb, 0, none⟩), .int .i64 (R : Int), .bool true]) ∧ R ≤ n ∧ n ≤ 1000 ∧ LG w' W.heap.size lb vp vs ps qs n ∧ Below W.heap.size W w') :
    Calls Tryz.prog 24 #[vp, vs] w (DecP w (signE (endsQ ps qs R).1 (endsQ ps qs R).2) R (bndK qs ps.length) (bndL ps qs R ps.length)) := by
  obtain ⟨i0, hi, hz0, hz1, hz2⟩ := info_parts info_bnd
  have hck := fun W (hW : Below w.heap.size w W) => (hR.b hW).check (hS.b hW)
  have hzr := fun W (hW : Below w.heap.size w W) => enc_zero vs qs W (hR.sz.b hW) (by have := hR.six; have := hR.len; omega)
  rw [hz] at hzr
  have hen := fun n lb B W (hRn : R ≤ n) (hn : n ≤ 1000) (hW : Below w.heap.size w W) hL => enc_ends B lb vp vs ps qs n R W (hS.b hW) hL hR.len hR.prime hR.dig (by have := hR.six; omega) hR.pos hn hRn
  have hsn := fun W hW => enc_sign (endsQ ps qs R).1 (endsQ ps qs R).2 W hW
  have HBX := Lib.hid (Bo.new w 51 #[.int .i64 0, .int .i64 0, .slice none 0 0] (by decide))
  have HBE := Lib.hid ((Below.refl w.heap.size w).alloc (Nat.le_refl _) (.cells #[.int .i64 0, .int .i64 0, .slice none 0 0] 51))
  have HR := Lib.hid hR
  have HSX := Lib.hid hS
  have HLEN := Lib.hid hR.len
  have hl6 := hR.six
  have hl0 := hR.pos
  have HCK := Lib.hid hck
  have HZR := Lib.hid hzr
  have HEN := Lib.hid hen
  have HSN := Lib.hid hsn
  have HLS := Lib.hid hls
  clear hck hzr hen hsn hls hz hS
  obtain ⟨sg, hsg⟩ : ∃ x, signE (endsQ ps qs R).1 (endsQ ps qs R).2 = x := ⟨_, rfl⟩
  rw [hsg] at HSN ⊢
  clear hsg
  rcases hR.sz with ⟨h0, _⟩ | ⟨_, gs, os, cs, rfl, hrs⟩
  · exfalso; unfold prs at h0; rw [List.map_eq_nil_iff] at h0; subst h0; have := HLEN.out; simp at this; omega
  rcases hR.pr with ⟨h0, _⟩ | ⟨_, gp, op, cp, rfl, hrp⟩
  · exfalso; unfold nums at h0; rw [List.map_eq_nil_iff] at h0; subst h0; simp at hl0
  have e1 : (nums ps).length = ps.length := by unfold nums; rw [List.length_map]
  have e2 : (prs qs).length = ps.length := by unfold prs; rw [List.length_map, HLEN.out]
  simp only [e1, e2] at HR HCK HZR HEN HLS ⊢
  have HRS := Lib.hid hrs
  have HRP := Lib.hid hrp
  have HE := Lib.hid (And.intro e1 e2)
  clear hrs hrp e1 e2 hR
  go_enter Tryz.func24, Tryz.ntmps24
  go_wp2_with fail
  generalize w.alloc (.cells #[.int .i64 0, .int .i64 0, .slice none 0 0] 51) = W0 at HBX HBE ⊢
  refine (HCK.out _ HBE.out).mono ?_
  rintro e w1 ⟨rfl, hb1⟩
  have B1 := Lib.hid (bT HBE.out hb1)
  have X1 := Lib.hid (HBX.out.below hb1)
  clear hb1 HCK HBX
  go_wp2_with fail
  refine (HZR.out _ B1.out).mono ?_
  rintro e w2 ⟨rfl, hb2⟩
  have B2 := Lib.hid (bT B1.out hb2)
  have X2 := Lib.hid (X1.out.below hb2)
  clear hb2 HZR X1
  go_wp2_with fail
  refine (HLS.out _ B2.out).mono ?_
  rintro e w3 ⟨lb, n, rfl, hRn, hn, hL, hb3⟩
  have B3 := Lib.hid (bT B2.out hb3)
  have X3 := Lib.hid (X2.out.below hb3)
  have HL3 := Lib.hid hL
  clear hb3 hL HLS X2
  go_wp2_with fail
  refine (HEN.out n lb _ _ hRn hn B3.out HL3.out).mono ?_
  rintro e w4 ⟨rfl, hb4⟩
  have B4 := Lib.hid (bT B3.out hb4)
  have X4 := Lib.hid (X3.out.below hb4)
  have HL4 := Lib.hid (HL3.out.below hb4)
  clear hb4 HEN HL3 X3
  go_wp2_with fail
  refine (HSN.out _ (HSX.out.b B4.out)).mono ?_
  rintro e w5 ⟨rfl, hb5⟩
  have B5 := Lib.hid (bT B4.out hb5)
  have X5 := Lib.hid (X4.out.below hb5)
  have HL5 := Lib.hid (HL4.out.below hb5)
  clear hb5 HL4 HSN X4
  have HCB := Lib.hid (Bo.new w5 51 #[.int .i64 sg, .int .i64 (R : Int), .slice none 0 0] (by show 3 ≤ maxLen; decide))
  have HCE := Lib.hid ((Below.refl w5.heap.size w5).alloc (Nat.le_refl _) (.cells #[.int .i64 sg, .int .i64 (R : Int), .slice none 0 0] 51))
  have hs6 : (w5.alloc (.cells #[.int .i64 sg, .int .i64 (R : Int), .slice none 0 0] 51)).heap.size = w5.heap.size + 1 := by simp
  have HS6 := Lib.hid hs6
  clear hs6
  go_wp2
  generalize w5.alloc (.cells #[.int .i64 sg, .int .i64 (R : Int), .slice none 0 0] 51) = W6 at HCB HCE HS6 ⊢
  go_loopw [43] (fun i wr => ∃ (m : Nat) (u : Value), i = .int .i64 (m : Int) ∧ m ≤ ps.length ∧ Hid (Bo wr w5.heap.size w5.heap.size 51 [.int .i64 sg, .int .i64 (R : Int), u]) ∧
    Hid (wr.ownsRow W6.heap.size 27 3 u (bndK qs m) (bndL ps qs R m)) ∧ Hid (Below w5.heap.size w5 wr) ∧ Hid (W6.heap.size ≤ wr.heap.size)) (fun i _ => ps.length - (intOf i).toNat)
  case atStart => exact ⟨0, .slice none 0 0, rfl, by omega, HCB.out, World.ownsRow_nil _ _ _ _, HCE.out, Nat.le_refl _⟩
  case round =>
    obtain ⟨m, u, rfl, hm, HO, HRW, HB, HSZ⟩ := hrel
    rename World => wr
    by_cases hlt : m < ps.length
    · have BW := Lib.hid (bT B5.out HB.out)
      obtain ⟨k1, k2⟩ := (HRS.out.b BW.out).2 m (by rw [HE.out.2]; exact hlt)
      rw [prs_get] at k1 k2
      obtain ⟨p', hp1, hp2, hp3, hp4, hp5, hp6⟩ := primeB_mem (HR.out.prime (ps.getD m 2) (by rw [List.getD_eq_getElem?_getD, List.getElem?_eq_getElem hlt]; exact List.getElem_mem hlt))
      obtain rfl : p' = ps.getD m 2 := by omega
      have HAT := Lib.hid (fun W (hW : Below w5.heap.size w5 W) hq => enc_at w2.heap.size lb _ _ ps qs n m R W (HSX.out.b (bT B5.out hW)) (HL5.out.below hW) hlt hq hp3 hp4 hn hRn (by omega))
      have hbk : bndK qs (m + 1) = if (qs.getD m 0).num = 0 then bndK qs m else bndK qs m + 1 := rfl
      have hbl : bndL ps qs R (m + 1) = if (qs.getD m 0).num = 0 then bndL ps qs R m else bndL ps qs R m ++ [.int .i64 ((ps.getD m 2 : Nat) : Int), .int .i64 (R : Int), .string (D (lowN (ps.getD m 2) R))] := rfl
      have hk0 := (HRP.out.b BW.out).2 m (by rw [HE.out.1]; exact hlt)
      rw [nums_get hlt] at hk0
      have hkm := bndK_le qs m
      have HBK := Lib.hid hbk
      have HBL := Lib.hid hbl
      have HK0 := Lib.hid hk0
      clear hbk hbl hk0 hp1 hp2 hp3 hp4 hp5 hp6
      generalize bndK qs m = k at *
      generalize bndL ps qs R m = xs at *
      generalize ps.getD m 2 = p at *
      generalize qs.getD m 0 = q at *
      have HQX := Lib.hid (box1 wr (I q.num) (D q.den))
      have hsg := fun W => fraction_Sign q W
      unfold Rv at hsg
      by_cases hq : q.num = 0
      · have hs0 : q.num.sign = 0 := by rw [hq]; rfl
        rw [hs0] at hsg
        have HQ := Lib.hid hq
        clear hq hs0 HAT HK0
        go_wp2_with fail
        generalize wr.alloc (.cells #[.string (I q.num), .string (D q.den)] 42) = W at HQX ⊢
        refine (hsg _).mono ?_
        rintro e w7 ⟨rfl, hb7⟩
        have hbb := bT HQX.out.2 hb7
        have HO7 := Lib.hid (HO.out.below hbb)
        have HR7 := Lib.hid (HRW.out.kept (row := none) (gOfB hbb none) (Classical.em _))
        have HB7 := Lib.hid (HB.out.trans (hbb.mono HB.out.size))
        have HZ7 := Lib.hid (Nat.le_trans HSZ.out hbb.size)
        clear hbb hb7 hsg
        go_wp2
        go_roundw
        case rel =>
          refine ⟨m + 1, u, by go_num, by omega, HO7.out, ?_, HB7.out, HZ7.out⟩
          show World.ownsRow _ _ _ _ _ _ _
          rw [HBK.out, HBL.out, if_pos HQ.out, if_pos HQ.out]; exact HR7.out
        case measure => simp [intOf]; omega
      · have hs0 : (q.num.sign != 0) = true := by rw [bne_iff_ne]; intro h; exact hq (Int.sign_eq_zero_iff_zero.1 h)
        have HAT2 := Lib.hid (fun W hW => HAT.out W hW hq)
        have HQ := Lib.hid hq
        clear hq HAT
        go_wp2_with fail
        generalize wr.alloc (.cells #[.string (I q.num), .string (D q.den)] 42) = W at HQX ⊢
        refine (hsg _).mono ?_
        rintro e w7 ⟨rfl, hb7⟩
        have hbb := bT (bT HQX.out.2 hb7) (Below.refl w7.heap.size w7).drew
        have HO7 := Lib.hid (HO.out.below hbb)
        have HR7 := Lib.hid (HRW.out.kept (row := none) (gOfB hbb none) (Classical.em _))
        have HB7 := Lib.hid (HB.out.trans (hbb.mono HB.out.size))
        have HZ7 := Lib.hid (Nat.le_trans HSZ.out hbb.size)
        have hc2 := HO7.out.cell 2 (by simp)
        simp only [List.getElem_cons_succ, List.getElem_cons_zero] at hc2
        have hk0 := (gOfB hbb none).cell HK0.out (by simp)
        have hcb := HO7.out.lt.2
        clear hbb hb7 hsg
        go_wp2
        generalize ht : D (lowN p R) = t at *
        clear ht
        have hT0 : Below w7.drew.heap.size w7.drew w7.drew := Below.refl _ _
        refine AnyT.region (T := fun V => Below w7.drew.heap.size w7.drew V) (late := fun j => [0, 2, 3, 4, 6, 7, 8, 9, 13, 14, 15].contains j) (by kernel_rfl) ?_
        refine AnyT.take0 (i := 0) (v := ?_) rfl (by kernel_rfl) (by kernel_rfl) (by kernel_rfl) rfl (fun _ _ _ h => h) (Or.inl ⟨by rfl, ?_⟩) ?_
        rotate_left 1
        · intro V; go_simp; first | done | with_reducible rfl
        try simp only [Act.put, List.setIfInBounds_toArray, List.set_cons_zero, List.set_cons_succ]
        refine AnyT.take0 (i := 2) (v := ?_) rfl (by kernel_rfl) (by kernel_rfl) (by kernel_rfl) rfl (fun _ _ _ h => h) (Or.inl ⟨by rfl, ?_⟩) ?_
        rotate_left 1
        · intro V; go_simp; first | done | with_reducible rfl
        try simp only [Act.put, List.setIfInBounds_toArray, List.set_cons_zero, List.set_cons_succ]
        refine AnyT.take0 (i := 3) (v := ?_) rfl (by kernel_rfl) (by kernel_rfl) (by kernel_rfl) rfl (fun _ _ _ h => h) (Or.inl ⟨by rfl, ?_⟩) ?_
        rotate_left 1
        · intro V; go_simp; first | done | with_reducible rfl
        try simp only [Act.put, List.setIfInBounds_toArray, List.set_cons_zero, List.set_cons_succ]
        refine AnyT.take0 (i := 4) (v := ?_) rfl (by kernel_rfl) (by kernel_rfl) (by kernel_rfl) rfl (fun _ _ _ h => h) (Or.inl ⟨by rfl, ?_⟩) ?_
        rotate_left 1
        · intro V; go_simp; first | done | with_reducible rfl
        try simp only [Act.put, List.setIfInBounds_toArray, List.set_cons_zero, List.set_cons_succ]
        refine AnyT.take0 (i := 6) (v := ?_) rfl (by kernel_rfl) (by kernel_rfl) (by kernel_rfl) rfl (fun _ _ _ h => h) (Or.inl ⟨by rfl, ?_⟩) ?_
        rotate_left 1
        · intro V; go_simp; first | done | with_reducible rfl
        try simp only [Act.put, List.setIfInBounds_toArray, List.set_cons_zero, List.set_cons_succ]
        refine AnyT.take0 (i := 7) (v := ?_) rfl (by kernel_rfl) (by kernel_rfl) (by kernel_rfl) rfl (fun _ _ _ h => h) (Or.inl ⟨by rfl, ?_⟩) ?_
        rotate_left 1
        · intro V; go_simp; first | done | with_reducible rfl
        try simp only [Act.put, List.setIfInBounds_toArray, List.set_cons_zero, List.set_cons_succ]
        refine AnyT.take0 (i := 8) (v := ?_) rfl (by kernel_rfl) (by kernel_rfl) (by kernel_rfl) rfl (fun _ _ _ h => h) (Or.inl ⟨by rfl, ?_⟩) ?_
        rotate_left 1
        · intro V; go_simp; first | done | with_reducible rfl
        try simp only [Act.put, List.setIfInBounds_toArray, List.set_cons_zero, List.set_cons_succ]
        refine AnyT.take0 (i := 9) (v := ?_) rfl (by kernel_rfl) (by kernel_rfl) (by kernel_rfl) rfl (fun _ _ _ h => h) (Or.inl ⟨by rfl, ?_⟩) ?_
        rotate_left 1
        · intro V; go_simp; first | done | with_reducible rfl
        try simp only [Act.put, List.setIfInBounds_toArray, List.set_cons_zero, List.set_cons_succ]
        refine AnyT.take2 (i := 1) (v := ?_) rfl (by kernel_rfl) (by kernel_rfl) (by kernel_rfl) rfl (by kernel_rfl) (by kernel_rfl) (fun _ _ _ h => h) (Or.inl ⟨by rfl, ?_⟩) hT0 ?_
        rotate_left 1
        · intro V hV; have v0 := (gOfB hV none).cell hc2 (by simp); go_simp; first | done | with_reducible rfl
        try simp only [Act.put, List.setIfInBounds_toArray, List.set_cons_zero, List.set_cons_succ]
        refine AnyT.take2 (i := 5) (v := ?_) rfl (by kernel_rfl) (by kernel_rfl) (by kernel_rfl) rfl (by kernel_rfl) (by kernel_rfl) (fun _ _ _ h => h) (Or.inl ⟨by rfl, ?_⟩) hT0 ?_
        rotate_left 1
        · intro V hV; have v0 := (gOfB hV none).cell hk0 (by simp); go_simp; first | done | with_reducible rfl
        try simp only [Act.put, List.setIfInBounds_toArray, List.set_cons_zero, List.set_cons_succ]
        refine AnyT.one (i := 10) (by kernel_rfl) rfl (by rfl) (fun K hK => ?_)
        go_simp
        (go_at_call 74; (with_reducible refine Calls.mono (HAT2.out _ HB7.out) ?_); rintro e x1 ⟨rfl, y1⟩)
        go_wp2_with fail
        refine hK.out _ _ (fun _ => y1) ?_
        clear hK K
        try simp only [Act.put, List.setIfInBounds_toArray, List.set_cons_zero, List.set_cons_succ]
        refine AnyT.one (i := 11) (by kernel_rfl) rfl (by rfl) (fun K hK => ?_)
        go_simp
        refine hK.out _ _ (fun _ => y1) ?_
        clear hK K
        try simp only [Act.put, List.setIfInBounds_toArray, List.set_cons_zero, List.set_cons_succ]
        have y2 : Below w7.drew.heap.size w7.drew (x1.alloc (.cells #[.int .i64 (p : Int), .int .i64 (R : Int), .string t] 27)) := y1.alloc y1.size _
        have Y2 := Lib.hid y2
        refine AnyT.one (i := 12) (by kernel_rfl) rfl (by rfl) (fun K hK => ?_)
        go_simp
        refine hK.out _ _ (fun _ => Y2.out) ?_
        clear hK K y1 y2
        try simp only [Act.put, List.setIfInBounds_toArray, List.set_cons_zero, List.set_cons_succ]
        have HN := Lib.hid (World.news_of_block (heap_alloc_new x1 (.cells #[.int .i64 (p : Int), .int .i64 (R : Int), .string t] 27)))
        generalize x1.alloc (.cells #[.int .i64 (p : Int), .int .i64 (R : Int), .string t] 27) = x2 at HN Y2 ⊢
        refine AnyT.one (i := 13) (by kernel_rfl) rfl (by rfl) (fun K hK => ?_)
        have hz2' : W6.heap.size ≤ x2.heap.size := Nat.le_trans HZ7.out Y2.out.size
        refine wp_append_lies _ (.tmp 52) (.tmp 63) 49 (by rfl) W6.heap.size 27 i0 (.agg #[.int .i64 0, .int .i64 0, .string ⟨#[]⟩]) 3 32 Tryz.underlying49 hi hz0 hz1 hz2 rfl (by omega) u k xs (by rfl) (HR7.out.kept (row := none) (gOfB Y2.out none) (Classical.em _)) ⟨x1.heap.size, 0, none⟩ 1 1 [.int .i64 (p : Int), .int .i64 (R : Int), .string t] (by rfl) rfl HN.out (by intro z hz; simp at hz; rcases hz with rfl | rfl | rfl <;> rfl) (by omega) (by unfold maxLen; omega) (by omega) hz2' _ rfl ?_
        intro g cap x3 hown hgrow hat hlt3
        refine hK.out _ _ (fun h => by cases h) ?_
        clear hK K
        try simp only [Act.put, List.setIfInBounds_toArray, List.set_cons_zero, List.set_cons_succ]
        have hne : some w5.heap.size ≠ u.ownBlock := by
          intro h
          have h1 := World.ownsRow.lt HR7.out w5.heap.size h.symm
          have h2 := HS6.out
          omega
        have hub : ∀ g, u.ownBlock = some g → w5.heap.size ≤ g := by
          intro g hg
          have h1 := World.ownsRow.lt HR7.out g hg
          have h2 := HS6.out
          omega
        have hO2 := HO7.out.below Y2.out
        have hO3 := hO2.keptG hgrow hne
        have f2 := hO3.fz 2
        have d2 := hO3.cell 2 (by simp)
        simp only [List.getElem_cons_succ, List.getElem_cons_zero] at d2
        have l3 := hO3.lt.2
        have hB2 := HB7.out.trans (Y2.out.mono HB7.out.size)
        have hB3 := belowG hB2 hgrow hB2.size hub
        have hown3 := World.ownsRow.lt hown g rfl
        have HO4 := Lib.hid (hO3.put 2 (.slice (some ⟨g, 0, none⟩) (k + 1) cap))
        have HR4 := Lib.hid (hown.kept (hO3.putg 2 (.slice (some ⟨g, 0, none⟩) (k + 1) cap)) (.inr (by simp only [Value.ownBlock]; intro h; injection h with h; have h2 := HS6.out; omega)))
        have HB4 := Lib.hid (belowG hB3 (hO3.putg 2 (.slice (some ⟨g, 0, none⟩) (k + 1) cap)) hB3.size (fun g hg => by cases hg; exact Nat.le_refl _))
        have HZ4 := Lib.hid (Nat.le_trans (Nat.le_trans hz2' hgrow.size) (hO3.putg 2 (.slice (some ⟨g, 0, none⟩) (k + 1) cap)).size)
        clear hne hub hO2 hO3 hB2 hB3 hown3 hown hgrow hat
        refine AnyT.one (i := 14) (by kernel_rfl) rfl (by rfl) (fun K hK => ?_)
        go_simp
        refine hK.out _ _ (fun h => by cases h) ?_
        clear hK K
        try simp only [Act.put, List.setIfInBounds_toArray, List.set_cons_zero, List.set_cons_succ]
        refine AnyT.one (i := 15) (by kernel_rfl) rfl (by rfl) (fun K hK => ?_)
        go_simp
        refine hK.out _ _ (fun h => by cases h) ?_
        clear hK K
        try simp only [Act.put, List.setIfInBounds_toArray, List.set_cons_zero, List.set_cons_succ]
        refine AnyT.done (by kernel_rfl) ?_ _

        go_wp2
        go_roundw
        case rel =>
          refine ⟨m + 1, .slice (some ⟨g, 0, none⟩) (k + 1) cap, by go_num, by omega, HO4.out, ?_, HB4.out, HZ4.out⟩
          show World.ownsRow _ _ _ _ _ _ _
          rw [HBK.out, HBL.out, if_neg HQ.out, if_neg HQ.out]; exact HR4.out
        case measure => simp [intOf]; omega
    · obtain rfl : m = ps.length := by omega
      obtain ⟨ua, un, uc, rfl⟩ : ∃ a n c, u = .slice a n c := by
        rcases HRW.out.2 with ⟨h, _⟩ | ⟨g, cap, cur, h, _⟩
        · exact ⟨_, _, _, h⟩
        · exact ⟨_, _, _, h⟩
      have c0 := HO.out.cell 0 (by simp)
      have c1 := HO.out.cell 1 (by simp)
      have c2 := HO.out.cell 2 (by simp)
      simp only [List.getElem_cons_succ, List.getElem_cons_zero] at c0 c1 c2
      have hr := X5.out.below HB.out
      have r0 := hr.cell 0 (by simp)
      have r1 := hr.cell 1 (by simp)
      have r2 := hr.cell 2 (by simp)
      have f0 := hr.fz 0
      have f1 := hr.fz 1
      have f2 := hr.fz 2
      have l0 := hr.lt.2
      have l1 := HO.out.lt.2
      have HP := Lib.hid (three_put hr (.int .i64 sg) (.int .i64 (R : Int)) (.slice ua un uc))
      have HZW := Lib.hid (show w.heap.size < w5.heap.size from X5.out.lt.2)
      clear hr
      go_wp2
      refine box_ret1 rfl rfl HP.out.1 Tryz.underlying51 rfl sizeComp rfl ?_
      refine ⟨.slice ua un uc, rfl, own_mono (HRW.out.kept HP.out.2 (.inr ?_)) ?_, belowG (bT B5.out HB.out) HP.out.2 (bT B5.out HB.out).size (fun g hg => by cases hg; exact Nat.le_refl _)⟩
      · intro h
        have := World.ownsRow.lt HRW.out w.heap.size h
        have := HS6.out; have := HZW.out; omega
      · have := HS6.out; have := HZW.out; omega
end Go.Proofs.YtbihoedcbmnccaaGreatDoor
