/- decimal: small, scaled, times, compare. -/
import Derived.Test.YtbihoedcbmnccaaGreatDoorK1
import Derived.Lib.ConvBytes
import Derived.Laws.IdiomStrings
namespace Go.Proofs.YtbihoedcbmnccaaGreatDoor
open Go.RowKit

/-! ### small: division by one word -/
theorem zeros_getD (n j : Nat) : (List.replicate n 0).getD j 0 = 0 := by
  rw [List.getD_eq_getElem?_getD, List.getElem?_replicate]; split <;> rfl
/-- What holds of small's list and rest, the words from i on done. -/
structure SmallInv (xs : List Nat) (n i : Nat) (zs : List Nat) (r : Nat) : Prop where
  len : zs.length = xs.length
  lim : Lim base zs
  sum : val base (zs.drop i) * n + r = val base (xs.drop i)
  low : zs.take i = List.replicate i 0
  rest : r < n
theorem small_step {xs zs : List Nat} {n i r : Nat} (h : SmallInv xs n (i + 1) zs r) (hx : Lim base xs) (hi : i < xs.length) :
    SmallInv xs n i (zs.set i ((r * base + xs.getD i 0) / n)) ((r * base + xs.getD i 0) % n) := by
  have hr := h.rest
  have hxi := hx.get base_pos i
  have hq : (r * base + xs.getD i 0) / n < base := by
    apply Nat.div_lt_of_lt_mul
    have : (r + 1) * base ≤ n * base := Nat.mul_le_mul_right _ hr
    rw [Nat.add_mul] at this; omega
  refine ⟨by rw [List.length_set, h.len], h.lim.set _ hq, ?_, ?_, Nat.mod_lt _ (by omega)⟩
  · rw [val_drop_succ _ _ _ (by rw [List.length_set, h.len]; exact hi), val_drop_succ _ _ _ hi, drop_set_after]
    have e1 : (zs.set i ((r * base + xs.getD i 0) / n)).getD i 0 = (r * base + xs.getD i 0) / n := by
      rw [List.getD_eq_getElem?_getD, List.getElem?_set_self (by rw [h.len]; exact hi)]; rfl
    rw [e1]
    have h1 := h.sum
    have h2 := Nat.div_add_mod (r * base + xs.getD i 0) n
    generalize (r * base + xs.getD i 0) / n = q at h2 ⊢
    generalize (r * base + xs.getD i 0) % n = m at h2 ⊢
    rw [← h1, Nat.add_mul, Nat.mul_add, Nat.mul_assoc, Nat.mul_comm q n, Nat.mul_comm base r]
    omega
  · rw [take_set_low _ _ _ _ (Nat.le_refl _)]
    have := congrArg (List.take i) h.low
    rw [List.take_take, Nat.min_eq_left (by omega), List.take_replicate, Nat.min_eq_left (by omega)] at this; exact this

set_option maxHeartbeats 800000 in
theorem small_any (gp op capp : Nat) (xs : List Nat) (n : Nat) (w : World) (hx : Lim base xs) (hn0 : 0 < n) (hn : n ≤ base) (hq : Rd w gp op xs) (hsz : xs.length ≤ 1000000000) :
    Calls Tryz.prog 203 #[.slice (some ⟨gp, op, none⟩) xs.length capp, .int .u64 (n : Int)] w fun e w' =>
      ∃ g cap ys r, e = .returned (.tuple #[sv g ys.length cap, .int .u64 (r : Nat)]) ∧ Ow w' w.heap.size (sv g ys.length cap) ys ∧ Lim base ys ∧ Trimmed ys ∧ val base ys * n + r = val base xs ∧ r < n ∧ Below w.heap.size w w' := by
  obtain ⟨i0, hi, hz0, hz1, hz2⟩ := info_parts info_u64
  go_enter Tryz.func203, Tryz.ntmps203
  go_wp2_with (at_make; refine wpList_make_full _ rfl _ _ 153 rfl w.heap.size 151 i0 (.int .u64 0) 1 Tryz.underlying153 hi hz0 hz1 .i64 .i64 _ _ xs.length rfl rfl rfl rfl (by rw [hz2]; omega) (by unfold maxLen; omega) (Nat.le_refl _) ?_; intro w1 hown hg1)
  rw [made_u64] at hown
  have HX1 := Lib.hid (bOfG hg1)
  have HO1 : Hid (Ow w1 w.heap.size (sv w.heap.size (List.replicate xs.length 0).length xs.length) (List.replicate xs.length 0)) := by
    show Ow _ _ _ _; unfold Ow sv; rw [List.length_replicate]; exact hown
  clear hown
  go_loopw [7, 8] (fun r i wr => ∃ (rn m : Nat) (zs : List Nat), r = .int .u64 (rn : Int) ∧ i = .int .i64 ((m : Int) - 1) ∧ m ≤ xs.length ∧ rn < 1000000000 ∧ Hid (SmallInv xs n m zs rn) ∧ Hid (Ow wr w.heap.size (sv w.heap.size zs.length xs.length) zs) ∧ w1.grownBy wr (some w.heap.size)) (fun _ i _ => (intOf i + 1).toNat)
  case atStart =>
    refine ⟨0, xs.length, List.replicate xs.length 0, rfl, rfl, Nat.le_refl _, by omega, ⟨by simp, Lim.zeros base_pos _, ?_, ?_, hn0⟩, HO1.out, World.grownBy.refl _ _⟩
    · rw [List.drop_eq_nil_of_le (by simp), List.drop_eq_nil_of_le (by simp)]; simp [val_nil]
    · rw [List.take_of_length_le (by simp)]
  case round =>
    obtain ⟨rn, m, zs, rfl, rfl, hm, hr1, HI, HO, hg⟩ := hrel
    rename World => w0
    have hl := HI.out.len
    cases m with
    | zero =>
      rw [show ((0 : Nat) : Int) - 1 = -1 from rfl]
      have htr := trim_any _ _ _ _ _ HO.out
      rw [hl] at htr
      go_wp2_with fail
      refine htr.mono ?_
      rintro e w2 ⟨n', hn', rfl, ht, hv, rfl⟩
      go_wp2
      go_ret2
      have hs := HI.out.sum
      rw [List.drop_zero, List.drop_zero] at hs
      have hpre := HO.out.pre (n := n') (by omega)
      refine ⟨w.heap.size, xs.length, zs.take n', rn, ?_, hpre, HI.out.lim.take _, ht, by rw [hv]; exact hs, HI.out.rest, ?_⟩
      · rw [List.length_take, Nat.min_eq_left (by omega)]; rfl
      · exact belowG HX1.out hg HX1.out.size (fun g hg => by cases hg; exact Nat.le_refl _)
    | succ k =>
      rw [show ((k + 1 : Nat) : Int) - 1 = (k : Int) by omega]
      have hO := HO.out
      have hcz := hO.cell k (by omega)
      have hfz := hO.fz k
      have HOO := Lib.hid hO
      have hcx := ((hq.grown hg1 (by simp)).grown hg (by have := hq.1; simp; omega)).2 k (by omega)
      have hxx := hx.get base_pos k
      rw [base_eq] at hxx hn
      have st := small_step HI.out hx (show k < xs.length by omega)
      have HT := Lib.hid st
      clear hO hl st
      generalize hzz : zs.getD k 0 = z at hcz
      have HZ := Lib.hid hzz
      clear hzz
      generalize hxg : xs.getD k 0 = x at hcx hxx HT
      have HX := Lib.hid hxg
      clear hxg
      go_wp2
      go_roundw
      case rel =>
        have e1 : ((rn : Int) * 1000000000 + (x : Int)) % (n : Int) = (((rn * base + x) % n : Nat) : Int) := by
          rw [Int.natCast_emod, Int.natCast_add, Int.natCast_mul, base_eq]; rfl
        have e2 : ((rn : Int) * 1000000000 + (x : Int)) / (n : Int) = (((rn * base + x) / n : Nat) : Int) := by
          rw [Int.natCast_ediv, Int.natCast_add, Int.natCast_mul, base_eq]; rfl
        rw [e1, e2]
        have st := HT.out
        have hput := Ow.put HOO.out k ((rn * base + x) / n)
        exact ⟨_, k, _, rfl, rfl, by omega, Nat.lt_of_lt_of_le st.rest hn, st, hput, gtrans hg (Ow.putg HOO.out _ _)⟩
      case measure => simp [intOf]
end Go.Proofs.YtbihoedcbmnccaaGreatDoor
/- decimal: times, scaled. -/
namespace Go.Proofs.YtbihoedcbmnccaaGreatDoor
open Go.RowKit

structure MulInv (zs0 ys : List Nat) (a i k : Nat) (zs : List Nat) (c : Nat) : Prop where
  len : zs.length = zs0.length
  lim : Lim base zs
  rest : zs.drop (i + k) = zs0.drop (i + k)
  sum : val base (zs.take (i + k)) + base ^ (i + k) * c = val base (zs0.take (i + k)) + base ^ i * (a * val base (ys.take k))
  carry : c < base
theorem mul_bound {a y z c : Nat} (ha : a < base) (hy : y < base) (hz : z < base) (hc : c < base) : c + (z + a * y) < base * base := by
  have : a * y ≤ (base - 1) * (base - 1) := Nat.mul_le_mul (by omega) (by omega)
  rw [base_eq] at *; omega
theorem mul_step {zs0 ys zs : List Nat} {a i k c : Nat} (h : MulInv zs0 ys a i k zs c) (hy : Lim base ys) (ha : a < base) (hk : k < ys.length) (hj : i + k < zs0.length) :
    MulInv zs0 ys a i (k + 1) (zs.set (i + k) ((c + (zs.getD (i + k) 0 + a * ys.getD k 0)) % base)) ((c + (zs.getD (i + k) 0 + a * ys.getD k 0)) / base) := by
  have hjz : i + k < zs.length := by rw [h.len]; exact hj
  have e := getD_rest h.rest
  have hb := mul_bound ha (hy.get base_pos k) (h.lim.get base_pos (i + k)) h.carry
  refine ⟨by rw [List.length_set, h.len], h.lim.set _ (Nat.mod_lt _ base_pos), ?_, ?_, Nat.div_lt_of_lt_mul hb⟩
  · rw [← Nat.add_assoc, drop_set_after]; exact drop_rest h.rest
  · rw [← Nat.add_assoc, take_set_succ _ _ _ hjz, val_snoc, List.length_take, Nat.min_eq_left (by omega), val_take_succ _ _ _ hj, val_take_succ _ _ _ hk, ← e]
    have h1 := h.sum
    have h2 := Nat.div_add_mod (c + (zs.getD (i + k) 0 + a * ys.getD k 0)) base
    generalize (c + (zs.getD (i + k) 0 + a * ys.getD k 0)) % base = r at h2 ⊢
    generalize (c + (zs.getD (i + k) 0 + a * ys.getD k 0)) / base = q at h2 ⊢
    rw [Nat.pow_succ, Nat.mul_assoc (base ^ (i + k)), Nat.mul_add a, Nat.mul_left_comm a, Nat.mul_add (base ^ i), ← Nat.mul_assoc (base ^ i) (base ^ k), ← Nat.pow_add]
    have h3 : base ^ (i + k) * r + base ^ (i + k) * (base * q) = base ^ (i + k) * c + base ^ (i + k) * zs.getD (i + k) 0 + base ^ (i + k) * (a * ys.getD k 0) := by
      rw [← Nat.mul_add, ← Nat.mul_add, ← Nat.mul_add]; congr 1; omega
    omega
structure OutInv (xs ys : List Nat) (i : Nat) (zs : List Nat) : Prop where
  len : zs.length = xs.length + ys.length
  lim : Lim base zs
  sum : val base (zs.take (i + ys.length)) = val base (xs.take i) * val base ys
  rest : zs.drop (i + ys.length) = List.replicate (xs.length - i) 0
theorem OutInv.start (xs ys : List Nat) : OutInv xs ys 0 (List.replicate (xs.length + ys.length) 0) := by
  refine ⟨by simp, Lim.zeros base_pos _, ?_, ?_⟩
  · rw [List.take_replicate, val_replicate, List.take_zero, val_nil, Nat.zero_mul]
  · rw [List.drop_replicate]; congr 1; omega
theorem out_step {xs ys zs0 zs : List Nat} {i c : Nat} (h : OutInv xs ys i zs0) (hi : i < xs.length) (m : MulInv zs0 ys (xs.getD i 0) i ys.length zs c) :
    OutInv xs ys (i + 1) (zs.set (i + ys.length) c) := by
  have hl : zs.length = xs.length + ys.length := by rw [m.len, h.len]
  refine ⟨by rw [List.length_set, hl], m.lim.set _ m.carry, ?_, ?_⟩
  · rw [show i + 1 + ys.length = i + ys.length + 1 by omega, take_set_succ _ _ _ (by omega), val_snoc, List.length_take, Nat.min_eq_left (by omega), m.sum, h.sum, val_take_succ _ _ _ hi,
      List.take_of_length_le (Nat.le_refl _), Nat.add_mul, Nat.mul_assoc]
  · rw [show i + 1 + ys.length = i + ys.length + 1 by omega, drop_set_after]
    have e := drop_rest (xs := zs0) m.rest
    rw [e]
    have := congrArg (List.drop 1) h.rest
    rw [List.drop_drop, List.drop_replicate] at this
    rw [this]; congr 1
theorem OutInv.done {xs ys zs : List Nat} (h : OutInv xs ys xs.length zs) : val base zs = val base xs * val base ys := by
  have := h.sum
  rw [List.take_of_length_le (by rw [h.len]; omega), List.take_of_length_le (Nat.le_refl _)] at this; exact this

set_option maxHeartbeats 1600000 in
theorem times_any (gp op capp gq oq capq : Nat) (xs ys : List Nat) (w : World) (hx : Lim base xs) (hy : Lim base ys) (hp : Rd w gp op xs) (hq : Rd w gq oq ys) (hs1 : xs.length ≤ 100000000) (hs2 : ys.length ≤ 100000000) :
    Calls Tryz.prog 113 #[.slice (some ⟨gp, op, none⟩) xs.length capp, .slice (some ⟨gq, oq, none⟩) ys.length capq] w fun e w' =>
      ∃ g cap zs, e = .returned (sv g zs.length cap) ∧ Ow w' w.heap.size (sv g zs.length cap) zs ∧ Lim base zs ∧ Trimmed zs ∧ val base zs = val base xs * val base ys ∧ Below w.heap.size w w' := by
  obtain ⟨i0, hi, hz0, hz1, hz2⟩ := info_parts info_u64
  have hcast : ((xs.length : Int) + (ys.length : Int)) = ((xs.length + ys.length : Nat) : Int) := by omega
  have HCA := Lib.hid hcast
  clear hcast
  go_enter Tryz.func113, Tryz.ntmps113
  go_wp2_with (at_make; refine wpList_make_full _ rfl _ _ 153 rfl w.heap.size 151 i0 (.int .u64 0) 1 Tryz.underlying153 hi hz0 hz1 .i64 .i64 _ _ (xs.length + ys.length) rfl rfl HCA.out HCA.out (by rw [hz2]; omega) (by unfold maxLen; omega) (Nat.le_refl _) ?_; intro w1 hown hg1)
  rw [made_u64] at hown
  have HX1 := Lib.hid (bOfG hg1)
  have HO1 : Hid (Ow w1 w.heap.size (sv w.heap.size (List.replicate (xs.length + ys.length) 0).length (xs.length + ys.length)) (List.replicate (xs.length + ys.length) 0)) := by
    show Ow _ _ _ _; unfold Ow sv; rw [List.length_replicate]; exact hown
  clear hown
  go_loopw [19] (fun i wr => ∃ (m : Nat) (zs : List Nat), i = .int .i64 (m : Int) ∧ m ≤ xs.length ∧ Hid (OutInv xs ys m zs) ∧ Hid (Ow wr w.heap.size (sv w.heap.size zs.length (xs.length + ys.length)) zs) ∧ w1.grownBy wr (some w.heap.size)) (fun i _ => xs.length - (intOf i).toNat)
  case atStart => exact ⟨0, _, rfl, by omega, OutInv.start xs ys, HO1.out, World.grownBy.refl _ _⟩
  case round =>
    obtain ⟨m, zs0, rfl, hm, HI, HO, hg⟩ := hrel
    rename World => w2
    by_cases hlt : m < xs.length
    · have hcx := ((hp.grown hg1 (by simp)).grown hg (by have := hp.1; simp; omega)).2 m hlt
      have hxx := hx.get base_pos m
      rw [base_eq] at hxx
      generalize hxg : xs.getD m 0 = x at hcx hxx
      have HX := Lib.hid hxg
      clear hxg
      go_wp2
      go_loopw [8, 26] (fun c k wr => ∃ (cn kn : Nat) (zs : List Nat), c = .int .u64 (cn : Int) ∧ k = .int .i64 (kn : Int) ∧ kn ≤ ys.length ∧ cn < 1000000000 ∧ Hid (MulInv zs0 ys (xs.getD m 0) m kn zs cn) ∧ Hid (Ow wr w.heap.size (sv w.heap.size zs.length (xs.length + ys.length)) zs) ∧ w2.grownBy wr (some w.heap.size)) (fun _ k _ => ys.length - (intOf k).toNat)
      case atStart =>
        refine ⟨0, 0, zs0, rfl, rfl, by omega, by omega, ⟨rfl, HI.out.lim, rfl, ?_, base_pos⟩, HO.out, World.grownBy.refl _ _⟩
        simp [val_nil]
      case round =>
        obtain ⟨cn, kn, zs, rfl, rfl, hk, hc1, HJ, HP, hg3⟩ := hrel
        rename World => w3
        have hl : zs.length = xs.length + ys.length := by rw [HJ.out.len, HI.out.len]
        have HL := Lib.hid hl
        clear hl
        by_cases hend : kn < ys.length
        · have hcz := HP.out.cell (m + kn) (by rw [HL.out]; omega)
          have hfz := HP.out.fz (m + kn)
          have hz := HJ.out.lim.get base_pos (m + kn)
          have hcy := (((hq.grown hg1 (by simp)).grown hg (by have := hq.1; simp; omega)).grown hg3 (by have := hq.1; simp; omega)).2 kn hend
          have hyy := hy.get base_pos kn
          have st := mul_step HJ.out hy (by rw [HX.out, base_eq]; exact hxx) hend (by rw [HI.out.len]; omega)
          have HT := Lib.hid st
          clear st
          rw [base_eq] at hz hyy
          generalize hzz : zs.getD (m + kn) 0 = z at hcz hz
          have HZ := Lib.hid hzz
          clear hzz
          generalize hyg : ys.getD kn 0 = y at hcy hyy
          have HY := Lib.hid hyg
          clear hyg
          have hm0 : 0 ≤ (x : Int) * (y : Int) := by rw [← Int.natCast_mul]; omega
          have hm1 : (x : Int) * (y : Int) ≤ 999999998000000001 := by
            have : x * y ≤ 999999999 * 999999999 := Nat.mul_le_mul (by omega) (by omega)
            rw [← Int.natCast_mul]; omega
          go_wp2
          go_roundw
          case rel =>
            have e1 : ((cn : Int) + ((z : Int) + (x : Int) * (y : Int))) / 1000000000 = (((cn + (zs.getD (m + kn) 0 + xs.getD m 0 * ys.getD kn 0)) / base : Nat) : Int) := by
              rw [HZ.out, HY.out, HX.out, base_eq, Int.natCast_ediv, Int.natCast_add, Int.natCast_add, Int.natCast_mul]; rfl
            have e2 : ((cn : Int) + ((z : Int) + (x : Int) * (y : Int))) % 1000000000 = (((cn + (zs.getD (m + kn) 0 + xs.getD m 0 * ys.getD kn 0)) % base : Nat) : Int) := by
              rw [HZ.out, HY.out, HX.out, base_eq, Int.natCast_emod, Int.natCast_add, Int.natCast_add, Int.natCast_mul]; rfl
            rw [e1, e2]
            have st := HT.out
            exact ⟨_, kn + 1, _, rfl, by go_num, by omega, st.carry, st, Ow.put HP.out (m + kn) _, gtrans hg3 (Ow.putg HP.out _ _)⟩
          case measure => simp [intOf]; omega
        · obtain rfl : kn = ys.length := by omega
          have hcz := HP.out.cell (m + ys.length) (by rw [HL.out]; omega)
          have hfz := HP.out.fz (m + ys.length)
          go_wp2
          go_roundw
          case rel =>
            have st := out_step HI.out hlt HJ.out
            exact ⟨m + 1, _, by go_num, by omega, st, Ow.put HP.out (m + ys.length) cn, gtrans hg (gtrans hg3 (Ow.putg HP.out _ _))⟩
          case measure => simp [intOf]; omega
    · obtain rfl : m = xs.length := by omega
      have hl : zs0.length = xs.length + ys.length := HI.out.len
      have htr := trim_any _ _ _ _ _ HO.out
      rw [hl] at htr
      have HL := Lib.hid hl
      clear hl
      go_wp2_with fail
      refine htr.mono ?_
      rintro e w3 ⟨n', hn', rfl, ht, hv, rfl⟩
      go_wp2
      go_ret
      have hle : n' ≤ zs0.length := by rw [HL.out]; exact hn'
      refine ⟨w.heap.size, xs.length + ys.length, zs0.take n', ?_, HO.out.pre hle, HI.out.lim.take _, ht, by rw [hv]; exact HI.out.done, ?_⟩
      · rw [List.length_take, Nat.min_eq_left hle]; rfl
      · exact belowG HX1.out hg HX1.out.size (fun g hg => by cases hg; exact Nat.le_refl _)

/-! ### scaled: times one word -/
theorem lit_own (w : World) (n : Nat) : Ow (w.alloc (.cells #[.int .u64 (n : Int)] 151)) w.heap.size (sv w.heap.size [n].length 1) [n] :=
  World.ownsRow_lit w #[.int .u64 (n : Int)] 1 (Nat.le_refl _) (by decide) rfl
set_option maxHeartbeats 800000 in
theorem scaled_any (gp op capp : Nat) (xs : List Nat) (n : Nat) (w : World) (hx : Lim base xs) (hn0 : 0 < n) (hn : n < base) (hp : Rd w gp op xs) (hs1 : xs.length ≤ 100000000) :
    Calls Tryz.prog 219 #[.slice (some ⟨gp, op, none⟩) xs.length capp, .int .u64 (n : Int)] w fun e w' =>
      ∃ g cap zs, e = .returned (sv g zs.length cap) ∧ Ow w' w.heap.size (sv g zs.length cap) zs ∧ Lim base zs ∧ Trimmed zs ∧ val base zs = val base xs * n ∧ Below w.heap.size w w' := by
  have hO := lit_own w n
  have hb := (Below.refl w.heap.size w).alloc (Nat.le_refl _) (.cells #[.int .u64 (n : Int)] 151)
  have htr := trim_any _ _ _ _ _ hO
  have HB := Lib.hid hb
  have HO := Lib.hid hO
  clear hO hb
  go_enter Tryz.func219, Tryz.ntmps219
  go_wp2_with fail
  refine htr.mono ?_
  rintro e w3 ⟨n', hn', rfl, ht, hv, rfl⟩
  have h1 : n' = 1 := by
    rcases Nat.lt_or_ge n' 1 with h | h
    · obtain rfl : n' = 0 := by omega
      rw [List.take_zero, val_nil, val_one] at hv; omega
    · have : [n].length = 1 := rfl
      omega
  subst h1
  clear hv ht hn' htr
  have ht := times_any gp op capp w.heap.size 0 1 xs [n] _ hx (Lim.one hn) (hp.grown (gOfB HB.out none) (by simp)) HO.out.rd hs1 (by simp)
  go_wp2_with fail
  refine ht.mono ?_
  rintro e w4 ⟨g, cap, zs, rfl, ho, hl, htt, hvv, hb⟩
  go_wp2
  go_ret
  rw [val_one] at hvv
  exact ⟨g, cap, zs, rfl, ho.mono HB.out.size, hl, htt, hvv, bT HB.out hb⟩

/-! ### compare, at limbs without zeros at the end -/
def cmp3 (a b : Nat) : Int := if a < b then -1 else if b < a then 1 else 0
theorem cmp3_lt {a b : Nat} (h : a < b) : cmp3 a b = -1 := by unfold cmp3; rw [if_pos h]
theorem cmp3_gt {a b : Nat} (h : b < a) : cmp3 a b = 1 := by unfold cmp3; rw [if_neg (by omega), if_pos h]
theorem cmp3_eq (a : Nat) : cmp3 a a = 0 := by unfold cmp3; rw [if_neg (by omega), if_neg (by omega)]
theorem trimmed_lt {b : Nat} (hb : 1 < b) {l r : List Nat} (hl : Lim b l) (hr : Trimmed r) (h : l.length < r.length) : val b l < val b r := by
  have h1 := hr.ge (b := b) (by omega) (by intro e; subst e; simp at h)
  have h2 := val_lt hl
  have : b ^ l.length ≤ b ^ (r.length - 1) := Nat.pow_le_pow_right (by omega) (by omega)
  exact Nat.lt_of_lt_of_le (Nat.lt_of_lt_of_le h2 this) h1
theorem drop_lt {b : Nat} {l r : List Nat} (k : Nat) (hl : Lim b l) (hk : k < l.length) (hk' : k < r.length) (e : val b (l.drop (k + 1)) = val b (r.drop (k + 1))) (hlt : l.getD k 0 < r.getD k 0) : val b l < val b r := by
  rw [val_take_drop b l k (by omega), val_take_drop b r k (by omega), val_drop_succ b l k hk, val_drop_succ b r k hk', e]
  have h1 := val_lt (hl.take k)
  rw [List.length_take, Nat.min_eq_left (by omega)] at h1
  have h2 : b ^ k * (l.getD k 0 + 1) ≤ b ^ k * r.getD k 0 := Nat.mul_le_mul_left _ hlt
  rw [Nat.mul_add, Nat.mul_one] at h2
  rw [Nat.mul_add, Nat.mul_add]
  omega

theorem ret_int {k : IntKind} {a b : Int} (h : a = b) : Ending.returned (.int k a) = .returned (.int k b) := by rw [h]
set_option maxHeartbeats 800000 in
theorem compare_any (gp op capp gq oq capq : Nat) (xs ys : List Nat) (w : World) (hx : Lim base xs) (hy : Lim base ys) (tx : Trimmed xs) (ty : Trimmed ys) (hp : Rd w gp op xs) (hq : Rd w gq oq ys) (hs1 : xs.length ≤ 100000000) (hs2 : ys.length ≤ 100000000) :
    Calls Tryz.prog 202 #[.slice (some ⟨gp, op, none⟩) xs.length capp, .slice (some ⟨gq, oq, none⟩) ys.length capq] w fun e w' =>
      e = .returned (.int .i64 (cmp3 (val base xs) (val base ys))) ∧ Below w.heap.size w w' := by
  rcases Nat.lt_trichotomy xs.length ys.length with h | h | h
  · rw [cmp3_lt (trimmed_lt (by decide) hx ty h)]
    have hne : ((xs.length : Int) != (ys.length : Int)) = true := by rw [bne_iff_ne]; omega
    have hw : wrap64 ((xs.length : Int) - (ys.length : Int)) = (xs.length : Int) - (ys.length : Int) := by unfold wrap64; omega
    go_enter Tryz.func202, Tryz.ntmps202
    go_wp2
    go_ret; exact ⟨ret_int (by omega), Below.refl _ _⟩
  · have hne : ((xs.length : Int) != (ys.length : Int)) = false := by rw [bne_eq_false_iff_eq]; omega
    have HH := Lib.hid h
    clear h
    go_enter Tryz.func202, Tryz.ntmps202
    go_wp2
    go_loopw [5] (fun i wr => ∃ m q : Nat, i = .int .i64 ((m : Int) - 1) ∧ m ≤ xs.length ∧ wr = w.drewN q ∧ Hid (val base (xs.drop m) = val base (ys.drop m))) (fun i _ => (intOf i + 1).toNat)
    case atStart => exact ⟨xs.length, 0, rfl, Nat.le_refl _, rfl, by rw [List.drop_eq_nil_of_le (Nat.le_refl _), List.drop_eq_nil_of_le (by rw [HH.out]; exact Nat.le_refl _)]; rfl⟩
    case round =>
      obtain ⟨m, q, rfl, hm, rfl, HE⟩ := hrel
      cases m with
      | zero =>
        rw [show ((0 : Nat) : Int) - 1 = -1 from rfl]
        go_wp2
        go_ret
        have he := HE.out
        rw [List.drop_zero, List.drop_zero] at he
        exact ⟨by rw [he, cmp3_eq]; rfl, below_drewN (Below.refl _ _) q⟩
      | succ k =>
        rw [show ((k + 1 : Nat) : Int) - 1 = (k : Int) by omega]
        have hcx := hp.2 k (by omega)
        have hcy := hq.2 k (by have := HH.out; omega)
        have hky : k < ys.length := by have := HH.out; omega
        generalize hzz : xs.getD k 0 = x at hcx
        have HX := Lib.hid hzz
        clear hzz
        generalize hzz : ys.getD k 0 = y at hcy
        have HY := Lib.hid hzz
        clear hzz
        go_wp2
        go_quiet (fail)
        go_wp2
        · have hlt : x < y := by assumption
          go_ret
          rw [cmp3_lt (drop_lt k hx (by omega) hky HE.out (by rw [HX.out, HY.out]; exact hlt))]
          exact ⟨rfl, below_drewN (below_drewN (Below.refl _ _) _) _⟩
        · have hge : ¬ x < y := by assumption
          go_quiet (fail)
          go_wp2
          · have hgt : y < x := by assumption
            go_ret
            rw [cmp3_gt (drop_lt k hy hky (by omega) HE.out.symm (by rw [HX.out, HY.out]; exact hgt))]
            exact ⟨rfl, below_drewN (below_drewN (below_drewN (Below.refl _ _) _) _) _⟩
          · have hle : ¬ y < x := by assumption
            go_roundw
            case rel =>
              exact ⟨k, _, rfl, by omega, rfl, by show _ = _; rw [val_drop_succ _ _ _ (show k < xs.length by omega), val_drop_succ _ _ _ hky, HE.out, HX.out, HY.out, show x = y by omega]⟩
            case measure => simp [intOf]
  · rw [cmp3_gt (trimmed_lt (by decide) hy tx h)]
    go_enter Tryz.func202, Tryz.ntmps202
    have hne : ((xs.length : Int) != (ys.length : Int)) = true := by rw [bne_iff_ne]; omega
    have hw : wrap64 ((xs.length : Int) - (ys.length : Int)) = (xs.length : Int) - (ys.length : Int) := by unfold wrap64; omega
    go_wp2
    go_ret; exact ⟨ret_int (by omega), Below.refl _ _⟩
end Go.Proofs.YtbihoedcbmnccaaGreatDoor
/- decimal.cut: the pieces of nine digits of a text of digits. -/
namespace Go.Proofs.YtbihoedcbmnccaaGreatDoor
open Go.RowKit

/-- All bytes are digits. -/
def Digs (l : List UInt8) : Prop := ∀ b ∈ l, 48 ≤ b.toNat ∧ b.toNat ≤ 57
theorem Digs.drop {l : List UInt8} (h : Digs l) (k : Nat) : Digs (l.drop k) := fun b hb => h b (List.mem_of_mem_drop hb)
theorem Digs.take {l : List UInt8} (h : Digs l) (k : Nat) : Digs (l.take k) := fun b hb => h b (List.mem_of_mem_take hb)
theorem base_pow (t : Nat) : base ^ t = 10 ^ (9 * t) := by rw [Nat.pow_mul]; rfl
/-- What holds of cut's list behind t pieces. -/
structure CutInv (l : List UInt8) (t : Nat) (zs : List Nat) : Prop where
  len : zs.length = t
  lim : Lim base zs
  sum : val base zs = dval 0 (l.drop (l.length - 9 * t))
theorem cut_step {l : List UInt8} {t : Nat} {zs : List Nat} (h : CutInv l t zs) (hd : Digs l) (ht : 9 * t < l.length) :
    CutInv l (t + 1) (zs ++ [dval 0 ((l.drop (l.length - 9 * (t + 1))).take (l.length - 9 * t - (l.length - 9 * (t + 1))))]) := by
  have hp : Digs ((l.drop (l.length - 9 * (t + 1))).take (l.length - 9 * t - (l.length - 9 * (t + 1)))) := (hd.drop _).take _
  have hlt := dval_lt _ fun b hb => (hp b hb).2
  have hlen : ((l.drop (l.length - 9 * (t + 1))).take (l.length - 9 * t - (l.length - 9 * (t + 1)))).length ≤ 9 := by rw [List.length_take]; omega
  have hb : dval 0 ((l.drop (l.length - 9 * (t + 1))).take (l.length - 9 * t - (l.length - 9 * (t + 1)))) < base :=
    Nat.lt_of_lt_of_le hlt (Nat.le_trans (Nat.pow_le_pow_right (by decide) hlen) (by decide))
  refine ⟨by simp [h.len], h.lim.append (Lim.one hb), ?_⟩
  have e : l.drop (l.length - 9 * (t + 1)) = (l.drop (l.length - 9 * (t + 1))).take (l.length - 9 * t - (l.length - 9 * (t + 1))) ++ l.drop (l.length - 9 * t) := by
    conv => lhs; rw [← List.take_append_drop (l.length - 9 * t - (l.length - 9 * (t + 1))) (l.drop (l.length - 9 * (t + 1)))]
    rw [List.drop_drop]; congr 2; omega
  rw [val_snoc, h.len, h.sum, base_pow]
  conv => rhs; rw [e]
  rw [dval_append, dval_acc (l.drop (l.length - 9 * t)) (dval 0 _), List.length_drop, Nat.add_comm, Nat.mul_comm, show l.length - (l.length - 9 * t) = 9 * t by omega]

theorem ext_list (s : ByteArray) (a e : Nat) : (s.extract a e).data.toList = (s.data.toList.drop a).take (e - a) := by
  simp [ByteArray.data_extract, Array.toList_extract, List.extract_eq_take_drop]
theorem ext_size (s : ByteArray) (a e : Nat) (h : e ≤ s.size) : (s.extract a e).size = e - a := by
  rw [ByteArray.size_extract]; omega
theorem dval_take_succ (p : List UInt8) (j : Nat) (h : j < p.length) : dval 0 (p.take (j + 1)) = dval 0 (p.take j) * 10 + dv (p.getD j 0) := by
  rw [List.take_succ_eq_append_getElem h, dval_append, dval_one, List.getD_eq_getElem?_getD, List.getElem?_eq_getElem h]; rfl
set_option maxHeartbeats 1600000 in
set_option maxRecDepth 100000 in
theorem cut_any (s : ByteArray) (w : World) (hd : Digs s.data.toList) (hs : s.size ≤ 100000000) :
    Calls Tryz.prog 112 #[.string s] w fun e w' =>
      ∃ g cap zs, e = .returned (sv g zs.length cap) ∧ Ow w' w.heap.size (sv g zs.length cap) zs ∧ Lim base zs ∧ Trimmed zs ∧ val base zs = dval 0 s.data.toList ∧ zs.length ≤ s.size ∧ Below w.heap.size w w' := by
  obtain ⟨i0, hi, hz0, hz1, hz2⟩ := info_parts info_u64
  have hcv := fun (W : World) (t : ByteArray) => Lib.run_convert_string_bytes (P := Tryz.prog) W 25 176 5 t (u := .string) Tryz.underlying25 Tryz.underlying176 Tryz.underlying5
  go_enter Tryz.func112, Tryz.ntmps112
  go_wp2_with (at_make; refine wpList_make_own _ rfl _ _ 153 rfl w.heap.size 151 i0 (.int .u64 0) 1 Tryz.underlying153 hi hz0 hz1 .i64 .i64 _ (s.size / 9 + 1) rfl rfl (by omega) (by rw [hz2]; omega) (by unfold maxLen; omega) (Nat.le_refl _) ?_; intro w1 hown hg1)
  have HX1 := Lib.hid (bOfG hg1)
  go_loopw [3, 4] (fun o e wr => ∃ (t cap : Nat) (zs : List Nat), o = sv w.heap.size zs.length cap ∧ e = .int .i64 ((s.size : Int) - 9 * t) ∧ 9 * t < s.size + 9 ∧ Hid (CutInv s.data.toList t zs) ∧ Hid (Ow wr w.heap.size (sv w.heap.size zs.length cap) zs) ∧ Below w.heap.size w wr ∧ Hid (cap = s.size / 9 + 1)) (fun _ e _ => (intOf e + 9).toNat)
  case atStart =>
    refine ⟨0, s.size / 9 + 1, [], rfl, ?_, by omega, ⟨rfl, Lim.nil _, ?_⟩, hown, HX1.out, rfl⟩
    · congr 1
    · show val base [] = dval 0 (s.data.toList.drop (s.data.toList.length - 9 * 0))
      rw [List.drop_eq_nil_of_le (by omega)]; rfl
  case round =>
    obtain ⟨t, cap, zs, rfl, rfl, ht, HI, HO, hb, HC⟩ := hrel
    rename World => w2
    by_cases hend : 9 * t < s.size
    · obtain ⟨e, he⟩ : ∃ e : Nat, (s.size : Int) - 9 * (t : Int) = (e : Int) := ⟨s.size - 9 * t, by omega⟩
      rw [he]
      have hpos : 0 < e := by omega
      have hle : e ≤ s.size := by omega
      have HE := Lib.hid he
      clear he
      go_wp2
      obtain ⟨a, ha⟩ : ∃ a, (max 0 ((e : Int) - 9)).toNat = a := ⟨_, rfl⟩
      rw [ha]
      have hae : a < e := by omega
      have hsz := ext_size s a e hle
      have hpl := ext_list s a e
      obtain ⟨p, hp⟩ : ∃ p, p = (s.data.toList.drop a).take (e - a) := ⟨_, rfl⟩
      have hpd : Digs p := by rw [hp]; exact (hd.drop _).take _
      have hplen : p.length = e - a := by rw [hp, List.length_take, List.length_drop, Array.length_toList]; show min (e - a) (s.size - a) = _; omega
      have hcell : ∀ j, j < e - a → (Lib.bytesWorld w2 5 (s.extract a e)).cell? ⟨w2.heap.size, j, none⟩ = some (.int .u8 ((p.getD j 0).toNat : Nat)) := fun j hj => by
        rw [Lib.bytesWorld_cell w2 5 (s.extract a e) j (by omega), hpl, ← hp]
      have HW := Lib.hid (bytes_b w2 5 (s.extract a e))
      generalize Lib.bytesWorld w2 5 (s.extract a e) = W at hcell HW ⊢
      have HA := Lib.hid ha
      have HP := Lib.hid hp
      have HPL := Lib.hid hplen
      clear ha hp hplen hsz hpl
      generalize grownCap w2 (e - a) 0 5 = gc
      go_loop [5, 27] (fun n j => ∃ jn nn : Nat, n = .int .u64 (nn : Int) ∧ j = .int .i64 (jn : Int) ∧ jn ≤ e - a ∧ nn < 1000000000 ∧ Hid (nn = dval 0 (p.take jn))) (fun _ j => e - a - (intOf j).toNat)
      case atStart => exact ⟨0, 0, rfl, rfl, by omega, by omega, rfl⟩
      case round =>
        obtain ⟨jn, nn, rfl, rfl, hj, hnn, HN⟩ := hrel
        by_cases hlt : jn < e - a
        · have hc := hcell jn hlt
          have hdg := hpd (p.getD jn 0) (by rw [List.getD_eq_getElem?_getD, List.getElem?_eq_getElem (by rw [HPL.out]; omega)]; exact List.getElem_mem _)
          have hst := dval_take_succ p jn (by rw [HPL.out]; omega)
          have hbd : dval 0 (p.take (jn + 1)) < 1000000000 := by
            have h1 := dval_lt (p.take (jn + 1)) fun b hb => (hpd.take _ b hb).2
            have h2 : (p.take (jn + 1)).length ≤ 9 := by rw [List.length_take, HPL.out]; have := HA.out; omega
            exact Nat.lt_of_lt_of_le h1 (Nat.le_trans (Nat.pow_le_pow_right (by decide) h2) (by decide))
          rw [hst, ← HN.out, dv_eq] at hbd
          have HST := Lib.hid hst
          clear hst
          obtain ⟨x, hx⟩ : ∃ x : Nat, (p.getD jn 0).toNat = x := ⟨_, rfl⟩
          rw [hx] at hc hdg hbd
          have HX := Lib.hid hx
          clear hx hcell
          go_wp2
          go_round
          case rel =>
            refine ⟨jn + 1, nn * 10 + (x - 48), ?_, by go_num, by omega, by omega, ?_⟩
            · congr 1; omega
            · show nn * 10 + (x - 48) = _; rw [HST.out, ← HN.out, dv_eq, HX.out]
          case measure => simp [intOf]; omega
        · obtain rfl : jn = e - a := by omega
          have hOW := HO.out.below HW.out
          have hfit : zs.length + 1 ≤ cap := by rw [HC.out, HI.out.len]; have := HE.out; omega
          clear hcell
          go_wp2_with (at_builtin; refine wpList_append_fits _ rfl _ _ 153 rfl w.heap.size 151 i0 1 Tryz.underlying153 hi hz1 w.heap.size zs.length cap (u64s zs) rfl (hOW.alloc _) ⟨W.heap.size, 0, none⟩ 1 1 [.int .u64 (nn : Int)] rfl rfl (news1 _ _ _) (one1 _ _) hfit ?_; intro w4 hown4 hg4)
          go_roundw
          case rel =>
            have hl : s.data.toList.length = s.size := by simp
            have hE := HE.out
            have hA := HA.out
            have hnn' : nn = dval 0 ((s.data.toList.drop (s.data.toList.length - 9 * (t + 1))).take (s.data.toList.length - 9 * t - (s.data.toList.length - 9 * (t + 1)))) := by
              rw [HN.out, List.take_of_length_le (by rw [HPL.out]; exact Nat.le_refl _), HP.out, hl]; congr 2 <;> (try congr 1) <;> omega
            have st := cut_step HI.out hd (by rw [hl]; exact hend)
            rw [← hnn'] at st
            refine ⟨t + 1, cap, zs ++ [nn], ?_, ?_, by omega, st, ?_, ?_, HC.out⟩
            · rw [List.length_append]; rfl
            · congr 1; omega
            · show Ow _ _ _ _; unfold Ow; rw [List.length_append, u64s_append]; exact hown4
            · exact belowG ((bT hb HW.out).trans (((Below.refl _ _).alloc (Nat.le_refl _) _).mono (bT hb HW.out).size)) hg4 (Nat.le_trans hb.size (Nat.le_trans HW.out.size (by simp))) (fun g hg => by cases hg; exact Nat.le_refl _)
          case measure => simp [intOf]; omega
    · have hneg : (s.size : Int) - 9 * (t : Int) ≤ 0 := by omega
      have HT := Lib.hid ht
      clear ht
      generalize (s.size : Int) - 9 * (t : Int) = e at hneg
      have htr := trim_any _ _ _ _ _ HO.out
      go_wp2_with fail
      refine htr.mono ?_
      rintro e1 w3 ⟨n', hn', rfl, ht, hv, rfl⟩
      go_wp2
      go_ret
      have hs0 := HI.out.sum
      rw [show s.data.toList.length = s.size by simp, show s.size - 9 * t = 0 by omega, List.drop_zero] at hs0
      have hlen := HI.out.len
      have hT := HT.out
      have hmin : (zs.take n').length = n' := by rw [List.length_take, Nat.min_eq_left hn']
      refine ⟨w.heap.size, cap, zs.take n', ?_, HO.out.pre hn', HI.out.lim.take _, ht, by rw [hv]; exact hs0, by omega, hb⟩
      rw [hmin]; rfl
end Go.Proofs.YtbihoedcbmnccaaGreatDoor
/- Rows of bytes; slices.Reverse at bytes; decimal's text of pieces. -/
namespace Go.Proofs.YtbihoedcbmnccaaGreatDoor
open Go.RowKit

def b8 (b : UInt8) : Value := Value.int .u8 ((b.toNat : Nat) : Int)
def u8s (xs : List UInt8) : List Value := xs.map b8
theorem u8s_length (xs : List UInt8) : (u8s xs).length = xs.length := List.length_map ..
theorem u8s_at (xs : List UInt8) (j : Nat) (h : j < xs.length) : (u8s xs)[j]? = some (.int .u8 (((xs.getD j 0).toNat : Nat) : Int)) := by
  unfold u8s; rw [List.getElem?_map, List.getElem?_eq_getElem h, List.getD_eq_getElem?_getD, List.getElem?_eq_getElem h]; rfl
theorem u8s_set (xs : List UInt8) (j : Nat) (x : UInt8) : (u8s xs).set j (.int .u8 ((x.toNat : Nat) : Int)) = u8s (xs.set j x) := by
  unfold u8s; rw [List.map_set]; rfl
theorem u8s_append (xs ys : List UInt8) : u8s (xs ++ ys) = u8s xs ++ u8s ys := List.map_append ..
abbrev Ob (w : World) (B : Nat) (v : Value) (xs : List UInt8) : Prop := w.ownsRow B 5 1 v xs.length (u8s xs)
theorem Ob.cell {w : World} {B g cap : Nat} {xs : List UInt8} (h : Ob w B (sv g xs.length cap) xs) (j : Nat) (hj : j < xs.length) : w.cell? ⟨g, j, none⟩ = some (.int .u8 (((xs.getD j 0).toNat : Nat) : Int)) := by
  rw [World.ownsRow.cellAt h j (by omega), u8s_at xs j hj]
theorem Ob.fz {w : World} {B g cap : Nat} {xs : List UInt8} (h : Ob w B (sv g xs.length cap) xs) (j : Nat) : w.frozen? ⟨g, j, none⟩ = false := World.ownsRow.frozenAt h j
theorem Ob.capb {w : World} {B g n cap : Nat} {xs : List UInt8} (h : Ob w B (sv g n cap) xs) : n ≤ cap ∧ n = xs.length ∧ cap ≤ 9223372036854775807 ∧ B ≤ g ∧ g < w.heap.size := by
  have hl := World.ownsRow.lt h g rfl
  rcases h.2 with ⟨e, _⟩ | ⟨g', cap', cur, e, h1, h2, h3, h4, h5, _⟩
  · cases e
  · cases e; exact ⟨h3, rfl, h4, hl.1, hl.2⟩
theorem Ob.put {w : World} {B g cap : Nat} {xs : List UInt8} (h : Ob w B (sv g xs.length cap) xs) (j : Nat) (x : UInt8) : Ob (w.setCell ⟨g, j, none⟩ (.int .u8 ((x.toNat : Nat) : Int))) B (sv g (xs.set j x).length cap) (xs.set j x) := by
  have := (World.ownsRow.stored h j (.int .u8 ((x.toNat : Nat) : Int))).1
  unfold Ob sv
  rw [List.length_set, ← u8s_set]; exact this
theorem Ob.putg {w : World} {B g cap : Nat} {xs : List UInt8} (h : Ob w B (sv g xs.length cap) xs) (j : Nat) (x : UInt8) : w.grownBy (w.setCell ⟨g, j, none⟩ (.int .u8 ((x.toNat : Nat) : Int))) (some g) :=
  (World.ownsRow.stored h j (.int .u8 ((x.toNat : Nat) : Int))).2
theorem gdrew {a b : World} {r : Option Nat} (h : a.grownBy b r) : a.grownBy b.drew r := ⟨h.os, h.tape, h.output, h.size, h.block⟩

/-- Half turned round: m places at each end. -/
structure RevInv (bs : List UInt8) (m : Nat) (zs : List UInt8) : Prop where
  len : zs.length = bs.length
  at_ : ∀ j, j < bs.length → zs.getD j 0 = if j < m ∨ bs.length - m ≤ j then bs.getD (bs.length - 1 - j) 0 else bs.getD j 0
theorem getD_set (l : List UInt8) (i j : Nat) (x : UInt8) (hi : i < l.length) : (l.set i x).getD j 0 = if j = i then x else l.getD j 0 := by
  rw [List.getD_eq_getElem?_getD, List.getElem?_set]
  by_cases h : i = j
  · subst h; simp [hi]
  · rw [if_neg h, if_neg (Ne.symm h), List.getD_eq_getElem?_getD]
theorem rev_step {bs zs : List UInt8} {m k : Nat} (h : RevInv bs m zs) (hk : k = bs.length - 1 - m) (hmk : m < k) :
    RevInv bs (m + 1) ((zs.set m (zs.getD k 0)).set k (zs.getD m 0)) := by
  refine ⟨by rw [List.length_set, List.length_set, h.len], fun j hj => ?_⟩
  have hl := h.len
  rw [getD_set _ _ _ _ (by rw [List.length_set]; omega), getD_set _ _ _ _ (by omega)]
  have a1 := h.at_ m (by omega)
  have a2 := h.at_ k (by omega)
  rw [if_neg (by omega)] at a1 a2
  by_cases h1 : j = k
  · rw [if_pos h1, a1, if_pos (by omega)]; congr 1; omega
  · rw [if_neg h1]
    by_cases h2 : j = m
    · rw [if_pos h2, a2, if_pos (by omega)]; congr 1; omega
    · rw [if_neg h2, h.at_ j hj]
      by_cases h3 : j < m ∨ bs.length - m ≤ j
      · rw [if_pos h3, if_pos (by omega)]
      · rw [if_neg h3, if_neg (by omega)]
theorem rev_done {bs zs : List UInt8} {m : Nat} (h : RevInv bs m zs) (hm : bs.length ≤ 2 * m + 1) : zs = bs.reverse := by
  apply List.ext_getElem (by rw [h.len, List.length_reverse])
  intro j h1 h2
  have hj : j < bs.length := by rw [← h.len]; exact h1
  have := h.at_ j hj
  rw [List.getElem_reverse]
  rw [List.getD_eq_getElem?_getD, List.getElem?_eq_getElem h1, Option.getD_some] at this
  rw [this]
  by_cases h3 : j < m ∨ bs.length - m ≤ j
  · rw [if_pos h3, List.getD_eq_getElem?_getD, List.getElem?_eq_getElem (by omega), Option.getD_some]
  · rw [if_neg h3, List.getD_eq_getElem?_getD, List.getElem?_eq_getElem hj, Option.getD_some]
    congr 1; omega

set_option maxHeartbeats 1600000 in
theorem reverse_any (B g cap : Nat) (bs : List UInt8) (w : World) (hp : Ob w B (sv g bs.length cap) bs) (hsz : bs.length ≤ 1000000000) :
    Calls Tryz.prog 163 #[sv g bs.length cap] w fun e w' =>
      e = .returned (.tuple #[]) ∧ Ob w' B (sv g bs.reverse.length cap) bs.reverse ∧ w.grownBy w' (some g) := by
  go_enter Tryz.func163, Tryz.ntmps163
  go_wp2
  go_loopw [2, 3] (fun i j wr => ∃ (m : Nat) (zs : List UInt8), i = .int .i64 (m : Int) ∧ j = .int .i64 ((bs.length : Int) - 1 - m) ∧ 2 * m ≤ bs.length ∧ Hid (RevInv bs m zs) ∧ Hid (Ob wr B (sv g zs.length cap) zs) ∧ w.grownBy wr (some g)) (fun i _ _ => bs.length - (intOf i).toNat)
  case atStart =>
    refine ⟨0, bs, rfl, ?_, by omega, ⟨rfl, fun j hj => ?_⟩, hp, World.grownBy.refl _ _⟩
    · congr 1; omega
    · rw [if_neg (by omega)]
  case round =>
    obtain ⟨m, zs, rfl, rfl, hm, HI, HO, hg⟩ := hrel
    rename World => w0
    by_cases hlt : (m : Int) < (bs.length : Int) - 1 - (m : Int)
    · obtain ⟨k, hk⟩ : ∃ k : Nat, (bs.length : Int) - 1 - (m : Int) = (k : Int) := ⟨bs.length - 1 - m, by omega⟩
      rw [hk] at hlt ⊢
      have hmk : m < k := by omega
      have hkl : k < bs.length := by omega
      have hlz := HI.out.len
      have hci := HO.out.cell m (by omega)
      have hck := HO.out.cell k (by omega)
      have hfi := HO.out.fz m
      have hfk := HO.out.fz k
      have HK := Lib.hid hk
      have HL := Lib.hid hlz
      clear hk hlz
      obtain ⟨x, hx⟩ : ∃ x : Nat, (zs.getD m 0).toNat = x := ⟨_, rfl⟩
      obtain ⟨y, hy⟩ : ∃ y : Nat, (zs.getD k 0).toNat = y := ⟨_, rfl⟩
      rw [hx] at hci
      rw [hy] at hck
      have HX := Lib.hid hx
      have HY := Lib.hid hy
      clear hx hy
      go_wp2
      go_region
      all_goals (try go_wp2)
      go_roundw
      case rel =>
        have st := rev_step HI.out (show k = bs.length - 1 - m by have := HK.out; omega) hmk
        have h1 := HO.out.put m (zs.getD k 0)
        have g1 := HO.out.putg m (zs.getD k 0)
        have h2 := h1.put k (zs.getD m 0)
        have g2 := h1.putg k (zs.getD m 0)
        rw [HX.out, HY.out] at h2 g2
        rw [HY.out] at g1
        exact ⟨m + 1, _, by go_num, by congr 1; have := HK.out; omega, by have := HK.out; omega, st, h2.drew, gdrew (gtrans hg (gtrans g1 g2))⟩
      case measure => simp [intOf]; omega
    · go_wp2
      go_end0
      have := rev_done HI.out (by omega)
      subst this
      have h := HO.out
      rw [List.length_reverse] at h
      exact ⟨rfl, h, hg⟩

/-! ### text: the decimal digits of pieces -/
/-- The last k digits, the least one first. -/
def lows : Nat → Nat → List UInt8
  | 0, _ => []
  | k + 1, n => db (n % 10) :: lows k (n / 10)
theorem lows_length : ∀ k n, (lows k n).length = k
  | 0, _ => rfl
  | k + 1, n => by simp [lows, lows_length k]
theorem lows_snoc : ∀ (k n : Nat), lows (k + 1) n = lows k n ++ [db (n / 10 ^ k % 10)]
  | 0, n => by simp [lows]
  | k + 1, n => by
    rw [lows, lows_snoc k (n / 10), lows, List.cons_append, Nat.div_div_eq_div_mul, Nat.pow_succ, Nat.mul_comm 10]
theorem lows_add : ∀ (k j n : Nat), lows (k + j) n = lows k n ++ lows j (n / 10 ^ k)
  | k, 0, n => by simp [lows]
  | k, j + 1, n => by rw [← Nat.add_assoc, lows_snoc, lows_add k j, lows_snoc j, List.append_assoc, Nat.div_div_eq_div_mul, ← Nat.pow_add]
/-- A number's own digits, turned round. -/
theorem lows_dec (n : Nat) (h : 0 < n) : (lows (Lib.nDigits n) n).reverse = Lib.decDigits n := by
  induction n using Nat.strongRecOn with
  | _ n ih =>
    by_cases h10 : n < 10
    · rw [Lib.nDigits_small h10, dig_small h10, lows, lows, Nat.mod_eq_of_lt h10]; rfl
    · rw [Lib.nDigits_big h10, dig_big h10, lows, List.reverse_cons, ih (n / 10) (by omega) (by omega)]
/-- How many digits are written of a piece: nine, but at the last piece only those that it has. -/
theorem lows_low (k n r : Nat) : lows k (n + 10 ^ k * r) = lows k n := by
  induction k generalizing n r with
  | zero => rfl
  | succ k ih =>
    rw [lows, lows, Nat.pow_succ]
    have e1 : (n + 10 ^ k * 10 * r) % 10 = n % 10 := by
      rw [show 10 ^ k * 10 * r = 10 * (10 ^ k * r) by rw [Nat.mul_right_comm, Nat.mul_comm]]; omega
    have e2 : (n + 10 ^ k * 10 * r) / 10 = n / 10 + 10 ^ k * r := by
      rw [show 10 ^ k * 10 * r = 10 * (10 ^ k * r) by rw [Nat.mul_right_comm, Nat.mul_comm]]; omega
    rw [e1, e2, ih]
/-- What holds of text's bytes behind i pieces and k digits of the next one. -/
structure TextInv (xs : List Nat) (i : Nat) (bs : List UInt8) : Prop where
  eq : bs = lows (9 * i) (val base (xs.take i))
  len : i ≤ xs.length
theorem text_more {xs : List Nat} {i : Nat} {bs : List UInt8} (h : TextInv xs i bs) (hx : Lim base xs) (hi : i < xs.length) :
    TextInv xs (i + 1) (bs ++ lows 9 (xs.getD i 0)) := by
  refine ⟨?_, hi⟩
  have hl := val_lt (hx.take i)
  rw [List.length_take, Nat.min_eq_left (by omega), base_pow] at hl
  rw [h.eq, val_take_succ _ _ _ hi, base_pow, show 9 * (i + 1) = 9 * i + 9 by omega, lows_add, lows_low, Nat.add_mul_div_left _ _ (Nat.pow_pos (by decide)), Nat.div_eq_of_lt hl, Nat.zero_add]
theorem text_last {xs : List Nat} {i : Nat} {bs : List UInt8} (h : TextInv xs i bs) (hx : Lim base xs) (hi : i + 1 = xs.length) (h0 : 0 < xs.getD i 0) :
    bs ++ lows (Lib.nDigits (xs.getD i 0)) (xs.getD i 0) = lows (Lib.nDigits (val base xs)) (val base xs) := by
  have hl := val_lt (hx.take i)
  rw [List.length_take, Nat.min_eq_left (by omega), base_pow] at hl
  have e : val base xs = val base (xs.take i) + base ^ i * xs.getD i 0 := by
    have := val_take_succ base xs i (by omega)
    rw [hi, List.take_of_length_le (Nat.le_refl _)] at this; exact this
  have hd : Lib.nDigits (val base xs) = 9 * i + Lib.nDigits (xs.getD i 0) := by
    rw [e, base_pow]
    have hp := Lib.nDigits_pos (xs.getD i 0)
    obtain ⟨q, hq⟩ : ∃ q, Lib.nDigits (xs.getD i 0) = q + 1 := ⟨_, (Nat.sub_add_cancel hp).symm⟩
    have l1 := pow_le_of_nDigits _ h0
    have l2 := Lib.lt_pow_nDigits (xs.getD i 0)
    rw [hq] at l1 l2 ⊢
    rw [Nat.add_sub_cancel] at l1
    rw [← Nat.add_assoc]
    apply Lib.nDigits_unique
    · rw [Nat.pow_add]; exact Nat.le_trans (Nat.mul_le_mul_left _ l1) (Nat.le_add_left _ _)
    · rw [show 9 * i + q + 1 = 9 * i + (q + 1) by omega, Nat.pow_add]
      have : 10 ^ (9 * i) * (xs.getD i 0 + 1) ≤ 10 ^ (9 * i) * 10 ^ (q + 1) := Nat.mul_le_mul_left _ l2
      rw [Nat.mul_add] at this; omega
  rw [hd, lows_add, h.eq, e, base_pow, lows_low, Nat.add_mul_div_left _ _ (Nat.pow_pos (by decide)), Nat.div_eq_of_lt hl, Nat.zero_add]
end Go.Proofs.YtbihoedcbmnccaaGreatDoor
/- decimal: the text of pieces. -/
namespace Go.Proofs.YtbihoedcbmnccaaGreatDoor
open Go.RowKit

theorem info_u8 : (Tryz.prog.info? 5).map (fun i => (i.zero, i.size, i.bytes)) = some (some (.int .u8 0), 1, 1) := by kernel_rfl
theorem Ob.below {w w' : World} {B g cap : Nat} {xs : List UInt8} (h : Ob w B (sv g xs.length cap) xs) (hb : Below w.heap.size w w') : Ob w' B (sv g xs.length cap) xs :=
  h.kept (row := none) ⟨hb.os, hb.tape, hb.output, hb.size, fun i hi _ => hb.block i hi⟩ (by simp [Value.ownBlock])
theorem add_plain' (g j : Nat) : (⟨g, 0, none⟩ : Addr).add j = ⟨g, j, none⟩ := by unfold Addr.add; split <;> simp_all
set_option maxHeartbeats 400000 in
theorem text_nil (g cap : Nat) (w : World) :
    Calls Tryz.prog 114 #[sv g 0 cap] w fun e w' => e = .returned (.string (D 0)) ∧ Below w.heap.size w w' := by
  go_enter Tryz.func114, Tryz.ntmps114
  go_wp2
  go_ret
  exact ⟨by rw [D_zero]; rfl, Below.refl _ _⟩
set_option maxHeartbeats 3200000 in
set_option maxRecDepth 100000 in
theorem text_pos (gp op capp : Nat) (xs : List Nat) (w : World) (hx : Lim base xs) (tx : Trimmed xs) (hne : 0 < xs.length) (hq : Rd w gp op xs) (hsz : xs.length ≤ 10000000) :
    Calls Tryz.prog 114 #[.slice (some ⟨gp, op, none⟩) xs.length capp] w fun e w' => e = .returned (.string (D (val base xs))) ∧ Below w.heap.size w w' := by
  obtain ⟨i0, hi, hz0, hz1, hz2⟩ := info_parts info_u8
  have hlen : ((xs.length : Int) == 0) = false := by rw [beq_eq_false_iff_ne]; omega
  have hnine : (9 : Int) * (xs.length : Int) = ((9 * xs.length : Nat) : Int) := by omega
  have HN := Lib.hid hnine
  clear hnine
  go_enter Tryz.func114, Tryz.ntmps114
  go_wp2_with (at_make; refine wpList_make_own _ rfl _ _ 176 rfl w.heap.size 5 i0 (.int .u8 0) 1 Tryz.underlying176 hi hz0 hz1 .i64 .i64 _ (9 * xs.length) rfl rfl HN.out (by rw [hz2]; omega) (by unfold maxLen; omega) (Nat.le_refl _) ?_; intro w1 hown hg1)
  have HX1 := Lib.hid (bOfG hg1)
  go_loopw [3, 16] (fun o i wr => ∃ (m : Nat) (bs : List UInt8), o = sv w.heap.size bs.length (9 * xs.length) ∧ i = .int .i64 (m : Int) ∧ m ≤ xs.length ∧ Hid ((m < xs.length ∧ TextInv xs m bs) ∨ (m = xs.length ∧ bs = lows (Lib.nDigits (val base xs)) (val base xs))) ∧ Hid (Ob wr w.heap.size (sv w.heap.size bs.length (9 * xs.length)) bs) ∧ Below w.heap.size w wr) (fun _ i _ => xs.length - (intOf i).toNat)
  case atStart =>
    exact ⟨0, [], rfl, rfl, by omega, .inl ⟨hne, ⟨rfl, by omega⟩⟩, hown, HX1.out⟩
  case round =>
    obtain ⟨m, bs0, rfl, rfl, hm, HI, HO, hb⟩ := hrel
    rename World => w2
    by_cases hlt : m < xs.length
    · have hti : TextInv xs m bs0 := by
        rcases HI.out with h | h
        · exact h.2
        · omega
      have hbl : bs0.length = 9 * m := by rw [hti.eq, lows_length]
      have HT := Lib.hid hti
      have HB := Lib.hid hbl
      clear hti hbl
      have hcx := (hq.grown (gOfB (hb.mono (Nat.le_refl _)) none) (by simp)).2 m hlt
      have hxx := hx.get base_pos m
      rw [base_eq] at hxx
      obtain ⟨x, hxe⟩ : ∃ x, xs.getD m 0 = x := ⟨_, rfl⟩
      rw [hxe] at hcx hxx
      have HX := Lib.hid hxe
      clear hxe
      by_cases hfull : m + 1 < xs.length
      · go_wp2
        go_loopw [3, 5, 6] (fun o n k wr => ∃ (kn nn : Nat) (bs : List UInt8), o = sv w.heap.size bs.length (9 * xs.length) ∧ n = .int .u64 (nn : Int) ∧ k = .int .i64 (kn : Int) ∧ kn ≤ 9 ∧ nn < 1000000000 ∧ Hid (nn = x / 10 ^ kn) ∧ Hid (bs = bs0 ++ lows kn x) ∧ Hid (Ob wr w.heap.size (sv w.heap.size bs.length (9 * xs.length)) bs) ∧ Below w.heap.size w wr) (fun _ _ k _ => 9 - (intOf k).toNat)
        case atStart => exact ⟨0, x, bs0, rfl, rfl, rfl, by omega, hxx, by show x = x / 10 ^ 0; simp, by show bs0 = bs0 ++ []; simp, HO.out, hb⟩
        case round =>
          obtain ⟨kn, nn, bs, rfl, rfl, rfl, hk, hnn, HNN, HBS, HOO, hb2⟩ := hrel
          rename World => w3
          by_cases hk9 : kn < 9
          · have hOW := HOO.out
            have hfit : bs.length + 1 ≤ 9 * xs.length := by rw [HBS.out, List.length_append, lows_length, HB.out]; omega
            have hmod : (48 + (nn : Int) % 10) % 256 = 48 + (nn : Int) % 10 := by omega
            go_wp2_with (at_builtin; refine wpList_append_fits _ rfl _ _ 176 rfl w.heap.size 5 i0 1 Tryz.underlying176 hi hz1 w.heap.size bs.length (9 * xs.length) (u8s bs) rfl (hOW.alloc _) ⟨w3.heap.size, 0, none⟩ 1 1 [.int .u8 (48 + (nn : Int) % 10)] rfl rfl (news1 _ _ _) (one1 _ _) hfit ?_; intro w4 hown4 hg4)
            go_roundw
            case rel =>
              have ev : (Value.int .u8 (48 + (nn : Int) % 10)) = b8 (db (nn % 10)) := by
                unfold b8; rw [db_toNat (Nat.mod_lt _ (by decide))]; congr 1
              rw [ev] at hown4
              refine ⟨kn + 1, nn / 10, bs ++ [db (nn % 10)], ?_, ?_, by go_num, by omega, by omega, ?_, ?_, ?_, ?_⟩
              · rw [List.length_append]; rfl
              · rw [Int.natCast_ediv]; rfl
              · show _ = _; rw [HNN.out, Nat.div_div_eq_div_mul, Nat.pow_succ]
              · show _ = _; rw [lows_snoc, HNN.out, HBS.out, List.append_assoc]
              · show Ob _ _ _ _; unfold Ob; rw [List.length_append, u8s_append]; exact hown4
              · exact belowG (hb2.trans (((Below.refl _ _).alloc (Nat.le_refl _) _).mono hb2.size)) hg4 (Nat.le_trans hb2.size (by simp)) (fun g hg => by cases hg; exact Nat.le_refl _)
            case measure => simp [intOf]; omega
          · obtain rfl : kn = 9 := by omega
            go_wp2
            go_roundw
            case rel =>
              have st := text_more HT.out hx hlt
              rw [HX.out, ← HBS.out] at st
              exact ⟨m + 1, bs, rfl, by go_num, by omega, .inl ⟨hfull, st⟩, HOO.out, hb2⟩
            case measure => simp [intOf]; omega
      · have hlast : m + 1 = xs.length := by omega
        have hx0 : 0 < x := by
          have := trimmed_getD tx hne
          rw [show xs.length - 1 = m by omega, HX.out] at this; omega
        have hnd : Lib.nDigits x ≤ 9 := nDigits_le (by decide) (by simpa using hxx)
        go_wp2
        go_loopw [3, 5, 6] (fun o n k wr => ∃ (kn nn : Nat) (bs : List UInt8), o = sv w.heap.size bs.length (9 * xs.length) ∧ n = .int .u64 (nn : Int) ∧ k = .int .i64 (kn : Int) ∧ kn ≤ Lib.nDigits x ∧ nn < 1000000000 ∧ Hid (nn = x / 10 ^ kn) ∧ Hid (bs = bs0 ++ lows kn x) ∧ Hid (Ob wr w.heap.size (sv w.heap.size bs.length (9 * xs.length)) bs) ∧ Below w.heap.size w wr) (fun _ _ k _ => 9 - (intOf k).toNat)
        case atStart => exact ⟨0, x, bs0, rfl, rfl, rfl, by omega, hxx, by show x = x / 10 ^ 0; simp, by show bs0 = bs0 ++ []; simp, HO.out, hb⟩
        case round =>
          obtain ⟨kn, nn, bs, rfl, rfl, rfl, hk, hnn, HNN, HBS, HOO, hb2⟩ := hrel
          rename World => w3
          by_cases hk9 : kn < Lib.nDigits x
          · have hk10 : kn < 9 := by omega
            have hn0 : 0 < nn := by
              rw [HNN.out]; apply Nat.div_pos _ (Nat.pow_pos (by decide))
              exact Nat.le_trans (Nat.pow_le_pow_right (by decide) (by omega)) (pow_le_of_nDigits x hx0)
            have hOW := HOO.out
            have hfit : bs.length + 1 ≤ 9 * xs.length := by rw [HBS.out, List.length_append, lows_length, HB.out]; omega
            have hmod : (48 + (nn : Int) % 10) % 256 = 48 + (nn : Int) % 10 := by omega
            go_wp2_with (at_builtin; refine wpList_append_fits _ rfl _ _ 176 rfl w.heap.size 5 i0 1 Tryz.underlying176 hi hz1 w.heap.size bs.length (9 * xs.length) (u8s bs) rfl (hOW.alloc _) ⟨w3.heap.size, 0, none⟩ 1 1 [.int .u8 (48 + (nn : Int) % 10)] rfl rfl (news1 _ _ _) (one1 _ _) hfit ?_; intro w4 hown4 hg4)
            go_roundw
            case rel =>
              have ev : (Value.int .u8 (48 + (nn : Int) % 10)) = b8 (db (nn % 10)) := by
                unfold b8; rw [db_toNat (Nat.mod_lt _ (by decide))]; congr 1
              rw [ev] at hown4
              refine ⟨kn + 1, nn / 10, bs ++ [db (nn % 10)], ?_, ?_, by go_num, by omega, by omega, ?_, ?_, ?_, ?_⟩
              · rw [List.length_append]; rfl
              · rw [Int.natCast_ediv]; rfl
              · show _ = _; rw [HNN.out, Nat.div_div_eq_div_mul, Nat.pow_succ]
              · show _ = _; rw [lows_snoc, HNN.out, HBS.out, List.append_assoc]
              · show Ob _ _ _ _; unfold Ob; rw [List.length_append, u8s_append]; exact hown4
              · exact belowG (hb2.trans (((Below.refl _ _).alloc (Nat.le_refl _) _).mono hb2.size)) hg4 (Nat.le_trans hb2.size (by simp)) (fun g hg => by cases hg; exact Nat.le_refl _)
            case measure => simp [intOf]; omega
          · obtain rfl : kn = Lib.nDigits x := by omega
            have hn0 : nn = 0 := by rw [HNN.out]; exact Nat.div_eq_of_lt (Lib.lt_pow_nDigits x)
            subst hn0
            go_wp2
            all_goals
              go_roundw
              case rel =>
                have st := text_last HT.out hx hlast (by rw [HX.out]; exact hx0)
                rw [HX.out, ← HBS.out] at st
                exact ⟨m + 1, bs, rfl, by go_num, by omega, .inr ⟨hlast, st⟩, HOO.out, hb2⟩
              case measure => simp [intOf]; omega
    · have hbs : bs0 = lows (Lib.nDigits (val base xs)) (val base xs) := by
        rcases HI.out with h | h
        · omega
        · exact h.2
      have hpos : 0 < val base xs := tx.pos base_pos (by intro e; subst e; simp at hne)
      have hrev := lows_dec _ hpos
      rw [← hbs] at hrev
      have hbl : bs0.length ≤ 9 * xs.length := HO.out.capb.1
      have hr := reverse_any _ _ _ _ _ HO.out (by omega)
      rw [hrev] at hr
      have hll : (Lib.decDigits (val base xs)).length = bs0.length := by rw [← hrev, List.length_reverse]
      have HLL := Lib.hid hll
      clear hbs hrev hll
      go_wp2_with fail
      refine hr.mono ?_
      rintro e w3 ⟨rfl, ho3, hg3⟩
      have hcv : (convert 176 25 (.slice (some ⟨w.heap.size, 0, none⟩) bs0.length (9 * xs.length))).run Tryz.prog w3 = .ok (.string (D (val base xs))) w3 := by
        have h := run_convert_bytes_back (P := Tryz.prog) w3 176 25 5 ⟨w.heap.size, 0, none⟩ (9 * xs.length) (Lib.decDigits (val base xs)) Tryz.underlying176 Tryz.underlying5 Tryz.underlying25 (fun j hj => by
          rw [add_plain', ho3.cell j hj, List.getD_eq_getElem?_getD, List.getElem?_eq_getElem hj]; rfl)
        rw [HLL.out] at h; exact h
      go_wp2
      go_ret
      exact ⟨rfl, belowG hb hg3 hb.size (fun g hg => by cases hg; exact Nat.le_refl _)⟩
end Go.Proofs.YtbihoedcbmnccaaGreatDoor
