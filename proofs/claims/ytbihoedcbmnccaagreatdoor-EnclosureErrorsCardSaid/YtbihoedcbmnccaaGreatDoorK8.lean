/- enclosure.natural: square (numbers to the base 2^64). -/
import Derived.Test.YtbihoedcbmnccaaGreatDoorK2
import Derived.Test.YtbihoedcbmnccaaGreatDoorK3
import Derived.Test.YtbihoedcbmnccaaGreatDoorK6
import Derived.Shelf.Spec.BitsCarry
import Derived.Laws.Bits64b
import Derived.Laws.Shifts
import Derived.Lib.SliceRun
import Derived.Deep.RegionHeld3
import Derived.Deep.DrawnRows
namespace Go.Proofs
def Tryz.add64_ren : Go.Shelf.Ren := ⟨fun | 25 => 212 | n => n, fun | 22 => 151 | n => n, fun n => n⟩
theorem Tryz.add64_lay : Go.Proofs.Lays7.n25 Tryz.prog Tryz.add64_ren := {
  mixed := by kernel_rfl
  f25 := Tryz.func212.trans (congrArg some (by kernel_rfl))
  t22 := Tryz.underlying151
  a22 := Tryz.isAgg151
  z22 := Tryz.sizeOf151
  v22 := Tryz.zeroValue151
  i22 := by kernel_rfl }
end Go.Proofs
namespace Go.Proofs.YtbihoedcbmnccaaGreatDoor
open Go.RowKit
def w64 : Nat := 18446744073709551616
theorem w64_eq : w64 = 18446744073709551616 := rfl
theorem w64_pos : 0 < w64 := by decide
theorem w64_pow : w64 = 2 ^ 64 := rfl
theorem add64 (x y c : Nat) (hc : c ≤ 1) (w : World) :
    (callFunc 212 #[.int .u64 (x : Int), .int .u64 (y : Int), .int .u64 (c : Int)]).run Tryz.prog w =
      .ok (.value (.tuple #[.int .u64 (((x + y + c) % 18446744073709551616 : Nat) : Int), .int .u64 (((x + y + c) / 18446744073709551616 : Nat) : Int)])) w :=
  Any7.bits_Add64 Tryz.add64_lay x y c hc w

/-- Add64 with its two results named. -/
theorem add64_ex (x y c : Nat) (hx : x < 18446744073709551616) (hy : y < 18446744073709551616) (hc : c ≤ 1) (w : World) :
    ∃ s d : Nat, s < 18446744073709551616 ∧ d ≤ 1 ∧ s + 18446744073709551616 * d = x + y + c ∧
      (callFunc 212 #[.int .u64 (x : Int), .int .u64 (y : Int), .int .u64 (c : Int)]).run Tryz.prog w = .ok (.value (.tuple #[.int .u64 (s : Int), .int .u64 (d : Int)])) w :=
  ⟨_, _, Nat.mod_lt _ (by decide), by omega, by omega, add64 x y c hc w⟩
theorem mul64_ex (x y : Nat) (hx : x < 18446744073709551616) (hy : y < 18446744073709551616) (w : World) :
    ∃ h l : Nat, h < 18446744073709551616 ∧ l < 18446744073709551616 ∧ l + 18446744073709551616 * h = x * y ∧
      Calls Tryz.prog 169 #[.int .u64 (x : Int), .int .u64 (y : Int)] w fun e w' => e = .returned (.tuple #[.int .u64 (h : Int), .int .u64 (l : Int)]) ∧ w' = w := by
  refine ⟨x * y / 18446744073709551616, x * y % 18446744073709551616, ?_, Nat.mod_lt _ (by decide), by omega, Tryz.bits_Mul64 x y hx hy w⟩
  refine Nat.div_lt_of_lt_mul (Nat.mul_lt_mul_of_lt_of_lt hx hy)
structure SqInv (zs0 ys : List Nat) (a i k : Nat) (zs : List Nat) (c : Nat) : Prop where
  len : zs.length = zs0.length
  lim : Lim w64 zs
  rest : zs.drop (i + k) = zs0.drop (i + k)
  sum : val w64 (zs.take (i + k)) + w64 ^ (i + k) * c = val w64 (zs0.take (i + k)) + w64 ^ i * (a * val w64 (ys.take k))
  carry : c < w64
theorem sq_bound {a y z c : Nat} (ha : a < w64) (hy : y < w64) (hz : z < w64) (hc : c < w64) : c + (z + a * y) < w64 * w64 := by
  have : a * y ≤ (w64 - 1) * (w64 - 1) := Nat.mul_le_mul (by omega) (by omega)
  rw [w64_eq] at *; omega
theorem sq_step {zs0 ys zs : List Nat} {a i k c : Nat} (h : SqInv zs0 ys a i k zs c) (hy : Lim w64 ys) (ha : a < w64) (hk : k < ys.length) (hj : i + k < zs0.length) :
    SqInv zs0 ys a i (k + 1) (zs.set (i + k) ((c + (zs.getD (i + k) 0 + a * ys.getD k 0)) % w64)) ((c + (zs.getD (i + k) 0 + a * ys.getD k 0)) / w64) := by
  have hjz : i + k < zs.length := by rw [h.len]; exact hj
  have e := getD_rest h.rest
  have hb := sq_bound ha (hy.get w64_pos k) (h.lim.get w64_pos (i + k)) h.carry
  refine ⟨by rw [List.length_set, h.len], h.lim.set _ (Nat.mod_lt _ w64_pos), ?_, ?_, Nat.div_lt_of_lt_mul hb⟩
  · rw [← Nat.add_assoc, drop_set_after]; exact drop_rest h.rest
  · rw [← Nat.add_assoc, take_set_succ _ _ _ hjz, val_snoc, List.length_take, Nat.min_eq_left (by omega), val_take_succ _ _ _ hj, val_take_succ _ _ _ hk, ← e]
    have h1 := h.sum
    have h2 := Nat.div_add_mod (c + (zs.getD (i + k) 0 + a * ys.getD k 0)) w64
    generalize (c + (zs.getD (i + k) 0 + a * ys.getD k 0)) % w64 = r at h2 ⊢
    generalize (c + (zs.getD (i + k) 0 + a * ys.getD k 0)) / w64 = q at h2 ⊢
    rw [Nat.pow_succ, Nat.mul_assoc (w64 ^ (i + k)), Nat.mul_add a, Nat.mul_left_comm a, Nat.mul_add (w64 ^ i), ← Nat.mul_assoc (w64 ^ i) (w64 ^ k), ← Nat.pow_add]
    have h3 : w64 ^ (i + k) * r + w64 ^ (i + k) * (w64 * q) = w64 ^ (i + k) * c + w64 ^ (i + k) * zs.getD (i + k) 0 + w64 ^ (i + k) * (a * ys.getD k 0) := by
      rw [← Nat.mul_add, ← Nat.mul_add, ← Nat.mul_add]; congr 1; omega
    omega
structure SoInv (xs ys : List Nat) (i : Nat) (zs : List Nat) : Prop where
  len : zs.length = xs.length + ys.length + 1
  lim : Lim w64 zs
  sum : val w64 (zs.take (i + ys.length)) = val w64 (xs.take i) * val w64 ys
  rest : zs.drop (i + ys.length) = List.replicate (xs.length + 1 - i) 0
theorem SoInv.start (xs ys : List Nat) : SoInv xs ys 0 (List.replicate (xs.length + ys.length + 1) 0) := by
  refine ⟨by simp, Lim.zeros w64_pos _, ?_, ?_⟩
  · rw [List.take_replicate, val_replicate, List.take_zero, val_nil, Nat.zero_mul]
  · rw [List.drop_replicate]; congr 1; omega
theorem so_zero {xs ys zs0 zs : List Nat} {i c : Nat} (h : SoInv xs ys i zs0) (_hi : i < xs.length) (m : SqInv zs0 ys (xs.getD i 0) i ys.length zs c) : zs.getD (i + ys.length) 0 = 0 := by
  have e := getD_rest m.rest
  rw [e]
  have := congrArg (fun l => l.getD 0 0) h.rest
  simp only [List.getD_eq_getElem?_getD, List.getElem?_drop, List.getElem?_replicate, Nat.add_zero] at this
  rw [List.getD_eq_getElem?_getD, this]; split <;> rfl
theorem so_step {xs ys zs0 zs : List Nat} {i c : Nat} (h : SoInv xs ys i zs0) (hi : i < xs.length) (m : SqInv zs0 ys (xs.getD i 0) i ys.length zs c) :
    SoInv xs ys (i + 1) (zs.set (i + ys.length) c) := by
  have hl : zs.length = xs.length + ys.length + 1 := by rw [m.len, h.len]
  refine ⟨by rw [List.length_set, hl], m.lim.set _ m.carry, ?_, ?_⟩
  · rw [show i + 1 + ys.length = i + ys.length + 1 by omega, take_set_succ _ _ _ (by omega), val_snoc, List.length_take, Nat.min_eq_left (by omega), m.sum, h.sum, val_take_succ _ _ _ hi,
      List.take_of_length_le (Nat.le_refl _), Nat.add_mul, Nat.mul_assoc]
  · rw [show i + 1 + ys.length = i + ys.length + 1 by omega, drop_set_after]
    have e := drop_rest (xs := zs0) m.rest
    rw [e]
    have := congrArg (List.drop 1) h.rest
    rw [List.drop_drop, List.drop_replicate] at this
    rw [this]; congr 1
theorem SoInv.done {xs ys zs : List Nat} (h : SoInv xs ys xs.length zs) : val w64 zs = val w64 xs * val w64 ys := by
  have := h.sum
  rw [List.take_of_length_le (Nat.le_refl xs.length)] at this
  rw [val_take_drop w64 zs (xs.length + ys.length) (by rw [h.len]; omega), this, h.rest, val_replicate]; simp

set_option maxHeartbeats 1600000 in
set_option maxRecDepth 100000 in
theorem square_any (gp op capp : Nat) (xs : List Nat) (w : World) (hx : Lim w64 xs) (hp : Rd w gp op xs) (hs1 : xs.length ≤ 100000000) :
    Calls Tryz.prog 189 #[.slice (some ⟨gp, op, none⟩) xs.length capp] w fun e w' =>
      ∃ cap zs, e = .returned (sv w.heap.size zs.length cap) ∧ Ow w' w.heap.size (sv w.heap.size zs.length cap) zs ∧ Lim w64 zs ∧ zs.length = 2 * xs.length + 1 ∧ val w64 zs = val w64 xs * val w64 xs ∧ Below w.heap.size w w' := by
  obtain ⟨i0, hi, hz0, hz1, hz2⟩ := info_parts info_u64
  have hcast : (2 * (xs.length : Int) + 1) = ((xs.length + xs.length + 1 : Nat) : Int) := by omega
  have HCA := Lib.hid hcast
  clear hcast
  go_enter Tryz.func189, Tryz.ntmps189
  go_wp2_with (at_make; refine wpList_make_full _ rfl _ _ 224 rfl w.heap.size 151 i0 (.int .u64 0) 1 Tryz.underlying224 hi hz0 hz1 .i64 .i64 _ _ (xs.length + xs.length + 1) rfl rfl HCA.out HCA.out (by rw [hz2]; omega) (by unfold maxLen; omega) (Nat.le_refl _) ?_; intro w1 hown hg1)
  rw [made_u64] at hown
  have HX1 := Lib.hid (bOfG hg1)
  have HO1 : Hid (Ow w1 w.heap.size (sv w.heap.size (List.replicate (xs.length + xs.length + 1) 0).length (xs.length + xs.length + 1)) (List.replicate (xs.length + xs.length + 1) 0)) := by
    show Ow _ _ _ _; unfold Ow sv; rw [List.length_replicate]; exact hown
  clear hown
  go_loopw [19] (fun i wr => ∃ (m : Nat) (zs : List Nat), i = .int .i64 (m : Int) ∧ m ≤ xs.length ∧ Hid (SoInv xs xs m zs) ∧ Hid (Ow wr w.heap.size (sv w.heap.size zs.length (xs.length + xs.length + 1)) zs) ∧ w1.grownBy wr (some w.heap.size)) (fun i _ => xs.length - (intOf i).toNat)
  case atStart => exact ⟨0, _, rfl, by omega, SoInv.start xs xs, HO1.out, World.grownBy.refl _ _⟩
  case round =>
    obtain ⟨m, zs0, rfl, hm, HI, HO, hg⟩ := hrel
    rename World => w2
    by_cases hlt : m < xs.length
    · have hcx := ((hp.grown hg1 (by simp)).grown hg (by have := hp.1; simp; omega)).2 m hlt
      have hxx := hx.get w64_pos m
      rw [w64_eq] at hxx
      generalize hxg : xs.getD m 0 = x at hcx hxx
      have HX := Lib.hid hxg
      clear hxg
      go_wp2
      go_loopw [6, 26] (fun c k wr => ∃ (cn kn : Nat) (zs : List Nat), c = .int .u64 (cn : Int) ∧ k = .int .i64 (kn : Int) ∧ kn ≤ xs.length ∧ cn < 18446744073709551616 ∧ Hid (SqInv zs0 xs (xs.getD m 0) m kn zs cn) ∧ Hid (Ow wr w.heap.size (sv w.heap.size zs.length (xs.length + xs.length + 1)) zs) ∧ w2.grownBy wr (some w.heap.size)) (fun _ k _ => xs.length - (intOf k).toNat)
      case atStart =>
        refine ⟨0, 0, zs0, rfl, rfl, by omega, by omega, ⟨rfl, HI.out.lim, rfl, ?_, w64_pos⟩, HO.out, World.grownBy.refl _ _⟩
        simp [val_nil]
      case round =>
        obtain ⟨cn, kn, zs, rfl, rfl, hk, hc1, HJ, HP, hg3⟩ := hrel
        rename World => w3
        have hl : zs.length = xs.length + xs.length + 1 := by rw [HJ.out.len, HI.out.len]
        have HL := Lib.hid hl
        clear hl
        by_cases hend : kn < xs.length
        · have hcz := HP.out.cell (m + kn) (by rw [HL.out]; omega)
          have hfz := HP.out.fz (m + kn)
          have hz := HJ.out.lim.get w64_pos (m + kn)
          have hcy := (((hp.grown hg1 (by simp)).grown hg (by have := hp.1; simp; omega)).grown hg3 (by have := hp.1; simp; omega)).2 kn hend
          have hyy := hx.get w64_pos kn
          have st := sq_step HJ.out hx (by rw [HX.out, w64_eq]; exact hxx) hend (by rw [HI.out.len]; omega)
          have HT := Lib.hid st
          clear st
          rw [w64_eq] at hz hyy
          generalize hzz : zs.getD (m + kn) 0 = z at hcz hz
          have HZ := Lib.hid hzz
          clear hzz
          generalize hyg : xs.getD kn 0 = y at hcy hyy
          have HY := Lib.hid hyg
          clear hyg
          have hbd := sq_bound (a := x) (y := y) (z := z) (c := cn) hxx hyy hz hc1
          rw [w64_eq] at hbd
          obtain ⟨h, lo, hh, hlo, hm, hmul⟩ := mul64_ex x y hxx hyy w3
          obtain ⟨s1, c1, hs1, hc1', he1, ha1⟩ := add64_ex lo z 0 hlo hz (by omega) w3
          obtain ⟨s2, c2, hs2, hc2', he2, ha2⟩ := add64_ex s1 cn 0 hs1 hc1 (by omega) w3
          rw [← hm] at hbd
          have hhc : h + c1 + c2 < 18446744073709551616 := by omega
          have HS : Hid (s2 + 18446744073709551616 * (h + c1 + c2) = cn + (z + x * y)) := by show _ = _; rw [← hm]; omega
          have HMUL := Lib.hid hmul
          have HA1 := Lib.hid ha1
          have HA2 := Lib.hid ha2
          clear hmul ha1 ha2 he1 he2 hm hbd
          go_wp2_with fail
          refine HMUL.out.mono ?_
          rintro e w4 ⟨rfl, rfl⟩
          go_wp2_with (simp only [show ((0 : Nat) : Int) = 0 from rfl] at *; simp only [HA1.out])
          go_wp2_with (simp only [HA2.out])
          go_roundw
          case rel =>
            have st := HT.out
            have key : cn + (zs.getD (m + kn) 0 + xs.getD m 0 * xs.getD kn 0) = s2 + 18446744073709551616 * (h + c1 + c2) := by rw [HZ.out, HY.out, HX.out, HS.out]
            rw [key] at st
            have e1 : (s2 + 18446744073709551616 * (h + c1 + c2)) % w64 = s2 := by rw [w64_eq]; omega
            have e2 : (s2 + 18446744073709551616 * (h + c1 + c2)) / w64 = h + c1 + c2 := by rw [w64_eq]; omega
            rw [e1, e2] at st
            exact ⟨h + c1 + c2, kn + 1, _, by go_num, by go_num, by omega, hhc, st, Ow.put HP.out (m + kn) s2, gtrans hg3 (Ow.putg HP.out _ _)⟩
          case measure => simp [intOf]; omega
        · obtain rfl : kn = xs.length := by omega
          have hcz := HP.out.cell (m + xs.length) (by rw [HL.out]; omega)
          have hfz := HP.out.fz (m + xs.length)
          rw [so_zero HI.out hlt HJ.out] at hcz
          go_wp2
          go_roundw
          case rel =>
            have st := so_step HI.out hlt HJ.out
            exact ⟨m + 1, _, by go_num, by omega, st, Ow.put HP.out (m + xs.length) cn, gtrans hg (gtrans hg3 (Ow.putg HP.out _ _))⟩
          case measure => simp [intOf]; omega
    · obtain rfl : m = xs.length := by omega
      go_wp2
      go_ret
      exact ⟨_, zs0, by rw [HI.out.len]; rfl, HO.out, HI.out.lim, by rw [HI.out.len]; omega, HI.out.done, belowG HX1.out hg HX1.out.size (fun g hg => by cases hg; exact Nat.le_refl _)⟩
end Go.Proofs.YtbihoedcbmnccaaGreatDoor
/- enclosure.natural: shift, next, reaches. -/
namespace Go.Proofs.YtbihoedcbmnccaaGreatDoor
open Go.RowKit
theorem drop_getD (xs : List Nat) (k i : Nat) : (xs.drop k).getD i 0 = xs.getD (k + i) 0 := by
  rw [List.getD_eq_getElem?_getD, List.getElem?_drop, ← List.getD_eq_getElem?_getD]
/-- The limbs of the number divided by 2 ^ r. -/
def shL (r : Nat) (ys : List Nat) : List Nat := (List.range ys.length).map (fun i => ys.getD i 0 / 2 ^ r + (ys.getD (i + 1) 0 % 2 ^ r) * 2 ^ (64 - r))
theorem shL_length (r : Nat) (ys : List Nat) : (shL r ys).length = ys.length := by unfold shL; simp
theorem shL_getD {r : Nat} {ys : List Nat} {i : Nat} (h : i < ys.length) : (shL r ys).getD i 0 = ys.getD i 0 / 2 ^ r + (ys.getD (i + 1) 0 % 2 ^ r) * 2 ^ (64 - r) := by
  unfold shL; rw [List.getD_eq_getElem?_getD, List.getElem?_map, List.getElem?_range h]; rfl
theorem shL_cons (r x : Nat) (t : List Nat) : shL r (x :: t) = (x / 2 ^ r + (t.getD 0 0 % 2 ^ r) * 2 ^ (64 - r)) :: shL r t := by
  unfold shL; rw [List.length_cons, List.range_succ_eq_map, List.map_cons, List.map_map]; rfl
theorem sh_limb {r x y : Nat} (hr : r < 64) (hx : x < w64) : x / 2 ^ r + (y % 2 ^ r) * 2 ^ (64 - r) < w64 := by
  have h1 : 2 ^ r * 2 ^ (64 - r) = 18446744073709551616 := by rw [← Nat.pow_add, show r + (64 - r) = 64 by omega]
  have h0 : 0 < 2 ^ r := Nat.two_pow_pos r
  have h2 : x / 2 ^ r < 2 ^ (64 - r) := Nat.div_lt_of_lt_mul (by rw [h1]; rw [w64_eq] at hx; exact hx)
  have h3 : (y % 2 ^ r + 1) * 2 ^ (64 - r) ≤ 2 ^ r * 2 ^ (64 - r) := Nat.mul_le_mul_right _ (Nat.mod_lt _ h0)
  rw [Nat.add_mul, Nat.one_mul, h1] at h3
  rw [w64_eq]; omega
theorem shL_lim {r : Nat} {ys : List Nat} (hr : r < 64) (h : Lim w64 ys) : Lim w64 (shL r ys) := by
  intro v hv
  unfold shL at hv
  obtain ⟨i, _, rfl⟩ := List.mem_map.1 hv
  exact sh_limb hr (h.get w64_pos i)
theorem val_shL {r : Nat} (hr : r < 64) : ∀ ys : List Nat, val w64 (shL r ys) = val w64 ys / 2 ^ r
  | [] => by simp [shL, val_nil]
  | x :: t => by
    rw [shL_cons, val_cons, val_cons, val_shL hr t]
    have h1 : w64 = 2 ^ r * 2 ^ (64 - r) := by rw [← Nat.pow_add, show r + (64 - r) = 64 by omega]; rfl
    have h0 : 0 < 2 ^ r := Nat.two_pow_pos r
    have h2 : t.getD 0 0 % 2 ^ r = val w64 t % 2 ^ r := by
      cases t with
      | nil => rfl
      | cons y u => rw [val_cons, h1, Nat.mul_assoc, Nat.add_mul_mod_self_left]; rfl
    rw [h2]
    have h3 := Nat.div_add_mod (val w64 t) (2 ^ r)
    generalize val w64 t = V at *
    rw [h1]
    have e : x + 2 ^ r * 2 ^ (64 - r) * V = x + 2 ^ r * (2 ^ (64 - r) * V) := by rw [Nat.mul_assoc]
    rw [e, Nat.add_mul_div_left _ _ h0]
    have e2 : 2 ^ (64 - r) * V = 2 ^ r * 2 ^ (64 - r) * (V / 2 ^ r) + V % 2 ^ r * 2 ^ (64 - r) := by
      generalize 2 ^ r = a at *; generalize 2 ^ (64 - r) = b at *
      conv => lhs; rw [← h3]
      rw [Nat.mul_add]; congr 1 <;> ac_rfl
    omega
theorem val_drop_div {b : Nat} (hb : 0 < b) {l : List Nat} (h : Lim b l) (k : Nat) : val b (l.drop k) = val b l / b ^ k := by
  rcases Nat.lt_or_ge k l.length with hk | hk
  · have h1 := val_take_drop b l k (by omega)
    have h2 := val_lt (h.take k)
    rw [List.length_take, Nat.min_eq_left (by omega)] at h2
    rw [h1, Nat.add_mul_div_left _ _ (Nat.pow_pos hb), Nat.div_eq_of_lt h2, Nat.zero_add]
  · rw [List.drop_eq_nil_of_le hk, val_nil]
    refine (Nat.div_eq_of_lt (Nat.lt_of_lt_of_le (val_lt h) (Nat.pow_le_pow_right hb hk))).symm
theorem val_shift {xs : List Nat} {k r : Nat} (h : Lim w64 xs) (hr : r < 64) : val w64 (shL r (xs.drop k)) = val w64 xs / 2 ^ (64 * k + r) := by
  rw [val_shL hr, val_drop_div w64_pos h, Nat.div_div_eq_div_mul, Nat.pow_add, Nat.pow_mul]; rfl
theorem fill_step {l : List Nat} {i n : Nat} (hn : l.length = n) (hi : i < n) : (l.take i ++ List.replicate (n - i) 0).set i (l.getD i 0) = l.take (i + 1) ++ List.replicate (n - (i + 1)) 0 := by
  rw [take_snoc l i (by omega)]
  have : n - i = (n - (i + 1)) + 1 := by omega
  rw [this, List.replicate_succ, List.set_append_right _ _ (by rw [List.length_take]; omega), List.length_take, Nat.min_eq_left (by omega), Nat.sub_self, List.set_cons_zero, List.append_assoc]; rfl
theorem or_shl {a y r : Nat} (ha : a < 2 ^ (64 - r)) : a ||| y * 2 ^ (64 - r) = a + y * 2 ^ (64 - r) := by
  rw [Nat.or_comm, ← Nat.shiftLeft_eq, ← Nat.shiftLeft_add_eq_or_of_lt ha, Nat.add_comm]

set_option maxHeartbeats 1600000 in
set_option maxRecDepth 100000 in
theorem shift_any (gp op capp : Nat) (xs : List Nat) (wd r : Nat) (w : World) (hx : Lim w64 xs) (hp : Rd w gp op xs) (hs1 : xs.length ≤ 100000000) (hr : r < 64) (hwd : wd ≤ 100000000) :
    Calls Tryz.prog 190 #[.slice (some ⟨gp, op, none⟩) xs.length capp, .int .i64 ((64 * wd + r : Nat) : Int)] w fun e w' =>
      ∃ cap zs, e = .returned (sv w.heap.size zs.length cap) ∧ Ow w' w.heap.size (sv w.heap.size zs.length cap) zs ∧ Lim w64 zs ∧ zs.length = xs.length - wd ∧ val w64 zs = val w64 xs / 2 ^ (64 * wd + r) ∧ Below w.heap.size w w' := by
  obtain ⟨i0, hi, hz0, hz1, hz2⟩ := info_parts info_u64
  generalize hby : 64 * wd + r = by_
  have hb1 : (by_ : Int) / 64 = (wd : Int) := by omega
  have hb2 : (by_ : Int) % 64 = (r : Int) := by omega
  have hb3 : 0 ≤ (by_ : Int) := by omega
  have HBY := Lib.hid hby
  have HB2 := Lib.hid hb2
  clear hby hb2
  have hcast : max ((xs.length : Int) - (wd : Int)) 0 = ((xs.length - wd : Nat) : Int) := by omega
  have HCA := Lib.hid hcast
  clear hcast
  go_enter Tryz.func190, Tryz.ntmps190
  go_wp2_with (at_make; refine wpList_make_full _ rfl _ _ 224 rfl w.heap.size 151 i0 (.int .u64 0) 1 Tryz.underlying224 hi hz0 hz1 .i64 .i64 _ _ (xs.length - wd) rfl rfl HCA.out HCA.out (by rw [hz2]; omega) (by unfold maxLen; omega) (Nat.le_refl _) ?_; intro w1 hown hg1; rw [HB2.out])
  rw [made_u64] at hown
  have HX1 := Lib.hid (bOfG hg1)
  have HO1 : Hid (Ow w1 w.heap.size (sv w.heap.size (List.replicate (xs.length - wd) 0).length (xs.length - wd)) (List.replicate (xs.length - wd) 0)) := by
    show Ow _ _ _ _; unfold Ow sv; rw [List.length_replicate]; exact hown
  clear hown
  have HDL : Hid ((xs.drop wd).length = xs.length - wd) := List.length_drop
  go_loopw [21] (fun i wr => ∃ (m : Nat) (zs : List Nat), i = .int .i64 (m : Int) ∧ m ≤ xs.length - wd ∧ Hid (zs = (shL r (xs.drop wd)).take m ++ List.replicate (xs.length - wd - m) 0) ∧ Hid (zs.length = xs.length - wd) ∧ Hid (Ow wr w.heap.size (sv w.heap.size zs.length (xs.length - wd)) zs) ∧ w1.grownBy wr (some w.heap.size)) (fun i _ => xs.length - wd - (intOf i).toNat)
  case atStart => exact ⟨0, _, rfl, by omega, by show _ = _; rw [List.take_zero, Nat.sub_zero]; rfl, by show _ = _; simp, HO1.out, World.grownBy.refl _ _⟩
  case round =>
    obtain ⟨m, zs, rfl, hm, HE, HL, HO, hg⟩ := hrel
    rename World => w2
    by_cases hlt : m < xs.length - wd
    · have hrd := (hp.grown hg1 (by simp)).grown hg (by have := hp.1; simp; omega)
      have hcx := hrd.2 (m + wd) (by omega)
      have hxx := hx.get w64_pos (m + wd)
      have hyy := hx.get w64_pos (m + wd + 1)
      have hfz := HO.out.fz m
      have hcz := HO.out.cell m (by rw [HL.out]; exact hlt)
      have hsz := (HO.out.capb).2.2.2.2
      have HZ := shL_getD (r := r) (ys := xs.drop wd) (i := m) (by rw [HDL.out]; exact hlt)
      rw [drop_getD xs wd m, drop_getD xs wd (m + 1), Nat.add_comm wd m, show wd + (m + 1) = m + wd + 1 by omega] at HZ
      rw [w64_eq] at hxx hyy
      have hq0 : xs.getD (m + wd) 0 / 2 ^ r < 2 ^ (64 - r) := Nat.div_lt_of_lt_mul (by rw [← Nat.pow_add, show r + (64 - r) = 64 by omega]; exact hxx)
      have hput := Ow.put HO.out m
      by_cases hc : 0 < r ∧ m + wd + 1 < xs.length
      · generalize hxg : xs.getD (m + wd) 0 = x at *
        have hcy := hrd.2 (m + wd + 1) hc.2
        generalize hyg : xs.getD (m + wd + 1) 0 = y at *
        have hqi : (x : Int) / 2 ^ r = ((x / 2 ^ r : Nat) : Int) := by rw [Int.natCast_ediv, Int.natCast_pow]; rfl
        generalize x / 2 ^ r = q at *
        obtain ⟨hr0, hc2⟩ := hc
        obtain ⟨s, hs⟩ : ∃ s, 64 - r = s := ⟨_, rfl⟩
        rw [hs] at hq0 HZ
        have hsub : (64 : Int) - (r : Int) = (s : Int) := by omega
        have hs64 : s < 64 := by omega
        have hpw : 2 ^ r * 2 ^ s = 18446744073709551616 := by rw [← Nat.pow_add, show r + s = 64 by omega]
        have hv64 : y % 2 ^ r * 2 ^ s < 18446744073709551616 := by
          rw [← hpw]; exact Nat.mul_lt_mul_of_pos_right (Nat.mod_lt _ (Nat.two_pow_pos r)) (Nat.two_pow_pos s)
        have hshl : IntKind.u64.wrap ((y : Int) * 2 ^ s) = ((y % 2 ^ r * 2 ^ s : Nat) : Int) := by
          rw [IntKind.wrap_u64, show ((y : Int) * 2 ^ s) = ((y * 2 ^ s : Nat) : Int) by rw [Int.natCast_mul, Int.natCast_pow]; rfl]
          rw [← Nat.mul_mod_mul_right, hpw, Int.natCast_emod]; rfl
        have hor : bits .or .u64 (q : Int) ((y % 2 ^ r * 2 ^ s : Nat) : Int) = ((q + y % 2 ^ r * 2 ^ s : Nat) : Int) := by
          rw [bits_or_u64_nat q _ (Nat.lt_of_lt_of_le hq0 (by rw [← hpw]; exact Nat.le_mul_of_pos_left _ (Nat.two_pow_pos r))) hv64, ← hs, or_shl (by rw [hs]; exact hq0)]
        generalize y % 2 ^ r * 2 ^ s = v at *
        obtain ⟨qv, hqv⟩ : ∃ k, k = q + v := ⟨_, rfl⟩
        rw [← hqv] at hor HZ
        clear hqv
        have HPW := Lib.hid hpw
        have HS := Lib.hid hs
        have HZZ := Lib.hid HZ
        have HXG := Lib.hid hxg
        have HYG := Lib.hid hyg
        have hput := HO.out.put m q
        have hpg := HO.out.putg m q
        have hrd3 := hrd.grown hpg (by have := hp.1; simp; omega)
        have HHS := Lib.hid hshl
        have HOR := Lib.hid hor
        clear HZ hpw hs hxg hyg hshl hor
        have hcy3 := hrd3.2 (m + wd + 1) hc2
        have hcq := hput.cell m (by rw [List.length_set, HL.out]; exact hlt)
        have hfz3 := hput.fz m
        have hsz3 := (hput.capb).2.2.2.2
        rw [HYG.out] at hcy3
        rw [show (zs.set m q).getD m 0 = q by rw [List.getD_eq_getElem?_getD, List.getElem?_set_self (by rw [HL.out]; exact hlt)]; rfl] at hcq
        have HPUT := Lib.hid hput
        have HPG := Lib.hid hpg
        clear hput hpg hrd3
        go_wp2
        generalize w2.setCell ⟨w.heap.size, m, none⟩ (.int .u64 (q : Int)) = w3 at *
        have hshl := HHS.out
        have hor := HOR.out
        go_region
        go_wp2
        go_roundw
        case rel =>
          have h4 := Ow.put HPUT.out m qv
          rw [List.set_set] at h4
          have hnew : zs.set m qv = (shL r (xs.drop wd)).take (m + 1) ++ List.replicate (xs.length - wd - (m + 1)) 0 := by
            rw [← fill_step (by rw [shL_length, HDL.out]) hlt, ← HE.out, HZZ.out]
          exact ⟨m + 1, _, by go_num, by omega, hnew, by show _ = _; rw [List.length_set]; exact HL.out, h4.drew, gdrew (gtrans (gtrans hg HPG.out) (Ow.putg HPUT.out m qv))⟩
        case measure => simp [intOf]; omega
      · have hv : (shL r (xs.drop wd)).getD m 0 = xs.getD (m + wd) 0 / 2 ^ r := by
          rw [HZ]
          have : xs.getD (m + wd + 1) 0 % 2 ^ r = 0 := by
            rcases Nat.eq_zero_or_pos r with h0 | h0
            · subst h0; rw [Nat.pow_zero, Nat.mod_one]
            · rw [List.getD_eq_getElem?_getD, List.getElem?_eq_none (by omega)]; exact Nat.zero_mod _
          rw [this]; omega
        generalize hxg : xs.getD (m + wd) 0 = x at *
        have hqi : (x : Int) / 2 ^ r = ((x / 2 ^ r : Nat) : Int) := by rw [Int.natCast_ediv, Int.natCast_pow]; rfl
        generalize x / 2 ^ r = q at *
        clear HZ hyy
        have HV := Lib.hid hv
        have HXG := Lib.hid hxg
        have HPUT := Lib.hid hput
        clear hv hxg hput
        have hc' : r = 0 ∨ xs.length ≤ m + wd + 1 := by omega
        have HC := Lib.hid hc'
        clear hc' hc
        rcases HC.out with h0 | h0
        · subst h0
          obtain rfl : q = x := by simp at hqi; omega
          go_wp2
          go_roundw
          case rel =>
            have hnew : zs.set m q = (shL 0 (xs.drop wd)).take (m + 1) ++ List.replicate (xs.length - wd - (m + 1)) 0 := by
              rw [← fill_step (by rw [shL_length, HDL.out]) hlt, ← HE.out, HV.out]
            exact ⟨m + 1, _, by go_num, by omega, hnew, by show _ = _; rw [List.length_set]; exact HL.out, HPUT.out q, gtrans hg (Ow.putg HO.out m q)⟩
          case measure => simp [intOf]; omega
        · rcases Nat.eq_zero_or_pos r with h1 | h1
          · subst h1
            obtain rfl : q = x := by simp at hqi; omega
            go_wp2
            go_roundw
            case rel =>
              have hnew : zs.set m q = (shL 0 (xs.drop wd)).take (m + 1) ++ List.replicate (xs.length - wd - (m + 1)) 0 := by
                rw [← fill_step (by rw [shL_length, HDL.out]) hlt, ← HE.out, HV.out]
              exact ⟨m + 1, _, by go_num, by omega, hnew, by show _ = _; rw [List.length_set]; exact HL.out, HPUT.out q, gtrans hg (Ow.putg HO.out m q)⟩
            case measure => simp [intOf]; omega
          · go_wp2
            go_roundw
            case rel =>
              have hnew : zs.set m q = (shL r (xs.drop wd)).take (m + 1) ++ List.replicate (xs.length - wd - (m + 1)) 0 := by
                rw [← fill_step (by rw [shL_length, HDL.out]) hlt, ← HE.out, HV.out]
              exact ⟨m + 1, _, by go_num, by omega, hnew, by show _ = _; rw [List.length_set]; exact HL.out, HPUT.out q, gtrans hg (Ow.putg HO.out m q)⟩
            case measure => simp [intOf]; omega
    · obtain rfl : m = xs.length - wd := by omega
      go_wp2
      go_ret
      have hz : zs = shL r (xs.drop wd) := by
        have := HE.out
        rw [Nat.sub_self, List.replicate_zero, List.append_nil, List.take_of_length_le (by rw [shL_length, HDL.out]; exact Nat.le_refl _)] at this; exact this
      refine ⟨_, zs, by rw [HL.out]; rfl, HO.out, by rw [hz]; exact shL_lim hr fun x hx' => hx x (List.mem_of_mem_drop hx'), HL.out, ?_, belowG HX1.out hg HX1.out.size (fun g hg => by cases hg; exact Nat.le_refl _)⟩
      rw [hz, val_shift hx hr, HBY.out]
end Go.Proofs.YtbihoedcbmnccaaGreatDoor
/- enclosure.natural: next, reaches (with slices.Clone). -/
namespace Go.Proofs.YtbihoedcbmnccaaGreatDoor
open Go.RowKit

theorem rd_news {w : World} {g o : Nat} {xs : List Nat} (h : Rd w g o xs) : ∀ j u, (u64s xs)[j]? = some u → w.cell? ((⟨g, o, none⟩ : Addr).add j) = some u := by
  intro j u hu
  have hj : j < xs.length := by
    rcases Nat.lt_or_ge j xs.length with h1 | h1
    · exact h1
    · rw [List.getElem?_eq_none (by rw [u64s_length]; exact h1)] at hu; cases hu
  rw [u64s_at xs j hj] at hu; cases hu
  rw [Addr.add_lit]; exact h.2 j hj
theorem one_u64s (xs : List Nat) : ∀ u ∈ u64s xs, u.oneCell' = true := by
  intro u hu; obtain ⟨x, _, rfl⟩ := List.mem_map.1 hu; rfl

set_option maxHeartbeats 1600000 in
set_option maxRecDepth 100000 in
theorem clone_any (gp op capp : Nat) (xs : List Nat) (w : World) (hp : Rd w gp op xs) (h0 : 0 < xs.length) (hs1 : xs.length ≤ 100000000) :
    Calls Tryz.prog 188 #[.slice (some ⟨gp, op, none⟩) xs.length capp] w fun e w' =>
      ∃ g cap, e = .returned (sv g xs.length cap) ∧ Ow w' w.heap.size (sv g xs.length cap) xs ∧ Below w.heap.size w w' := by
  obtain ⟨i0, hi, hz0, hz1, hz2⟩ := info_parts info_u64
  go_enter Tryz.func188, Tryz.ntmps188
  have qT : (binOp .eql 224 (.slice (some ⟨gp, op, none⟩) xs.length capp) (.slice none 0 0)).run Tryz.prog w = .ok (.bool false) w := Lib.run_eql_slice_nil w 224 151 (some ⟨gp, op, none⟩) xs.length capp 0 0 Tryz.underlying224
  go_wp2_with (at_builtin; refine wpList_append_own_at _ rfl _ _ 224 rfl w.heap.size 151 i0 (.int .u64 0) 1 8 Tryz.underlying224 hi hz0 hz1 hz2 rfl (by omega) (sv w.heap.size 0 0) 0 [] rfl (World.ownsRow_lit w #[] 0 (Nat.le_refl _) (by decide) rfl) ⟨gp, op, none⟩ xs.length capp (u64s xs) rfl (by rw [u64s_length, Nat.mul_one]) (rd_news (hp.grown (gOfB ((Below.refl _ _).alloc (Nat.le_refl _) _) none) (by simp))) (one_u64s xs) (by unfold maxLen; omega) (by omega) (by simp) ?_; intro v4 w4 hown4 hg4 hn4 hat4)
  go_ret
  rw [Nat.zero_add, List.nil_append] at hown4
  have hO4 : Ow w4 w.heap.size v4 xs := hown4
  obtain ⟨g4, cap4, rfl⟩ := own_shape hO4 h0
  refine ⟨g4, cap4, rfl, hO4, ?_⟩
  exact belowG ((Below.refl _ _).alloc (Nat.le_refl _) _) hg4 (by simp) (fun g hg => by simp [Value.ownBlock] at hg; omega)

/-- What holds of next's list and carry behind k words. -/
structure NxInv (xs : List Nat) (k : Nat) (zs : List Nat) (c : Nat) : Prop where
  len : zs.length = xs.length
  lim : Lim w64 zs
  rest : zs.drop k = xs.drop k
  sum : val w64 (zs.take k) + w64 ^ k * c = val w64 (xs.take k) + 1
  carry : c ≤ 1
theorem nx_step {xs zs : List Nat} {k c s d : Nat} (h : NxInv xs k zs c) (hk : k < xs.length) (hs : s < w64) (hd : d ≤ 1) (he : s + w64 * d = zs.getD k 0 + c) :
    NxInv xs (k + 1) (zs.set k s) d := by
  have hkz : k < zs.length := by rw [h.len]; exact hk
  have e := getD_rest h.rest
  refine ⟨by rw [List.length_set, h.len], h.lim.set _ hs, ?_, ?_, hd⟩
  · rw [drop_set_after]; exact drop_rest h.rest
  · rw [take_set_succ _ _ _ hkz, val_snoc, List.length_take, Nat.min_eq_left (by omega), val_take_succ _ _ _ hk, ← e]
    have h1 := h.sum
    rw [Nat.pow_succ, Nat.mul_assoc]
    have h3 : w64 ^ k * s + w64 ^ k * (w64 * d) = w64 ^ k * zs.getD k 0 + w64 ^ k * c := by
      rw [← Nat.mul_add, he, Nat.mul_add]
    omega
theorem nx_done {xs zs : List Nat} {c : Nat} (hx : Lim w64 xs) (h : NxInv (xs ++ [0]) (xs.length + 1) zs c) : val w64 zs = val w64 xs + 1 := by
  have h1 := h.sum
  rw [List.take_of_length_le (by rw [h.len]; simp), List.take_of_length_le (by simp), val_snoc, Nat.mul_zero, Nat.add_zero] at h1
  have h2 := val_lt hx
  have h3 : c = 0 := by
    rcases Nat.eq_zero_or_pos c with h0 | h0
    · exact h0
    · exfalso
      obtain rfl : c = 1 := by have := h.carry; omega
      have h4 : w64 ^ xs.length * 2 ≤ w64 ^ (xs.length + 1) := by rw [Nat.pow_succ]; exact Nat.mul_le_mul_left _ (by rw [w64_eq]; decide)
      have h5 : 0 < w64 ^ xs.length := Nat.pow_pos w64_pos
      rw [Nat.mul_one] at h1
      generalize w64 ^ (xs.length + 1) = B at *
      generalize w64 ^ xs.length = A at *
      omega
  subst h3; rw [Nat.mul_zero] at h1; exact h1

set_option maxHeartbeats 1600000 in
set_option maxRecDepth 100000 in
theorem next_any (gp op capp : Nat) (xs : List Nat) (w : World) (hx : Lim w64 xs) (hp : Rd w gp op xs) (h0 : 0 < xs.length) (hs1 : xs.length ≤ 100000000) :
    Calls Tryz.prog 191 #[.slice (some ⟨gp, op, none⟩) xs.length capp] w fun e w' =>
      ∃ g cap zs, e = .returned (sv g zs.length cap) ∧ Ow w' w.heap.size (sv g zs.length cap) zs ∧ Lim w64 zs ∧ zs.length = xs.length + 1 ∧ val w64 zs = val w64 xs + 1 ∧ Below w.heap.size w w' := by
  obtain ⟨i0, hi, hz0, hz1, hz2⟩ := info_parts info_u64
  go_enter Tryz.func191, Tryz.ntmps191
  go_wp2_with fail
  refine (clone_any gp op capp xs w hp h0 hs1).mono ?_
  rintro e w1 ⟨g1, cap1, rfl, hO1, hb1⟩
  have hO := Lib.hid hO1
  have hB := Lib.hid hb1
  have hsz := hb1.size
  clear hO1 hb1
  go_wp2_with (at_builtin; refine wpList_append_own_at _ rfl _ _ 224 rfl w.heap.size 151 i0 (.int .u64 0) 1 8 Tryz.underlying224 hi hz0 hz1 hz2 rfl (by omega) (sv g1 xs.length cap1) xs.length (u64s xs) rfl (hO.out.alloc _) ⟨w1.heap.size, 0, none⟩ 1 1 [.int .u64 0] rfl rfl (news1 _ _ _) (one1 _ _) (by unfold maxLen; omega) (by omega) (by simp; omega) ?_; intro v4 w4 hown4 hg4 hn4 hat4)
  have hO4 : Ow w4 w.heap.size v4 (xs ++ [0]) := by unfold Ow; rw [List.length_append, u64s_append]; exact hown4
  clear hown4 hn4
  obtain ⟨g4, cap4, rfl⟩ := own_shape hO4 (by simp)
  have hg1w := hO.out.capb.2.2.2
  have HB4 := Lib.hid (belowG (hB.out.trans (((Below.refl _ _).alloc (Nat.le_refl _) (.cells #[.int .u64 0] 151)).mono hsz)) hg4 (Nat.le_trans hsz (by simp)) (fun g hg => by simp [Value.ownBlock] at hg; omega))
  have hg4w : w.heap.size ≤ g4 := hO4.capb.2.2.2.1
  have h4s := hO4.capb.2.2.2
  have H4 := Lib.hid hO4
  clear hO4 hat4 hg4
  have hl4 : (xs ++ [0]).length = xs.length + 1 := by simp
  have HL4 := Lib.hid hl4
  clear hl4
  rw [HL4.out]
  unfold sv
  go_simp
  go_wp2
  go_loopw [4, 12] (fun c k wr => ∃ (cn kn : Nat) (zs : List Nat), c = .int .u64 (cn : Int) ∧ k = .int .i64 (kn : Int) ∧ kn ≤ xs.length + 1 ∧ cn ≤ 1 ∧ Hid (NxInv (xs ++ [0]) kn zs cn) ∧ Hid (Ow wr w.heap.size (sv g4 zs.length cap4) zs) ∧ w4.grownBy wr (some g4)) (fun _ k _ => xs.length + 1 - (intOf k).toNat)
  case atStart =>
    refine ⟨1, 0, xs ++ [0], rfl, rfl, by omega, by omega, ⟨rfl, hx.append (Lim.one w64_pos), rfl, by simp [val_nil], Nat.le_refl _⟩, ?_, World.grownBy.refl _ _⟩
    exact H4.out
  case round =>
    obtain ⟨cn, kn, zs, rfl, rfl, hk, hc1, HI, HO, hg⟩ := hrel
    rename World => w5
    have hl : zs.length = xs.length + 1 := by rw [HI.out.len, HL4.out]
    have HL := Lib.hid hl
    clear hl
    by_cases hlt : kn < xs.length + 1
    · have hcz := HO.out.cell kn (by rw [HL.out]; exact hlt)
      have hfz := HO.out.fz kn
      have hsz5 := (HO.out.capb).2.2.2.2
      have hz := HI.out.lim.get w64_pos kn
      rw [w64_eq] at hz
      generalize hzz : zs.getD kn 0 = z at hcz hz
      have HZ := Lib.hid hzz
      clear hzz
      obtain ⟨s, d, hs, hd, he, ha⟩ := add64_ex z 0 cn hz (by omega) hc1 w5
      have HE := Lib.hid he
      rw [show ((0 : Nat) : Int) = (0 : Int) from rfl] at ha
      have HA := Lib.hid ha
      clear he ha
      go_wp2_with (simp only [HA.out])
      go_roundw
      case rel =>
        have st := nx_step HI.out (by rw [HL4.out]; exact hlt) (show s < w64 from hs) hd (by have := HE.out; rw [HZ.out, w64_eq]; omega)
        exact ⟨d, kn + 1, _, rfl, by go_num, by omega, hd, st, Ow.put HO.out kn s, gtrans hg (Ow.putg HO.out _ _)⟩
      case measure => simp [intOf]; omega
    · obtain rfl : kn = xs.length + 1 := by omega
      go_wp2
      go_ret
      exact ⟨g4, cap4, zs, by rw [HL.out]; rfl, HO.out, HI.out.lim, HL.out, nx_done hx HI.out, belowG HB4.out hg (by have := HB4.out.size; omega) (fun g hg => by cases hg; exact hg4w)⟩
end Go.Proofs.YtbihoedcbmnccaaGreatDoor
/- enclosure.natural: reaches. -/
namespace Go.Proofs.YtbihoedcbmnccaaGreatDoor
open Go.RowKit

theorem val_pos_of {b : Nat} (hb : 0 < b) {l : List Nat} {k : Nat} (hk : k < l.length) (h : l.getD k 0 ≠ 0) : 0 < val b l := by
  rw [val_take_drop b l k (by omega), val_drop_succ b l k hk]
  have h1 : 0 < b ^ k * (l.getD k 0 + b * val b (l.drop (k + 1))) := Nat.mul_pos (Nat.pow_pos hb) (by omega)
  omega
theorem val_zero_of (b : Nat) {l : List Nat} (h : ∀ k, k < l.length → l.getD k 0 = 0) : val b l = 0 := by
  induction l with
  | nil => rfl
  | cons x t ih =>
    rw [val_cons, ih (fun k hk => by have := h (k + 1) (by simpa using hk); simpa using this)]
    have := h 0 (by simp)
    simp at this; omega

set_option maxHeartbeats 1600000 in
set_option maxRecDepth 100000 in
theorem reaches_any (gp op capp : Nat) (xs : List Nat) (wd r : Nat) (w : World) (hx : Lim w64 xs) (hp : Rd w gp op xs) (hs1 : xs.length ≤ 100000000) (hr : r < 64) (hwd : wd ≤ 100000000) :
    Calls Tryz.prog 192 #[.slice (some ⟨gp, op, none⟩) xs.length capp, .int .i64 ((64 * wd + r : Nat) : Int)] w fun e w' =>
      e = .returned (.bool (decide (2 ^ (64 * wd + r) ≤ val w64 xs))) ∧ Below w.heap.size w w' := by
  go_enter Tryz.func192, Tryz.ntmps192
  go_wp2_with fail
  refine (shift_any gp op capp xs wd r w hx hp hs1 hr hwd).mono ?_
  rintro e w1 ⟨cap, zs, rfl, hO1, hl, hlen, hv, hb1⟩
  have HO := Lib.hid hO1
  have HB := Lib.hid hb1
  have HLEN := Lib.hid hlen
  have HV := Lib.hid hv
  have hzl : zs.length ≤ 100000000 := by omega
  clear hO1 hb1 hlen hv
  unfold sv
  go_simp
  go_wp2
  go_loopw [11] (fun i wr => ∃ kn : Nat, i = .int .i64 (kn : Int) ∧ kn ≤ zs.length ∧ wr = w1 ∧ Hid (∀ k, k < kn → zs.getD k 0 = 0)) (fun i _ => zs.length - (intOf i).toNat)
  case atStart => exact ⟨0, rfl, by omega, by trivial, fun k hk => by omega⟩
  case round =>
    obtain ⟨kn, rfl, hk, rfl, HZ⟩ := hrel
    rename World => w1
    by_cases hlt : kn < zs.length
    · have hcz := HO.out.cell kn hlt
      have hz := hl.get w64_pos kn
      rw [w64_eq] at hz
      generalize hzz : zs.getD kn 0 = z at hcz hz
      have HZZ := Lib.hid hzz
      clear hzz
      by_cases h0 : z = 0
      · subst h0
        go_wp2
        go_roundw
        case rel =>
          refine ⟨kn + 1, by go_num, by omega, by trivial, ?_⟩
          intro k hk'
          rcases Nat.lt_or_ge k kn with h | h
          · exact HZ.out k h
          · rw [show k = kn by omega]; exact HZZ.out
        case measure => simp [intOf]; omega
      · have hne : ((z : Int) != 0) = true := by rw [bne_iff_ne]; omega
        have H0 := Lib.hid h0
        clear h0
        go_wp2
        go_ret
        refine ⟨?_, HB.out⟩
        have h1 := val_pos_of w64_pos hlt (by rw [HZZ.out]; exact H0.out)
        rw [HV.out] at h1
        rw [decide_eq_true (Nat.div_pos_iff.1 h1).2]; rfl
    · obtain rfl : kn = zs.length := by omega
      go_wp2
      go_ret
      refine ⟨?_, HB.out⟩
      have h1 := val_zero_of w64 HZ.out
      rw [HV.out] at h1
      have h2 := Nat.lt_of_div_eq_zero (Nat.two_pow_pos _) h1
      rw [decide_eq_false (Nat.not_le.2 h2)]; rfl
end Go.Proofs.YtbihoedcbmnccaaGreatDoor
/- enclosure: begin. -/
namespace Go.Proofs.YtbihoedcbmnccaaGreatDoor
open Go.RowKit

/-- A mantissa in memory: its block b is the call's own; the two rows are readable, and no older than C. -/
structure MS (w : World) (B C b P lo hi : Nat) : Prop where
  ex : ∃ gl capl zl gh caph zh, Bo w B b 227 [sv gl zl.length capl, sv gh zh.length caph, .int .i64 (P : Int)] ∧ Rd w gl 0 zl ∧ Rd w gh 0 zh ∧ gl ≠ b ∧ gh ≠ b ∧
    Lim w64 zl ∧ Lim w64 zh ∧ zl.length = P / 64 + 2 ∧ zh.length = P / 64 + 2 ∧ val w64 zl = lo ∧ val w64 zh = hi ∧ C ≤ gl ∧ C ≤ gh
theorem MS.kept {w w' : World} {B C b P lo hi : Nat} (h : MS w B C b P lo hi) {r : Option Nat} (hg : w.grownBy w' r) (hr : ∀ g, r = some g → g < C ∧ g ≠ b) : MS w' B 0 b P lo hi := by
  obtain ⟨gl, capl, zl, gh, caph, zh, h1, h2, h3, h4, h5, h6, h7, h8, h9, h10, h11, h12, h13⟩ := h.ex
  have k : ∀ x, (∀ g, r = some g → g ≠ x) → some x ≠ r := fun x hx e => hx x e.symm rfl
  exact ⟨gl, capl, zl, gh, caph, zh, h1.keptG hg (k b fun g e => (hr g e).2), h2.grown hg (k gl fun g e => by have := (hr g e).1; omega), h3.grown hg (k gh fun g e => by have := (hr g e).1; omega), h4, h5, h6, h7, h8, h9, h10, h11, Nat.zero_le _, Nat.zero_le _⟩
theorem val_zeros_set (n j x : Nat) (h : j < n) : val w64 ((List.replicate n 0).set j x) = w64 ^ j * x := by
  have := val_set w64 x (List.replicate n 0) j (by simpa using h)
  rw [val_replicate] at this
  have h0 : (List.replicate n 0).getD j 0 = 0 := by
    rw [List.getD_eq_getElem?_getD, List.getElem?_replicate]; split <;> rfl
  rw [h0] at this; omega
theorem begin_val {n p q r : Nat} (hq : q + 1 < n) (hr : r < 64) : val w64 (((List.replicate n 0).set q (p * 2 ^ r % 18446744073709551616)).set (q + 1) (p / 2 ^ (64 - r))) = p * 2 ^ (64 * q + r) := by
  have h1 := val_set w64 (p / 2 ^ (64 - r)) ((List.replicate n 0).set q (p * 2 ^ r % 18446744073709551616)) (q + 1) (by simpa using hq)
  have h0 : ((List.replicate n 0).set q (p * 2 ^ r % 18446744073709551616)).getD (q + 1) 0 = 0 := by
    rw [List.getD_eq_getElem?_getD, List.getElem?_set_ne (by omega), List.getElem?_replicate]; split <;> rfl
  rw [h0, val_zeros_set n q _ (by omega)] at h1
  rw [Nat.mul_zero, Nat.add_zero] at h1
  rw [h1, Nat.pow_succ, Nat.mul_assoc, ← Nat.mul_add]
  have h2 : p / 2 ^ (64 - r) = p * 2 ^ r / 18446744073709551616 := by
    have h3 : 18446744073709551616 = 2 ^ (64 - r) * 2 ^ r := by rw [← Nat.pow_add, show 64 - r + r = 64 by omega]
    rw [h3, Nat.mul_div_mul_right _ _ (Nat.two_pow_pos r)]
  rw [h2, w64_eq, Nat.mod_add_div, Nat.pow_add, Nat.pow_mul, ← Nat.mul_assoc, Nat.mul_comm p, Nat.mul_right_comm, Nat.mul_assoc]

theorem val_set_zero (l : List Nat) (j : Nat) (h : l.getD j 0 = 0) : val w64 (l.set j 0) = val w64 l := by
  rcases Nat.lt_or_ge j l.length with hj | hj
  · have := val_set w64 0 l j hj
    rw [h] at this; omega
  · rw [List.set_eq_of_length_le hj]
set_option maxHeartbeats 1600000 in
set_option maxRecDepth 100000 in
theorem begin_any (p k P : Nat) (w : World) (hp : p < 128) (hk : k ≤ P) (hP : P ≤ 1000000) :
    Calls Tryz.prog 161 #[.int .i64 (p : Int), .int .i64 (k : Int), .int .i64 (P : Int)] w fun e w' =>
      ∃ b, e = .returned (.pointer (some ⟨b, 0, none⟩)) ∧ MS w' w.heap.size w.heap.size b P (p * 2 ^ (P - k)) (p * 2 ^ (P - k)) ∧ Below w.heap.size w w' := by
  obtain ⟨i0, hi, hz0, hz1, hz2⟩ := info_parts info_u64
  obtain ⟨q, hq⟩ : ∃ q, (P - k) / 64 = q := ⟨_, rfl⟩
  obtain ⟨r, hr⟩ : ∃ r, (P - k) % 64 = r := ⟨_, rfl⟩
  have hr64 : r < 64 := by omega
  have hcast : (P : Int) / 64 + 2 = ((P / 64 + 2 : Nat) : Int) := by omega
  have HCA := Lib.hid hcast
  have hqI : ((P : Int) - (k : Int)) / 64 = (q : Int) := by omega
  have hrI : ((P : Int) - (k : Int)) % 64 = (r : Int) := by omega
  have h0I : 0 ≤ (P : Int) - (k : Int) := by omega
  have hqn : q + 1 < P / 64 + 2 := by omega
  have HQ := Lib.hid (And.intro hq hr)
  clear hcast hq hr
  go_enter Tryz.func161, Tryz.ntmps161
  go_wp2_with (at_make; refine wpList_make_full _ rfl _ _ 224 rfl w.heap.size 151 i0 (.int .u64 0) 1 Tryz.underlying224 hi hz0 hz1 .i64 .i64 _ _ (P / 64 + 2) rfl rfl HCA.out HCA.out (by rw [hz2]; omega) (by unfold maxLen; omega) (Nat.le_refl _) ?_; intro w1 hown hg1)
  rw [made_u64] at hown
  have HX1 := Lib.hid (bOfG hg1)
  have HO1 : Hid (Ow w1 w.heap.size (sv w.heap.size (List.replicate (P / 64 + 2) 0).length (P / 64 + 2)) (List.replicate (P / 64 + 2) 0)) := by
    show Ow _ _ _ _; unfold Ow sv; rw [List.length_replicate]; exact hown
  clear hown
  have hcz := HO1.out.cell q (by simp; omega)
  have hfz := HO1.out.fz q
  have hsz := HO1.out.capb.2.2.2.2
  rw [show (List.replicate (P / 64 + 2) 0).getD q 0 = 0 by rw [List.getD_eq_getElem?_getD, List.getElem?_replicate]; split <;> rfl] at hcz
  have hv0 : p * 2 ^ r % 18446744073709551616 < 18446744073709551616 := Nat.mod_lt _ (by decide)
  have hwr : IntKind.u64.wrap ((p : Int) * 2 ^ r) = ((p * 2 ^ r % 18446744073709551616 : Nat) : Int) := by
    rw [IntKind.wrap_u64, show ((p : Int) * 2 ^ r) = ((p * 2 ^ r : Nat) : Int) by rw [Int.natCast_mul, Int.natCast_pow]; rfl, Int.natCast_emod]; rfl
  obtain ⟨v0, hv0e⟩ : ∃ v, p * 2 ^ r % 18446744073709551616 = v := ⟨_, rfl⟩
  obtain ⟨v1, hv1e⟩ : ∃ v, p / 2 ^ (64 - r) = v := ⟨_, rfl⟩
  rw [hv0e] at hwr hv0
  have hv1 : v1 < 18446744073709551616 := by rw [← hv1e]; exact Nat.lt_of_le_of_lt (Nat.div_le_self ..) (by omega)
  have hor0 : bits .or .u64 0 (v0 : Int) = (v0 : Int) := by
    have := bits_or_u64_nat 0 v0 (by decide) hv0
    rw [Nat.zero_or] at this; exact this
  have hor1 : bits .or .u64 0 (v1 : Int) = (v1 : Int) := by
    have := bits_or_u64_nat 0 v1 (by decide) hv1
    rw [Nat.zero_or] at this; exact this
  have HVE := Lib.hid (And.intro hv0e hv1e)
  have HWR := Lib.hid hwr
  have HOR0 := Lib.hid hor0
  have HOR1 := Lib.hid hor1
  have hval := begin_val (n := P / 64 + 2) (p := p) (q := q) (r := r) hqn hr64
  rw [hv0e, hv1e, show 64 * q + r = P - k by have := HQ.out; omega] at hval
  have HVAL := Lib.hid hval
  have HH1 := Lib.hid hv1e
  clear hval hv0e hv1e hwr hor0 hor1
  have hput := HO1.out.put q v0
  have hpg := HO1.out.putg q v0
  have HG : Hid (w1.grownBy (w1.setCell ⟨w.heap.size, q, none⟩ (.int .u64 (v0 : Int))).drew (some w.heap.size)) := gdrew hpg
  have HO2 : Hid (Ow (w1.setCell ⟨w.heap.size, q, none⟩ (.int .u64 (v0 : Int))).drew w.heap.size (sv w.heap.size ((List.replicate (P / 64 + 2) 0).set q v0).length (P / 64 + 2)) ((List.replicate (P / 64 + 2) 0).set q v0)) := hput.drew
  clear hput hpg
  go_wp2
  have hwr := HWR.out
  have hor0 := HOR0.out
  go_region
  clear hwr hor0
  generalize (w1.setCell ⟨w.heap.size, q, none⟩ (.int .u64 (v0 : Int))).drew = w2 at *
  have hpow1 : P / 64 + 2 ≤ 100000000 := by omega
  have hB2 := belowG HX1.out HG.out HX1.out.size (fun g hg => by cases hg; exact Nat.le_refl _)
  have HB2 := Lib.hid hB2
  clear hB2
  -- the end: the copy and the box
  have fin : ∀ (w3 : World) (zs : List Nat), Ow w3 w.heap.size (sv w.heap.size zs.length (P / 64 + 2)) zs → zs.length = P / 64 + 2 → Lim w64 zs → val w64 zs = p * 2 ^ (P - k) → Below w.heap.size w w3 →
      ∀ (w4 : World) (g cap : Nat), Ow w4 w3.heap.size (sv g zs.length cap) zs → Below w3.heap.size w3 w4 → ∀ vs : Array Value, vs = #[sv w.heap.size zs.length (P / 64 + 2), sv g zs.length cap, .int .i64 (P : Int)] →
      MS (w4.alloc (.cells vs 227)) w.heap.size w.heap.size w4.heap.size P (p * 2 ^ (P - k)) (p * 2 ^ (P - k)) ∧ Below w.heap.size w (w4.alloc (.cells vs 227)) := by
    intro w3 zs hO3 hl3 hlim hv3 hb3 w4 g cap hO4 hb4 vs hvs
    subst hvs
    have hs3 := hb3.size
    have hs4 := hb4.size
    have hal : Below w4.heap.size w4 (w4.alloc (.cells #[sv w.heap.size zs.length (P / 64 + 2), sv g zs.length cap, .int .i64 (P : Int)] 227)) := (Below.refl _ _).alloc (Nat.le_refl _) _
    have hO34 := hO3.below hb4
    have h1 := hO34.below hal
    have h2 := hO4.below hal
    have hlt := hO34.capb.2.2.2.2
    have hlt2 := hO4.capb.2.2.2.2
    have hlt3 := hO4.capb.2.2.2.1
    refine ⟨⟨w.heap.size, P / 64 + 2, zs, g, cap, zs, (Bo.new w4 227 _ (by simp [maxLen])).mono (by omega), ?_, ?_, by omega, by omega, hlim, hlim, hl3, hl3, hv3, hv3, Nat.le_refl _, by omega⟩, ?_⟩
    · exact ⟨h1.rd.1, fun j hj => by have := h1.rd.2 j hj; exact this⟩
    · exact ⟨h2.rd.1, fun j hj => by have := h2.rd.2 j hj; exact this⟩
    · exact bT hb3 (bT (hb4) hal)
  rcases Nat.eq_zero_or_pos r with h0 | h0
  · subst h0
    have hl2 : ((List.replicate (P / 64 + 2) 0).set q v0).length = P / 64 + 2 := by simp
    have hlim2 : Lim w64 ((List.replicate (P / 64 + 2) 0).set q v0) := (Lim.zeros w64_pos _).set _ hv0
    have hv2 : val w64 ((List.replicate (P / 64 + 2) 0).set q v0) = p * 2 ^ (P - k) := by
      have h3 : v1 = 0 := by have := HH1.out; rw [← this]; exact Nat.div_eq_of_lt (by omega)
      have := HVAL.out
      rw [h3, val_set_zero _ _ (by rw [List.getD_eq_getElem?_getD, List.getElem?_set_ne (by omega), List.getElem?_replicate]; split <;> rfl)] at this
      exact this
    generalize (List.replicate (P / 64 + 2) 0).set q v0 = zs at *
    have hcl := clone_any w.heap.size 0 (P / 64 + 2) zs w2 HO2.out.rd (by omega) (by omega)
    rw [hl2] at hcl
    have HL2 := Lib.hid hl2
    clear hl2
    go_wp2_with fail
    refine hcl.mono ?_
    rintro e w4 ⟨g, cap, rfl, hO4, hb4⟩
    have HFIN := Lib.hid (fin w2 zs HO2.out HL2.out hlim2 hv2 HB2.out w4 g cap (by rw [HL2.out]; exact hO4) hb4 _ rfl)
    clear fin hO4 hb4 hcl
    unfold sv
    go_simp
    go_wp2
    go_ret
    have := HFIN.out
    rw [HL2.out] at this
    exact ⟨_, rfl, this⟩
  · obtain ⟨s, hs⟩ : ∃ s, 64 - r = s := ⟨_, rfl⟩
    have hsub : (64 : Int) - (r : Int) = (s : Int) := by omega
    have hs64 : s < 64 := by omega
    have hsh : (p : Int) / 2 ^ s = (v1 : Int) := by
      have := HH1.out
      rw [← this, hs, Int.natCast_ediv, Int.natCast_pow]; rfl
    have HS := Lib.hid hs
    clear hs
    have hcz1 := HO2.out.cell (q + 1) (by simp; omega)
    have hfz1 := HO2.out.fz (q + 1)
    have hsz1 := HO2.out.capb.2.2.2.2
    rw [show ((List.replicate (P / 64 + 2) 0).set q v0).getD (q + 1) 0 = 0 by rw [List.getD_eq_getElem?_getD, List.getElem?_set_ne (by omega), List.getElem?_replicate]; split <;> rfl] at hcz1
    have HO3 : Hid (Ow (w2.setCell ⟨w.heap.size, q + 1, none⟩ (.int .u64 (v1 : Int))).drew w.heap.size (sv w.heap.size (((List.replicate (P / 64 + 2) 0).set q v0).set (q + 1) v1).length (P / 64 + 2)) (((List.replicate (P / 64 + 2) 0).set q v0).set (q + 1) v1)) := (HO2.out.put (q + 1) v1).drew
    have HB3 : Hid (Below w.heap.size w (w2.setCell ⟨w.heap.size, q + 1, none⟩ (.int .u64 (v1 : Int))).drew) :=
      (belowG HB2.out (gdrew (HO2.out.putg (q + 1) v1)) HB2.out.size (fun g hg => by cases hg; exact Nat.le_refl _))
    have hor1 := HOR1.out
    have HSH := Lib.hid hsh
    clear hsh
    go_wp2
    have hsh := HSH.out
    go_region
    clear hsh hor1
    generalize (w2.setCell ⟨w.heap.size, q + 1, none⟩ (.int .u64 (v1 : Int))).drew = w3 at *
    have hl2 : (((List.replicate (P / 64 + 2) 0).set q v0).set (q + 1) v1).length = P / 64 + 2 := by simp
    have hlim2 : Lim w64 (((List.replicate (P / 64 + 2) 0).set q v0).set (q + 1) v1) := ((Lim.zeros w64_pos _).set _ hv0).set _ hv1
    have hv2 := HVAL.out
    generalize ((List.replicate (P / 64 + 2) 0).set q v0).set (q + 1) v1 = zs at *
    have hcl := clone_any w.heap.size 0 (P / 64 + 2) zs w3 HO3.out.rd (by omega) (by omega)
    rw [hl2] at hcl
    have HL2 := Lib.hid hl2
    clear hl2
    go_wp2_with fail
    refine hcl.mono ?_
    rintro e w4 ⟨g, cap, rfl, hO4, hb4⟩
    have HFIN := Lib.hid (fin w3 zs HO3.out HL2.out hlim2 hv2 HB3.out w4 g cap (by rw [HL2.out]; exact hO4) hb4 _ rfl)
    clear fin hO4 hb4 hcl
    unfold sv
    go_simp
    go_wp2
    go_ret
    have := HFIN.out
    rw [HL2.out] at this
    exact ⟨_, rfl, this⟩
end Go.Proofs.YtbihoedcbmnccaaGreatDoor
/- A region that draws its order, reads cells that its last operations write anew: a condition on the world that must hold behind all operations but those last ones. -/
namespace Go.Proofs.YtbihoedcbmnccaaGreatDoor
variable {P : Program} {ops : Array Oper} {Q : Exit → Act → World → Prop} {md : Region.Mode} {T : World → Prop} {late : Nat → Bool}

/-- In whatever order; T holds behind every operation that is not a late one. -/
def AnyT (P : Program) (md : Region.Mode) (ops : Array Oper) (Q : Exit → Act → World → Prop) (T : World → Prop) (late : Nat → Bool) : Nat → Array Bool → Act → World → Prop
  | 0, l, a, w => Region.ready md ops l = [] ∧ Q .normal a w
  | n + 1, l, a, w => (Region.ready md ops l = [] → Q .normal a w) ∧ ∀ i ∈ Region.ready md ops l, wpOp P ops Q i (fun a' w' => (late i = false → T w') ∧ AnyT P md ops Q T late n (l.setIfInBounds i true) a' w') a w
theorem AnyT.any : ∀ (n : Nat) (l : Array Bool) (a : Act) (w : World), AnyT P md ops Q T late n l a w → wpAny P md ops Q n l a w := by
  intro n
  induction n with
  | zero => intro l a w h; exact h
  | succ n ih => intro l a w h; exact ⟨h.1, fun i hi => wpOp_mono (fun a' w' k => ih _ a' w' k.2) (h.2 i hi)⟩
/-- Of the operations that have not come up, the late ones wait for operation i, each by a bond of its own. -/
def waits (md : Region.Mode) (ops : Array Oper) (late : Nat → Bool) (l : Array Bool) (i : Nat) : Bool :=
  (List.range ops.size).all fun j => !late j || l.getD j true || match ops[j]? with
    | some o => o.after.any (fun e => Region.binds md e && e.on == i)
    | none => true
theorem waits_out {i j : Nat} {o : Oper} {l : Array Bool} (h : waits md ops late l i = true) (hj : ops[j]? = some o) (hl : late j = true) (hu : l.getD j true = false) : ∃ e ∈ o.after, Region.binds md e = true ∧ e.on = i := by
  have hlt : j < ops.size := (Array.getElem?_eq_some_iff.1 hj).1
  have h1 := List.all_eq_true.1 h j (List.mem_range.2 hlt)
  simp only [hl, hj, hu, Bool.not_true, Bool.false_or] at h1
  obtain ⟨e, he, hb⟩ := Array.any_eq_true'.1 h1
  simp only [Bool.and_eq_true, beq_iff_eq] at hb
  exact ⟨e, he, hb.1, hb.2⟩
theorem AnyT.step_first {U : World → Prop} {i : Nat} {oi : Oper} {v : Value} (hi : ops[i]? = some oi) (hs : Region.noSelect ops = true) (hQ : ∀ c a w, Q (.panic c) (a.put oi.dst v) w → Q (.panic c) a w)
    (hU : ∀ w', (late i = false → T w') → U w') :
    ∀ (n : Nat) (l : Array Bool) (a : Act) (w : World),
      (∀ j oj, ops[j]? = some oj → j ≠ i → l.getD j true = false → (∀ e ∈ oj.after, Region.binds md e = true → e.on ≠ i) → oi.apart ops oj = true ∧ (late j = false ∨ late i = true)) →
      i ∈ Region.ready md ops l → YieldsIf P ops U oi v a → (late i = false → T w) → AnyT P md ops Q T late n (l.setIfInBounds i true) (a.put oi.dst v) w → AnyT P md ops Q T late (n + 1) l a w := by
  have sel := Region.noSelect_spec hs
  -- the case that operation i itself comes up
  have self : ∀ (n : Nat) (l : Array Bool) (a : Act) (w : World), YieldsIf P ops U oi v a → (late i = false → T w) → AnyT P md ops Q T late n (l.setIfInBounds i true) (a.put oi.dst v) w →
      wpOp P ops Q i (fun a' w' => (late i = false → T w') ∧ AnyT P md ops Q T late n (l.setIfInBounds i true) a' w') a w :=
    fun n l a w hy hT H => hy.wpOp hi (hU _ hT) ⟨hT, H⟩
  intro n
  induction n with
  | zero =>
    intro l a w _ hr hy hT H
    constructor
    · intro h0; rw [h0] at hr; cases hr
    · intro j hj
      rcases Nat.decEq j i with e | e
      · exact absurd (ready_mono hj e) (by rw [H.1]; simp)
      · subst e; exact self _ l a w hy hT H
  | succ n ih =>
    intro l a w hf hr hy hT H
    constructor
    · intro h0; rw [h0] at hr; cases hr
    · intro j hj
      rcases Nat.decEq j i with e | e
      · obtain ⟨un, oj, ho, hall⟩ := mem_ready.1 hj
        have hn : ∀ b ∈ oj.after, Region.binds md b = true → b.on ≠ i := by
          intro b hb hbb heq
          have k1 := hall b hb hbb
          have k0 := (mem_ready.1 hr).1
          rw [heq] at k1
          rcases Nat.lt_or_ge i l.size with hlt | hge
          · simp [hlt] at k0 k1; rw [k0] at k1; cases k1
          · simp [Array.getElem?_eq_none hge] at k1
        have hfj := hf j oj ho e un hn
        have k := wpOp_putIf ho hfj.1 (fun cs b => sel i oi cs b hi) (fun cs b => sel j oj cs b ho) hQ hy (H.2 j (ready_mono hj e))
        refine wpOp_mono (fun a' w' k' => ⟨k'.2.1, ?_⟩) k
        have hbi : late i = false → T w' := by
          intro h0
          rcases hfj.2 with hl | hl
          · exact k'.2.1 hl
          · rw [h0] at hl; cases hl
        refine ih _ a' w' ?_ (ready_mono hr fun h => e h.symm) k'.1 hbi ?_
        · intro m om hm hmi hun hno
          refine hf m om hm hmi ?_ hno
          rcases Nat.decEq j m with hjm | hjm
          · rw [getD_set_ne true hjm] at hun; exact hun
          · subst hjm; exact un
        · rw [Array.setIfInBounds_comm _ _ e]; exact k'.2.2
      · subst e; exact self _ l a w hy hT H
/-- A load, or what looks at no memory, is taken first. -/
theorem AnyT.take {i : Nat} {oi : Oper} {v : Value} {n : Nat} {l : Array Bool} {a : Act} {w : World} (hi : ops[i]? = some oi)
    (hs : Region.noSelect ops = true) (hf : Region.free md ops l i = true) (hr : (Region.ready md ops l).contains i = true) (hn : late i = false) (hw : waits md ops late l i = true)
    (hQ : ∀ c a w, Q (.panic c) (a.put oi.dst v) w → Q (.panic c) a w) (hy : YieldsIf P ops T oi v a) (hT : T w)
    (h : AnyT P md ops Q T late n (l.setIfInBounds i true) (a.put oi.dst v) w) : AnyT P md ops Q T late (n + 1) l a w := by
  refine AnyT.step_first (U := T) hi hs hQ (fun _ k => k hn) n l a w ?_ (by simpa using hr) hy (fun _ => hT) h
  intro j oj ho hne hun hno
  refine ⟨Region.free_spec hi hf j oj ho hne hun hno, ?_⟩
  cases hl : late j with
  | false => exact .inl rfl
  | true => obtain ⟨e, he, hb, hi'⟩ := waits_out hw ho hl hun; exact absurd hi' (hno e he hb)
/-- A late one that looks at no memory is taken first. -/
theorem AnyT.take0 {i : Nat} {oi : Oper} {v : Value} {n : Nat} {l : Array Bool} {a : Act} {w : World} (hi : ops[i]? = some oi)
    (hs : Region.noSelect ops = true) (hf : Region.free md ops l i = true) (hr : (Region.ready md ops l).contains i = true) (hn : late i = true)
    (hQ : ∀ c a w, Q (.panic c) (a.put oi.dst v) w → Q (.panic c) a w) (hy : Yields P ops oi v a)
    (h : AnyT P md ops Q T late n (l.setIfInBounds i true) (a.put oi.dst v) w) : AnyT P md ops Q T late (n + 1) l a w := by
  refine AnyT.step_first (U := fun _ => True) hi hs hQ (fun _ _ => trivial) n l a w ?_ (by simpa using hr) hy.yieldsIf (fun h0 => by rw [hn] at h0; cases h0) h
  intro j oj ho hne hun hno
  exact ⟨Region.free_spec hi hf j oj ho hne hun hno, .inr hn⟩
/-- One alone can come up. -/
theorem AnyT.one {i : Nat} {o : Oper} {n : Nat} {l : Array Bool} {a : Act} {w : World} (hr : Region.ready md ops l = [i]) (ho : ops[i]? = some o) (hw : Region.wanted o (yielded ops a.tmps) = true)
    (h : ∀ K : Act → World → Prop, Shut (∀ a' w', (late i = false → T w') → AnyT P md ops Q T late n (l.setIfInBounds i true) a' w' → K a' w') → Oper.wp P o a w K Q) : AnyT P md ops Q T late (n + 1) l a w := by
  constructor
  · intro h0; rw [hr] at h0; cases h0
  · intro j hj
    rw [hr] at hj
    obtain rfl : j = i := by simpa using hj
    unfold wpOp
    simp only [ho, hw, if_true]
    exact .inl (h _ fun a' w' k1 k2 => ⟨k1, k2⟩)
/-- From here on nothing is to be held. -/
theorem AnyT.done {l : Array Bool} {a : Act} {w : World} (hr : Region.ready md ops l = []) (h : Q .normal a w) : ∀ n, AnyT P md ops Q T late n l a w := by
  intro n
  cases n with
  | zero => exact ⟨hr, h⟩
  | succ n => exact ⟨fun _ => h, by rw [hr]; simp⟩
theorem AnyT.region {id : Nat} {a : Act} {w : World} (hm : P.follows .mixedOrders = true) (h : AnyT P .any ops Q T late ops.size (Array.replicate ops.size false) a w.drew) : (Code.region id ops true).wp P Q a w :=
  wp_region_any hm (AnyT.any _ _ _ _ h)
end Go.Proofs.YtbihoedcbmnccaaGreatDoor
