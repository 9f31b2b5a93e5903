/- decimal: long division of pieces. -/
import Derived.Test.YtbihoedcbmnccaaGreatDoorK3
namespace Go.Proofs.YtbihoedcbmnccaaGreatDoor
open Go.RowKit

theorem Ow.drewN {w : World} {B : Nat} {v : Value} {xs : List Nat} (h : Ow w B v xs) (n : Nat) : Ow (w.drewN n) B v xs := h
theorem vint {k : IntKind} {a b : Int} (h : a = b) : Value.int k a = Value.int k b := by rw [h]
theorem gdrewN {a b : World} {r : Option Nat} (h : a.grownBy b r) (n : Nat) : a.grownBy (b.drewN n) r := gtrans h (gOfB (below_drewN (Below.refl _ _) n) r)
theorem Rd.own {w : World} {B g cap : Nat} {xs : List Nat} (h : Ow w B (sv g xs.length cap) xs) : Rd w g 0 xs := h.rd

/-- The divisor, times the factor, has as many pieces as before; the factor's bounds. -/
theorem factor_ok {ys : List Nat} (hy : Lim base ys) (ty : Trimmed ys) (hn : 0 < ys.length) : 0 < base / (ys.getD (ys.length - 1) 0 + 1) ∧ base / (ys.getD (ys.length - 1) 0 + 1) < base ∧ val base ys * (base / (ys.getD (ys.length - 1) 0 + 1)) < base ^ ys.length := by
  have h0 := trimmed_getD ty hn
  have h1 := hy.get base_pos (ys.length - 1)
  generalize hu : ys.getD (ys.length - 1) 0 = u at *
  have hf := Nat.div_mul_le_self base (u + 1)
  refine ⟨Nat.div_pos (by omega) (by omega), Nat.div_lt_self base_pos (by omega), ?_⟩
  have e := val_take_drop base ys (ys.length - 1) (by omega)
  rw [val_drop_succ _ _ _ (show ys.length - 1 < ys.length by omega), List.drop_eq_nil_of_le (by omega), val_nil, Nat.mul_zero, Nat.add_zero, hu] at e
  have h2 := val_lt (hy.take (ys.length - 1))
  rw [List.length_take, Nat.min_eq_left (by omega)] at h2
  have h3 : val base ys < base ^ (ys.length - 1) * (u + 1) := by rw [Nat.mul_add, Nat.mul_one]; omega
  have hp : 0 < base / (u + 1) := Nat.div_pos (by omega) (by omega)
  have h4 : val base ys * (base / (u + 1)) < base ^ (ys.length - 1) * (u + 1) * (base / (u + 1)) := Nat.mul_lt_mul_of_pos_right h3 hp
  have h5 : base ^ (ys.length - 1) * (u + 1) * (base / (u + 1)) ≤ base ^ (ys.length - 1) * base := by
    rw [Nat.mul_assoc, Nat.mul_comm (u + 1)]; exact Nat.mul_le_mul_left _ hf
  have h6 : base ^ ys.length = base ^ (ys.length - 1) * base := by rw [← Nat.pow_succ]; congr 1; omega
  omega

theorem top_zero {l : List Nat} (hl : Lim base l) (h0 : 0 < l.length) (hz : l.getD (l.length - 1) 0 = 0) : val base l < base ^ (l.length - 1) := by
  have e := val_take_succ base l (l.length - 1) (by omega)
  rw [show l.length - 1 + 1 = l.length by omega, List.take_of_length_le (Nat.le_refl _), hz, Nat.mul_zero, Nat.add_zero] at e
  rw [e]
  have := val_lt (hl.take (l.length - 1))
  rwa [List.length_take, Nat.min_eq_left (by omega)] at this
theorem div_start {zs bs : List Nat} {M : Nat} (hz : Lim base zs) (h0 : zs.getD (zs.length - 1) 0 = 0) (tb : Trimmed bs) (hb : 0 < bs.length) (hM : zs.length = M + bs.length) : DivInv (val base zs) bs M zs (List.replicate M 0) := by
  refine ⟨hz, Lim.zeros base_pos _, ?_, ?_, by simp⟩
  · rw [List.drop_eq_nil_of_le (by simp), val_nil]; simp
  · have h1 := top_zero (hz.drop M) (by rw [List.length_drop]; omega) (by
      rw [List.length_drop, List.getD_eq_getElem?_getD, List.getElem?_drop, ← List.getD_eq_getElem?_getD, show M + (zs.length - M - 1) = zs.length - 1 by omega]; exact h0)
    rw [List.length_drop, show zs.length - M - 1 = bs.length - 1 by omega] at h1
    exact Nat.lt_of_lt_of_le h1 (tb.ge base_pos (by intro e; subst e; simp at hb))
/-- What is known of the guess: the true digit is no greater, and what is left fits. -/
structure Guess (A b high v1 : Nat) (g r : Nat) : Prop where
  eq : g * v1 + r = high
  ge : A / b ≤ g
theorem Guess.step {A b high v1 g r : Nat} (h : Guess A b high v1 g r) (hlt : A / b < g) : Guess A b high v1 (g - 1) (r + v1) := by
  obtain ⟨k, rfl⟩ : ∃ k, g = k + 1 := ⟨g - 1, (Nat.succ_pred_eq_of_pos (Nat.lt_of_le_of_lt (Nat.zero_le _) hlt)).symm⟩
  refine ⟨?_, by rw [Nat.add_sub_cancel]; exact Nat.le_of_lt_succ hlt⟩
  have := h.eq
  clear hlt
  rw [Nat.add_mul, Nat.one_mul] at this
  rw [Nat.add_sub_cancel]; omega
theorem Guess.bound {A b high v1 g r : Nat} (h : Guess A b high v1 g r) (h0 : 0 < g) : r + v1 ≤ high := by
  obtain ⟨k, rfl⟩ : ∃ k, g = k + 1 := ⟨g - 1, by omega⟩
  have := h.eq
  rw [Nat.add_mul, Nat.one_mul] at this
  omega
/-- The step without, and with, adding back. -/
theorem step_plain {A bv g Wz P : Nat} (h : Wz + g * bv = A + P * 0) (hg : g = A / bv) (hb : 0 < bv) : Wz + g * bv = A ∧ Wz < bv := by
  rw [Nat.mul_zero, Nat.add_zero] at h
  refine ⟨h, ?_⟩
  have h1 := Nat.div_add_mod A bv
  have h2 := Nat.mod_lt A hb
  rw [← hg, Nat.mul_comm] at h1
  omega
theorem step_back {A bv g Wz Wz3 P c : Nat} (h : Wz + g * bv = A + P * 1) (hW : Wz < P) (hle : g * bv ≤ A + bv) (hb : 0 < bv) (h3 : Wz3 + P * c = Wz + bv) (hW3 : Wz3 < P) (hc : c ≤ 1) : ∃ q, g = q + 1 ∧ Wz3 + q * bv = A ∧ Wz3 < bv := by
  rw [Nat.mul_one] at h
  have hg : A / bv < g := (Nat.div_lt_iff_lt_mul hb).2 (by omega)
  obtain ⟨q, rfl⟩ : ∃ q, g = q + 1 := ⟨g - 1, (Nat.succ_pred_eq_of_pos (Nat.lt_of_le_of_lt (Nat.zero_le _) hg)).symm⟩
  refine ⟨q, rfl, ?_⟩
  rw [Nat.add_mul, Nat.one_mul] at h hle
  have hq : q = A / bv := Nat.le_antisymm ((Nat.le_div_iff_mul_le hb).2 (by omega)) (Nat.le_of_lt_succ hg)
  have h1 := Nat.div_add_mod A bv
  have h2 := Nat.mod_lt A hb
  rw [← hq, Nat.mul_comm] at h1
  clear hg hq
  rcases Nat.eq_zero_or_pos c with h0 | h0
  · subst h0; rw [Nat.mul_zero] at h3; omega
  · obtain rfl : c = 1 := by omega
    rw [Nat.mul_one] at h3; omega
theorem div_final {x y f Q W R r : Nat} (h1 : x * f = y * f * (1 * Q) + W) (h2 : W < y * f) (h3 : R * f + r = W) (h4 : r < f) : Q = x / y ∧ R = x % y := by
  rw [Nat.one_mul] at h1
  have hf : 0 < f := by omega
  have e : y * f * Q = y * Q * f := by rw [Nat.mul_assoc, Nat.mul_comm f, Nat.mul_assoc]
  rw [e, ← h3, ← Nat.add_assoc, ← Nat.add_mul] at h1
  have hx : x = y * Q + R := by
    rcases Nat.lt_trichotomy x (y * Q + R) with c | c | c
    · have : (x + 1) * f ≤ (y * Q + R) * f := Nat.mul_le_mul_right _ c
      rw [Nat.add_mul] at this; omega
    · exact c
    · have : (y * Q + R + 1) * f ≤ x * f := Nat.mul_le_mul_right _ c
      rw [Nat.add_mul _ 1] at this; omega
  have hR : R < y := Nat.lt_of_mul_lt_mul_right (a := f) (by omega)
  have := (Nat.div_mod_unique (a := x) (b := y) (d := Q) (c := R) (by omega)).2 ⟨by rw [hx, Nat.add_comm], hR⟩
  exact ⟨this.1.symm, this.2.symm⟩
theorem digit_lt {ws : List Nat} {k b : Nat} (hl : Lim base ws) (hk : k < ws.length) (h : val base (ws.drop (k + 1)) < b) : val base (ws.drop k) / b < base := by
  rw [val_drop_succ _ _ _ hk]
  have h1 := hl.get base_pos k
  apply Nat.div_lt_of_lt_mul
  have h2 : base * (val base (ws.drop (k + 1)) + 1) ≤ base * b := Nat.mul_le_mul_left _ h
  rw [Nat.mul_add] at h2
  rw [Nat.mul_comm b base]; omega
set_option maxHeartbeats 3200000 in
set_option maxRecDepth 100000 in
theorem divide_any (gp op capp gq oq capq : Nat) (xs ys : List Nat) (w : World) (hx : Lim base xs) (hy : Lim base ys) (ty : Trimmed ys) (hp : Rd w gp op xs) (hq : Rd w gq oq ys)
    (hn2 : 2 ≤ ys.length) (hyx : ys.length ≤ xs.length) (hs1 : xs.length ≤ 1000000) :
    Calls Tryz.prog 204 #[.slice (some ⟨gp, op, none⟩) xs.length capp, .slice (some ⟨gq, oq, none⟩) ys.length capq] w fun e w' =>
      ∃ g1 cap1 zs g2 cap2 rs, e = .returned (.tuple #[sv g1 zs.length cap1, sv g2 rs.length cap2]) ∧ Ow w' w.heap.size (sv g1 zs.length cap1) zs ∧ Ow w' w.heap.size (sv g2 rs.length cap2) rs ∧ Lim base zs ∧ Trimmed zs ∧ Lim base rs ∧ Trimmed rs ∧
        val base zs = val base xs / val base ys ∧ val base rs = val base xs % val base ys ∧ Below w.heap.size w w' := by
  obtain ⟨i0, hi, hz0, hz1, hz2⟩ := info_parts info_u64
  obtain ⟨hf0, hf1, hf2⟩ := factor_ok hy ty (by omega)
  have hct := hq.2 (ys.length - 1) (by omega)
  have hut := hy.get base_pos (ys.length - 1)
  obtain ⟨u, hu⟩ : ∃ u, ys.getD (ys.length - 1) 0 = u := ⟨_, rfl⟩
  rw [hu] at hct hut hf0 hf1 hf2
  obtain ⟨f, hf⟩ : ∃ f, base / (u + 1) = f := ⟨_, rfl⟩
  have hfi : (1000000000 : Int) / ((u : Int) + 1) = (f : Int) := by rw [← hf, base_eq, Int.natCast_ediv]; rfl
  rw [hf] at hf0 hf1 hf2
  have hutb : u < 1000000000 := hut
  have HF := Lib.hid hf
  have HU := Lib.hid hu
  clear hf hu hut
  have HFI := Lib.hid hfi
  clear hfi
  have H1 := Lib.hid hf1
  have H2 := Lib.hid hf2
  clear hf1 hf2
  go_enter Tryz.func204, Tryz.ntmps204
  go_wp2_with fail
  rw [HFI.out]
  refine (scaled_any gp op capp xs f w hx hf0 H1.out hp (by omega)).mono ?_
  rintro e w1 ⟨ga, capa, as0, rfl, hoa, la, ta, va, hb1⟩
  have hB1 := hb1.size
  have HOA := Lib.hid hoa
  have hgar := hoa.capb.2.2.2
  have HB1 := Lib.hid hb1
  have HVA := Lib.hid (And.intro la va)
  have halen : as0.length ≤ xs.length + 1 := len_of_lt (b := base) (by decide) ta (by
    rw [va, Nat.pow_succ]; exact Nat.mul_lt_mul'' (val_lt hx) H1.out)
  clear hoa hb1 la va ta
  go_wp2_with (at_builtin; refine wpList_append_own_at _ rfl _ _ 153 rfl w.heap.size 151 i0 (.int .u64 0) 1 8 Tryz.underlying153 hi hz0 hz1 hz2 rfl (by omega) (sv ga as0.length capa) as0.length (u64s as0) rfl (HOA.out.alloc _) ⟨w1.heap.size, 0, none⟩ 1 1 [.int .u64 0] rfl rfl (news1 _ _ _) (one1 _ _) (by unfold maxLen; omega) (by omega) (by simp; omega) ?_; intro v2 w2 hown2 hg2 hn2' hat2)
  have hO2 : Ow w2 w.heap.size v2 (as0 ++ [0]) := by unfold Ow; rw [List.length_append, u64s_append]; exact hown2
  clear hown2 hn2'
  obtain ⟨g2, cap2, rfl⟩ := own_shape hO2 (by simp)
  have HB2 := Lib.hid (belowG (HB1.out.trans (((Below.refl _ _).alloc (Nat.le_refl _) (.cells #[.int .u64 0] 151)).mono HB1.out.size)) hg2 (Nat.le_trans HB1.out.size (by simp)) (fun g hg => by simp [Value.ownBlock] at hg; omega))
  have H2' := Lib.hid hO2
  have hg2r : w.heap.size ≤ g2 ∧ g2 < w2.heap.size := hO2.capb.2.2.2
  clear hO2 hat2 hg2
  rw [List.length_append, List.length_singleton] at *
  refine (scaled_any gq oq capq ys f w2 hy hf0 H1.out (hq.grown (gOfB HB2.out none) (by simp)) (by omega)).mono ?_
  rintro e w3 ⟨gb, capb, bs, rfl, hob, lb, tb, vb, hb3⟩
  have hbl : bs.length = ys.length := Nat.le_antisymm (len_of_lt (b := base) (by decide) tb (by rw [vb]; exact H2.out)) (trimmed_length (by decide) lb ty hy (by rw [vb]; exact Nat.le_mul_of_pos_right _ hf0))
  have hgbr := hob.capb.2.2.2
  have HOB := Lib.hid (hob.mono HB2.out.size)
  have HB3 := Lib.hid (bT HB2.out hb3)
  have H3 : Hid (Ow w3 w.heap.size (sv g2 (as0 ++ [0]).length cap2) (as0 ++ [0])) := by
    have h1 := H2'.out
    rw [show as0.length + 1 = (as0 ++ [0]).length by simp] at h1
    exact h1.below hb3
  have HVB := Lib.hid (And.intro lb (And.intro tb vb))
  have HBL := Lib.hid hbl
  have hbn : 2 ≤ bs.length := by omega
  have hbn2 : bs.length ≤ xs.length := by omega
  clear hob lb tb vb hb3 H2' hbl
  go_wp2_with fail
  go_loopw [7] (fun a wr => ∃ (g cap : Nat) (zs : List Nat), a = sv g zs.length cap ∧ zs.length ≤ xs.length + 2 ∧ 0 < zs.length ∧ Hid (Lim base zs ∧ val base zs = val base xs * f ∧ zs.getD (zs.length - 1) 0 = 0) ∧ Hid (Ow wr w.heap.size (sv g zs.length cap) zs) ∧ Hid (Ow wr w.heap.size (sv gb bs.length capb) bs) ∧ g ≠ gb ∧ Below w.heap.size w wr) (fun a _ => xs.length + 1 - (match a with | .slice _ n _ => n | _ => 0))
  case atStart =>
    refine ⟨g2, cap2, as0 ++ [0], ?_, ?_, by simp, ⟨(HVA.out.1).append (Lim.one base_pos), ?_, ?_⟩, H3.out, HOB.out, by omega, HB3.out⟩
    · rw [List.length_append]; rfl
    · rw [List.length_append, List.length_singleton]; omega
    · rw [val_append, val_one, Nat.mul_zero, Nat.add_zero]; exact HVA.out.2
    · rw [List.length_append, List.length_singleton, Nat.add_sub_cancel, List.getD_eq_getElem?_getD, List.getElem?_append_right (Nat.le_refl _)]; simp
  case round =>
    clear HB3 H3 HOB HB2 HB1 HOA hq hp hct
    obtain ⟨g, cap, zs, rfl, hzl, hz0', HZ, HOZ, HOBB, hgb, hb⟩ := hrel
    rename World => w4
    by_cases hle : zs.length ≤ xs.length
    · have hB4 := hb.size
      have hgr := HOZ.out.capb.2.2.2
      have hbr := HOBB.out.capb.2.2.2
      go_wp2_with (at_builtin; refine wpList_append_own_at _ rfl _ _ 153 rfl w.heap.size 151 i0 (.int .u64 0) 1 8 Tryz.underlying153 hi hz0 hz1 hz2 rfl (by omega) (sv g zs.length cap) zs.length (u64s zs) rfl (HOZ.out.alloc _) ⟨w4.heap.size, 0, none⟩ 1 1 [.int .u64 0] rfl rfl (news1 _ _ _) (one1 _ _) (by unfold maxLen; omega) (by omega) (by simp; omega) ?_; intro v5 w5 hown5 hg5 hn5 hat5)
      have hO5 : Ow w5 w.heap.size v5 (zs ++ [0]) := by unfold Ow; rw [List.length_append, u64s_append]; exact hown5
      clear hown5 hn5
      obtain ⟨g5, cap5, rfl⟩ := own_shape hO5 (by simp)
      have hB5 := belowG (hb.trans (((Below.refl _ _).alloc (Nat.le_refl _) (.cells #[.int .u64 0] 151)).mono hb.size)) hg5 (Nat.le_trans hb.size (by simp)) (fun g hg => by simp [Value.ownBlock] at hg; omega)
      have hg5b : g5 ≠ gb := by
        rcases hat5 with e | e
        · simp [Value.ownBlock] at e; omega
        · simp [Value.ownBlock] at e; omega
      have HBB5 : Hid (Ow w5 w.heap.size (sv gb bs.length capb) bs) := (World.ownsRow.alloc HOBB.out (.cells #[.int .u64 0] 151)).kept hg5 (by simp [Value.ownBlock]; omega)
      have H5 := Lib.hid hO5
      have HB5 := Lib.hid hB5
      clear hO5 hat5 hg5 hB5
      go_wp2
      go_roundw
      case rel =>
        refine ⟨g5, cap5, zs ++ [0], rfl, ?_, by simp, ⟨(HZ.out.1).append (Lim.one base_pos), ?_, ?_⟩, H5.out, HBB5, hg5b, HB5.out⟩
        · rw [List.length_append, List.length_singleton]; omega
        · rw [val_append, val_one, Nat.mul_zero, Nat.add_zero]; exact HZ.out.2.1
        · rw [List.length_append, List.length_singleton, Nat.add_sub_cancel, List.getD_eq_getElem?_getD, List.getElem?_append_right (Nat.le_refl _)]; simp
      case measure => simp; omega
    · have hlo : bs.length < zs.length := by omega
      obtain ⟨M, hM⟩ : ∃ M : Nat, (zs.length : Int) - (bs.length : Int) = (M : Int) := ⟨zs.length - bs.length, by omega⟩
      have HM := Lib.hid hM
      clear hM
      have hMl : M ≤ xs.length + 2 := by have := HM.out; omega
      have hB4 := hb.size
      go_wp2_with (at_make; refine wpList_make_full _ rfl _ _ 153 rfl w.heap.size 151 i0 (.int .u64 0) 1 Tryz.underlying153 hi hz0 hz1 .i64 .i64 _ _ M rfl rfl HM.out HM.out (by rw [hz2]; omega) (by unfold maxLen; omega) hB4 ?_; intro w5 hown5 hg5)
      rw [made_u64] at hown5
      have hgr := HOZ.out.capb.2.2.2
      have hbr := HOBB.out.capb.2.2.2
      have HOS : Hid (Ow w5 w.heap.size (sv w4.heap.size (List.replicate M 0).length M) (List.replicate M 0)) := by
        show Ow _ _ _ _; unfold Ow sv; rw [List.length_replicate]
        exact (World.ownsRow.kept (row := none) (by exact hown5) (World.grownBy.refl _ _) (by simp [Value.ownBlock]))
      have HZ5 : Hid (Ow w5 w.heap.size (sv g zs.length cap) zs) := HOZ.out.below (bOfG hg5)
      have HBB5 : Hid (Ow w5 w.heap.size (sv gb bs.length capb) bs) := HOBB.out.below (bOfG hg5)
      have HB5 := Lib.hid (bT hb (bOfG hg5))
      clear hown5 hg5 HOZ HOBB hb
      obtain ⟨go, hgo⟩ : ∃ x, x = w4.heap.size := ⟨_, rfl⟩
      rw [← hgo] at HOS ⊢
      have hgog : g ≠ go := by omega
      have hgob : gb ≠ go := by omega
      have hgor : w.heap.size ≤ go := by omega
      have hgr1 := hgr.1
      have hbr1 := hbr.1
      clear hgr hbr hgo hB4 hB1 hgar hg2r hgbr
      have hML : zs.length = M + bs.length := by have := HM.out; omega
      have HMM := Lib.hid hML
      clear hML
      go_loopw [11] (fun i wr => ∃ (m : Nat) (ws os : List Nat), i = .int .i64 ((m : Int) - 1) ∧ m ≤ M ∧ Hid (DivInv (val base zs) bs m ws os) ∧ Hid (ws.length = zs.length ∧ os.length = M) ∧ Hid (Ow wr w.heap.size (sv g ws.length cap) ws) ∧ Hid (Ow wr w.heap.size (sv go os.length M) os) ∧ Hid (Ow wr w.heap.size (sv gb bs.length capb) bs) ∧ Below w.heap.size w wr) (fun i _ => (intOf i + 1).toNat)
      case atStart =>
        refine ⟨M, zs, List.replicate M 0, ?_, Nat.le_refl _, div_start HZ.out.1 HZ.out.2.2 HVB.out.2.1 (by omega) HMM.out, ⟨rfl, by simp⟩, HZ5.out, HOS.out, HBB5.out, HB5.out⟩
        congr 1; have := HM.out; omega
      case round =>
        clear HB5 HBB5 HOS HZ5
        obtain ⟨m, ws, os, rfl, hm, HI, HL, HOW, HOO, HOB2, hb⟩ := hrel
        rename World => w6
        cases m with
        | zero =>
          rw [show ((0 : Nat) : Int) - 1 = -1 from rfl]
          have htr := trim_any _ _ _ _ _ HOW.out
          rw [HL.out.1] at htr
          go_wp2_with fail
          refine htr.mono ?_
          rintro e w7 ⟨n', hn', rfl, ht, hv, rfl⟩
          have hpre := HOW.out.pre (n := n') (by rw [HL.out.1]; exact hn')
          have hmin : (ws.take n').length = n' := by rw [List.length_take, HL.out.1]; omega
          have hsm := small_any g 0 cap (ws.take n') f w7 (HI.out.lima.take _) hf0 (Nat.le_of_lt H1.out) hpre.rd (by omega)
          rw [hmin, hv] at hsm
          clear hmin hv
          go_wp2_with fail
          refine hsm.mono ?_
          rintro e w8 ⟨g8, cap8, rs, r, rfl, ho8, lr, tr, hsum, hrf, hb8⟩
          have htr2 := trim_any _ _ _ _ _ (HOO.out.below hb8)
          rw [HL.out.2] at htr2
          have HR := Lib.hid (And.intro lr (And.intro tr (And.intro hsum hrf)))
          have HO8 := Lib.hid (ho8.mono hb.size)
          have HB8 := Lib.hid (bT hb hb8)
          have HOO8 := Lib.hid (HOO.out.below hb8)
          clear lr tr hsum hrf ho8 hb8 hpre
          go_wp2_with fail
          refine htr2.mono ?_
          rintro e w9 ⟨n2, hn2, rfl, ht2, hv2, rfl⟩
          have hle2 : n2 ≤ os.length := by rw [HL.out.2]; exact hn2
          have hpre2 := HOO8.out.pre (n := n2) hle2
          have hmin2 : (os.take n2).length = n2 := by rw [List.length_take, Nat.min_eq_left hle2]
          go_wp2
          go_ret2
          obtain ⟨f1, f2⟩ := div_final (x := val base xs) (y := val base ys) (f := f) (Q := val base os) (W := val base ws) (R := val base rs) (r := r) (by
            have := HI.out.sum
            rw [HZ.out.2.1, HVB.out.2.2, List.drop_zero, Nat.pow_zero] at this; exact this) (by
            have := HI.out.rest
            rw [HVB.out.2.2, List.drop_zero] at this; exact this) HR.out.2.2.1 HR.out.2.2.2
          refine ⟨go, M, os.take n2, g8, cap8, rs, ?_, hpre2, HO8.out, HI.out.limo.take _, ht2, HR.out.1, HR.out.2.1, by rw [hv2]; exact f1, f2, HB8.out⟩
          rw [hmin2]; rfl
        | succ k =>
          rw [show ((k + 1 : Nat) : Int) - 1 = (k : Int) by omega]
          have hwl : k + bs.length < ws.length := by rw [HL.out.1, HMM.out]; omega
          have hol : k < os.length := by rw [HL.out.2]; omega
          have hzl1 : (k : Int) + (bs.length : Int) < (zs.length : Int) := by rw [HL.out.1] at hwl; omega
          have hbn3 : (2 : Int) ≤ (bs.length : Int) := by omega
          obtain ⟨nn, hnn⟩ : ∃ nn, bs.length = nn + 2 := ⟨bs.length - 2, by omega⟩
          have hzero := high_zero HVB.out.1 HI.out.rest (by omega)
          have hs2 := split2 (b := base) bs nn hnn.symm
          have hs3 := split3 (b := base) ws k nn (by omega) (by rw [show k + nn + 3 = k + bs.length + 1 by omega]; exact hzero)
          have hc1 := HOW.out.cell (k + bs.length) hwl
          have hc2 := HOW.out.cell (k + bs.length - 1) (by omega)
          have hc3 := HOW.out.cell (k + bs.length - 2) (by omega)
          have hd1 := HOB2.out.cell (bs.length - 1) (by omega)
          have hd2 := HOB2.out.cell (bs.length - 2) (by omega)
          rw [show k + bs.length = k + nn + 2 by omega] at hc1
          rw [show k + bs.length - 1 = k + nn + 1 by omega] at hc2
          rw [show k + bs.length - 2 = k + nn by omega] at hc3
          rw [show bs.length - 1 = nn + 1 by omega] at hd1
          rw [show bs.length - 2 = nn by omega] at hd2
          have l1 := HI.out.lima.get base_pos (k + nn + 2)
          have l2 := HI.out.lima.get base_pos (k + nn + 1)
          have l3 := HI.out.lima.get base_pos (k + nn)
          have m1 := HVB.out.1.get base_pos (nn + 1)
          have m2 := HVB.out.1.get base_pos nn
          have m0 := trimmed_getD HVB.out.2.1 (by omega)
          rw [show bs.length - 1 = nn + 1 by omega] at m0
          obtain ⟨a1, ha1⟩ : ∃ x, ws.getD (k + nn + 2) 0 = x := ⟨_, rfl⟩
          obtain ⟨a0, ha0⟩ : ∃ x, ws.getD (k + nn + 1) 0 = x := ⟨_, rfl⟩
          obtain ⟨a2, ha2⟩ : ∃ x, ws.getD (k + nn) 0 = x := ⟨_, rfl⟩
          obtain ⟨v1, hv1⟩ : ∃ x, bs.getD (nn + 1) 0 = x := ⟨_, rfl⟩
          obtain ⟨v2, hv2⟩ : ∃ x, bs.getD nn 0 = x := ⟨_, rfl⟩
          rw [ha1] at hc1 l1 hs3
          rw [ha0] at hc2 l2 hs3
          rw [ha2] at hc3 l3 hs3
          rw [hv1] at hd1 m1 m0 hs2
          rw [hv2] at hd2 m2 hs2
          rw [← show k + bs.length = k + nn + 2 by omega] at hc1
          rw [← show k + bs.length - 1 = k + nn + 1 by omega] at hc2
          rw [← show k + bs.length - 2 = k + nn by omega] at hc3
          rw [← show bs.length - 1 = nn + 1 by omega] at hd1
          rw [← show bs.length - 2 = nn by omega] at hd2
          have HS2 := Lib.hid hs2
          have HS3 := Lib.hid hs3
          have HNN := Lib.hid hnn
          have HZR := Lib.hid hzero
          clear hs2 hs3 hnn hzero ha1 ha0 ha2 hv1 hv2
          rw [base_eq] at l1 l2 l3 m1 m2
          have hv1p : 0 < v1 := by omega
          clear m0
          go_wp2
          go_quiet (fail)
          go_wp2
          go_quiet (fail)
          go_wp2
          obtain ⟨A, hA⟩ : ∃ A, A = val base (ws.drop k) := ⟨_, rfl⟩
          obtain ⟨bv, hbv⟩ : ∃ b, b = val base bs := ⟨_, rfl⟩
          have hQ : A / bv < base := by rw [hA, hbv]; exact digit_lt HI.out.lima (by omega) HI.out.rest
          have hQb : A / bv * bv ≤ A := Nat.div_mul_le_self A bv
          have hsA := HS3.out
          have hsB := HS2.out
          rw [← hA] at hsA
          rw [← hbv] at hsB
          have hP1 : val base ((ws.drop k).take nn) < base ^ nn := by
            have := val_lt ((HI.out.lima.drop k).take nn)
            rwa [List.length_take, List.length_drop, Nat.min_eq_left (by have := HNN.out; omega)] at this
          have hP2 : val base (bs.take nn) < base ^ nn := by
            have := val_lt (HVB.out.1.take nn)
            rwa [List.length_take, Nat.min_eq_left (by have := HNN.out; omega)] at this
          have hgs : Guess A bv (a1 * base + a0) v1 ((a1 * base + a0) / v1) ((a1 * base + a0) % v1) :=
            ⟨by rw [Nat.mul_comm]; exact Nat.div_add_mod _ _, (Nat.le_div_iff_mul_le hv1p).2 (guess_ge hsB hsA hP1 (by rw [base_eq]; exact l3) hQb)⟩
          have hh1 : a1 * base + a0 < 1000000000000000000 := by rw [base_eq]; omega
          have HGS := Lib.hid hgs
          have HQ := Lib.hid (And.intro hQ hQb)
          have HSA := Lib.hid hsA
          have HSB := Lib.hid hsB
          have HP := Lib.hid (And.intro hP1 hP2)
          have HAA := Lib.hid (And.intro hA hbv)
          clear hgs hQ hQb hsA hsB hP1 hP2 hA hbv
          have e1 : ((a1 : Int) * 1000000000 + (a0 : Int)) / (v1 : Int) = (((a1 * base + a0) / v1 : Nat) : Int) := by
            rw [Int.natCast_ediv, Int.natCast_add, Int.natCast_mul, base_eq]; rfl
          have e2 : ((a1 : Int) * 1000000000 + (a0 : Int)) % (v1 : Int) = (((a1 * base + a0) % v1 : Nat) : Int) := by
            rw [Int.natCast_emod, Int.natCast_add, Int.natCast_mul, base_eq]; rfl
          have b1 : (a1 * base + a0) / v1 ≤ a1 * base + a0 := Nat.div_le_self _ _
          have b2 : (a1 * base + a0) % v1 < v1 := Nat.mod_lt _ hv1p
          have HE := Lib.hid (And.intro e1 e2)
          clear e1 e2
          obtain ⟨high, hhigh⟩ : ∃ h, h = a1 * base + a0 := ⟨_, rfl⟩
          rw [← hhigh] at hh1 b1 b2 HGS HE
          have HHI := Lib.hid hhigh
          clear hhigh
          go_loopw [13, 14] (fun g r wr => ∃ (gq rq qq : Nat), g = .int .u64 (gq : Int) ∧ r = .int .u64 (rq : Int) ∧ gq ≤ 1000000000000000000 ∧ rq ≤ 1000000000000000000 ∧ wr = w6.drewN qq ∧ Hid (Guess A bv high v1 gq rq)) (fun g _ _ => (intOf g).toNat)
          case atStart =>
            refine ⟨high / v1, high % v1, _, ?_, ?_, by omega, by omega, World.drewN_drewN .., HGS.out⟩
            · congr 1; exact HE.out.1
            · congr 1; exact HE.out.2
          case round =>
            clear HGS b1 b2
            obtain ⟨gq, rq, qq, rfl, rfl, hgq, hrq, rfl, HG⟩ := hrel
            have hhh := hh1
            by_cases hA1 : 1000000000 ≤ gq
            · have d1 : decide (1000000000 ≤ (gq : Int)) = true := decide_eq_true (by omega)
              have HGT := Lib.hid (show A / bv < gq from Nat.lt_of_lt_of_le HQ.out.1 (by rw [base_eq]; exact hA1))
              have hgq0 : 0 < gq := by omega
              go_wp2_with fail
              go_quiet (fail)
              go_wp2_with fail
              go_roundw
              case rel =>
                have hb2 := HG.out.bound hgq0
                refine ⟨gq - 1, rq + v1, _, ?_, ?_, by omega, by omega, rfl, HG.out.step HGT.out⟩
                · exact vint (by omega)
                · exact vint (by omega)
              case measure => simp [intOf]; omega
            · have d1 : decide (1000000000 ≤ (gq : Int)) = false := decide_eq_false (by omega)
              have hm0 : 0 ≤ (gq : Int) * (v2 : Int) := by rw [← Int.natCast_mul]; omega
              have hm1 : (gq : Int) * (v2 : Int) ≤ 1000000000000000000 := by
                have : gq * v2 ≤ 1000000000 * 1000000000 := Nat.mul_le_mul (by omega) (by omega)
                rw [← Int.natCast_mul]; omega
              have hnm : ((gq * v2 : Nat) : Int) = (gq : Int) * (v2 : Int) := Int.natCast_mul ..
              have HNM := Lib.hid hnm
              clear hnm
              by_cases hB1 : rq < 1000000000 ∧ rq * base + a2 < gq * v2
              · obtain ⟨hB2, hB3⟩ := hB1
                have d2 : decide ((rq : Int) < 1000000000) = true := decide_eq_true (by omega)
                have d3 : decide ((rq : Int) * 1000000000 + (a2 : Int) < (gq : Int) * (v2 : Int)) = true := decide_eq_true (by rw [← HNM.out]; rw [base_eq] at hB3; omega)
                have HGT := Lib.hid (guess_down HSB.out HSA.out HP.out.1 HQ.out.2 (by rw [← HHI.out]; exact HG.out.eq) HG.out.ge hB3)
                have hgq0 : 0 < gq := Nat.lt_of_le_of_lt (Nat.zero_le _) HGT.out
                clear hB3
                go_wp2_with fail
                go_quiet (fail)
                go_wp2_with fail
                go_roundw
                case rel =>
                  have hb2 := HG.out.bound hgq0
                  refine ⟨gq - 1, rq + v1, _, ?_, ?_, by omega, by omega, rfl, HG.out.step HGT.out⟩
                  · exact vint (by omega)
                  · exact vint (by omega)
                case measure => simp [intOf]; omega
              · have hfin : base ≤ rq ∨ gq * v2 ≤ rq * base + a2 := by
                  rcases Nat.lt_or_ge rq 1000000000 with h | h
                  · exact .inr (by rcases Nat.lt_or_ge (rq * base + a2) (gq * v2) with h' | h'
                                   · exact absurd ⟨h, h'⟩ hB1
                                   · exact h')
                  · exact .inl h
                have hgle := guess_le HSB.out HP.out.2 HSA.out (by rw [base_eq]; exact m2) hv1p (by rw [← HHI.out]; exact HG.out.eq) (by rw [base_eq]; omega) hfin
                have HGL := Lib.hid hgle
                clear hgle
                by_cases hB2 : rq < 1000000000
                · have d2 : decide ((rq : Int) < 1000000000) = true := decide_eq_true (by omega)
                  have d3 : decide ((rq : Int) * 1000000000 + (a2 : Int) < (gq : Int) * (v2 : Int)) = false := decide_eq_false (by
                    rw [← HNM.out]
                    have : ¬ (rq * base + a2 < gq * v2) := fun h => hB1 ⟨hB2, h⟩
                    rw [base_eq] at this; omega)
                  go_wp2_with fail
                  go_quiet (fail)
                  go_wp2_with fail
                  have htk := take_any w.heap.size g cap gb 0 capb ws bs gq k (w6.drewN (qq + nq)) HI.out.lima HVB.out.1 (by rw [base_eq]; omega) (HOW.out.drewN _) (Rd.own (HOB2.out.drewN _)) (Ne.symm hgb) hwl (by rw [HL.out.1]; omega)
                  rw [HL.out.1] at htk
                  refine htk.mono ?_
                  rintro e w8 ⟨zs2, bo, rfl, hT, hO8, hg8⟩
                  obtain ⟨t1, t2, t3, t4⟩ := take_window hT (by omega) HZR.out
                  have hzl2 : zs2.length = zs.length := by rw [hT.len]; exact HL.out.1
                  have hlim2 := hT.lim
                  have hbo := hT.borrow
                  have HOB8 : Hid (Ow w8 w.heap.size (sv gb bs.length capb) bs) := HOB2.out.kept (gtrans (gOfB (below_drewN (Below.refl _ _) (qq + nq)) _) hg8) (by simp [Value.ownBlock]; exact fun e => hgb e.symm)
                  have HOO8 : Hid (Ow w8 w.heap.size (sv go os.length M) os) := HOO.out.kept (gtrans (gOfB (below_drewN (Below.refl _ _) (qq + nq)) _) hg8) (by simp [Value.ownBlock]; exact fun e => hgog e.symm)
                  have HB8 := Lib.hid (belowG hb (gtrans (gOfB (below_drewN (Below.refl _ _) (qq + nq)) (some g)) hg8) hb.size (fun x hx => by cases hx; exact hgr1))
                  rw [← HAA.out.1, ← HAA.out.2] at t1
                  rw [← hzl2] at hO8
                  have HT := Lib.hid (And.intro t1 (And.intro t2 (And.intro t3 t4)))
                  have H8 := Lib.hid hO8
                  have HZ2 := Lib.hid (And.intro hzl2 hlim2)
                  have htl := hT.len
                  clear htk t1 t2 t3 t4 hzl2 hlim2 hO8 hg8 hT htl
                  rcases Nat.eq_zero_or_pos bo with h0 | h0
                  · subst h0
                    have hgq2 : gq = A / bv := by
                      have h1 := HT.out.1
                      rw [Nat.mul_zero, Nat.add_zero] at h1
                      have h2 : gq ≤ A / bv := (Nat.le_div_iff_mul_le (by rw [HAA.out.2]; exact HVB.out.2.1.pos base_pos (by intro e; subst e; simp at hbn))).2 (by omega)
                      exact Nat.le_antisymm h2 HG.out.ge
                    have HGQ := Lib.hid hgq2
                    clear hgq2
                    have hco := HOO8.out.cell k (by rw [HL.out.2]; omega)
                    have hfo := HOO8.out.fz k
                    go_wp2
                    go_roundw
                    case rel =>
                      obtain ⟨s1, s2⟩ := step_plain HT.out.1 HGQ.out (by rw [HAA.out.2]; exact HVB.out.2.1.pos base_pos (by intro e; subst e; simp at hbn))
                      rw [HAA.out.1, HAA.out.2] at s1
                      rw [HAA.out.2] at s2
                      have st := div_step HI.out (show gq < base by rw [base_eq]; omega) HZ2.out.2 HT.out.2.2.1 (by rw [HZ2.out.1, HL.out.1]) (by omega) s1 s2
                      have hpg := Ow.putg HOO8.out k gq
                      exact ⟨k, zs2, os.set k gq, rfl, by omega, st, ⟨HZ2.out.1, by rw [List.length_set]; exact HL.out.2⟩, H8.out.kept hpg (by simp [Value.ownBlock]; exact hgog), Ow.put HOO8.out k gq, HOB8.out.kept hpg (by simp [Value.ownBlock]; exact hgob), belowG HB8.out hpg HB8.out.size (fun x hx => by cases hx; exact hgor)⟩
                    case measure => simp [intOf]
                  · obtain rfl : bo = 1 := by omega
                    have hO8 := H8.out
                    have hbk := back_any w.heap.size g cap gb 0 capb zs2 bs k w8 HZ2.out.2 HVB.out.1 hO8 (Rd.own HOB8.out) (Ne.symm hgb) (by rw [HZ2.out.1, ← HL.out.1]; exact hwl) (by rw [HZ2.out.1]; omega)
                    rw [HZ2.out.1] at hbk
                    clear hO8
                    go_wp2_with fail
                    refine hbk.mono ?_
                    rintro e w9 ⟨rfl, zs3, c, hBI, hO9, hg9⟩
                    obtain ⟨t1, t2, t3⟩ := back_window hBI (by rw [HZ2.out.1, ← HL.out.1]; omega) HT.out.2.2.2
                    rw [← HAA.out.2] at t1
                    obtain ⟨q, rfl, s1, s2⟩ := step_back HT.out.1 HT.out.2.1 HGL.out (by rw [HAA.out.2]; exact HVB.out.2.1.pos base_pos (by intro e; subst e; simp at hbn)) t1 t2 hBI.carry
                    have hzl3 : zs3.length = zs.length := by rw [hBI.len, HZ2.out.1]
                    rw [← hzl3] at hO9
                    have HX := Lib.hid (And.intro s1 (And.intro s2 (And.intro t3 (And.intro hzl3 hBI.lim))))
                    have H9 := Lib.hid hO9
                    have HOB9 : Hid (Ow w9 w.heap.size (sv gb bs.length capb) bs) := HOB8.out.kept hg9 (by simp [Value.ownBlock]; exact fun e => hgb e.symm)
                    have HOO9 : Hid (Ow w9 w.heap.size (sv go os.length M) os) := HOO8.out.kept hg9 (by simp [Value.ownBlock]; exact fun e => hgog e.symm)
                    have HB9 := Lib.hid (belowG HB8.out hg9 HB8.out.size (fun x hx => by cases hx; exact hgr1))
                    clear t1 t2 t3 s1 s2 hBI hO9 hg9 hzl3 hbk
                    rw [show ((q + 1 : Nat) : Int) - 1 = (q : Int) by omega]
                    have hco := HOO9.out.cell k (by rw [HL.out.2]; omega)
                    have hfo := HOO9.out.fz k
                    go_wp2
                    go_roundw
                    case rel =>
                      obtain ⟨s1, s2, s3, s4, s5⟩ := HX.out
                      rw [HAA.out.1, HAA.out.2] at s1
                      rw [HAA.out.2] at s2
                      have st := div_step HI.out (show q < base by rw [base_eq]; omega) s5 (by rw [s3]; exact HT.out.2.2.1) (by rw [s4, HL.out.1]) (by omega) s1 s2
                      have hpg := Ow.putg HOO9.out k q
                      exact ⟨k, zs3, os.set k q, rfl, by omega, st, ⟨s4, by rw [List.length_set]; exact HL.out.2⟩, H9.out.kept hpg (by simp [Value.ownBlock]; exact hgog), Ow.put HOO9.out k q, HOB9.out.kept hpg (by simp [Value.ownBlock]; exact hgob), belowG HB9.out hpg HB9.out.size (fun x hx => by cases hx; exact hgor)⟩
                    case measure => simp [intOf]
                · have d2 : decide ((rq : Int) < 1000000000) = false := decide_eq_false (by omega)
                  go_wp2_with fail
                  go_quiet (fail)
                  go_wp2_with fail
                  have htk := take_any w.heap.size g cap gb 0 capb ws bs gq k (w6.drewN (qq + nq)) HI.out.lima HVB.out.1 (by rw [base_eq]; omega) (HOW.out.drewN _) (Rd.own (HOB2.out.drewN _)) (Ne.symm hgb) hwl (by rw [HL.out.1]; omega)
                  rw [HL.out.1] at htk
                  refine htk.mono ?_
                  rintro e w8 ⟨zs2, bo, rfl, hT, hO8, hg8⟩
                  obtain ⟨t1, t2, t3, t4⟩ := take_window hT (by omega) HZR.out
                  have hzl2 : zs2.length = zs.length := by rw [hT.len]; exact HL.out.1
                  have hlim2 := hT.lim
                  have hbo := hT.borrow
                  have HOB8 : Hid (Ow w8 w.heap.size (sv gb bs.length capb) bs) := HOB2.out.kept (gtrans (gOfB (below_drewN (Below.refl _ _) (qq + nq)) _) hg8) (by simp [Value.ownBlock]; exact fun e => hgb e.symm)
                  have HOO8 : Hid (Ow w8 w.heap.size (sv go os.length M) os) := HOO.out.kept (gtrans (gOfB (below_drewN (Below.refl _ _) (qq + nq)) _) hg8) (by simp [Value.ownBlock]; exact fun e => hgog e.symm)
                  have HB8 := Lib.hid (belowG hb (gtrans (gOfB (below_drewN (Below.refl _ _) (qq + nq)) (some g)) hg8) hb.size (fun x hx => by cases hx; exact hgr1))
                  rw [← HAA.out.1, ← HAA.out.2] at t1
                  rw [← hzl2] at hO8
                  have HT := Lib.hid (And.intro t1 (And.intro t2 (And.intro t3 t4)))
                  have H8 := Lib.hid hO8
                  have HZ2 := Lib.hid (And.intro hzl2 hlim2)
                  have htl := hT.len
                  clear htk t1 t2 t3 t4 hzl2 hlim2 hO8 hg8 hT htl
                  rcases Nat.eq_zero_or_pos bo with h0 | h0
                  · subst h0
                    have hgq2 : gq = A / bv := by
                      have h1 := HT.out.1
                      rw [Nat.mul_zero, Nat.add_zero] at h1
                      have h2 : gq ≤ A / bv := (Nat.le_div_iff_mul_le (by rw [HAA.out.2]; exact HVB.out.2.1.pos base_pos (by intro e; subst e; simp at hbn))).2 (by omega)
                      exact Nat.le_antisymm h2 HG.out.ge
                    have HGQ := Lib.hid hgq2
                    clear hgq2
                    have hco := HOO8.out.cell k (by rw [HL.out.2]; omega)
                    have hfo := HOO8.out.fz k
                    go_wp2
                    go_roundw
                    case rel =>
                      obtain ⟨s1, s2⟩ := step_plain HT.out.1 HGQ.out (by rw [HAA.out.2]; exact HVB.out.2.1.pos base_pos (by intro e; subst e; simp at hbn))
                      rw [HAA.out.1, HAA.out.2] at s1
                      rw [HAA.out.2] at s2
                      have st := div_step HI.out (show gq < base by rw [base_eq]; omega) HZ2.out.2 HT.out.2.2.1 (by rw [HZ2.out.1, HL.out.1]) (by omega) s1 s2
                      have hpg := Ow.putg HOO8.out k gq
                      exact ⟨k, zs2, os.set k gq, rfl, by omega, st, ⟨HZ2.out.1, by rw [List.length_set]; exact HL.out.2⟩, H8.out.kept hpg (by simp [Value.ownBlock]; exact hgog), Ow.put HOO8.out k gq, HOB8.out.kept hpg (by simp [Value.ownBlock]; exact hgob), belowG HB8.out hpg HB8.out.size (fun x hx => by cases hx; exact hgor)⟩
                    case measure => simp [intOf]
                  · obtain rfl : bo = 1 := by omega
                    have hO8 := H8.out
                    have hbk := back_any w.heap.size g cap gb 0 capb zs2 bs k w8 HZ2.out.2 HVB.out.1 hO8 (Rd.own HOB8.out) (Ne.symm hgb) (by rw [HZ2.out.1, ← HL.out.1]; exact hwl) (by rw [HZ2.out.1]; omega)
                    rw [HZ2.out.1] at hbk
                    clear hO8
                    go_wp2_with fail
                    refine hbk.mono ?_
                    rintro e w9 ⟨rfl, zs3, c, hBI, hO9, hg9⟩
                    obtain ⟨t1, t2, t3⟩ := back_window hBI (by rw [HZ2.out.1, ← HL.out.1]; omega) HT.out.2.2.2
                    rw [← HAA.out.2] at t1
                    obtain ⟨q, rfl, s1, s2⟩ := step_back HT.out.1 HT.out.2.1 HGL.out (by rw [HAA.out.2]; exact HVB.out.2.1.pos base_pos (by intro e; subst e; simp at hbn)) t1 t2 hBI.carry
                    have hzl3 : zs3.length = zs.length := by rw [hBI.len, HZ2.out.1]
                    rw [← hzl3] at hO9
                    have HX := Lib.hid (And.intro s1 (And.intro s2 (And.intro t3 (And.intro hzl3 hBI.lim))))
                    have H9 := Lib.hid hO9
                    have HOB9 : Hid (Ow w9 w.heap.size (sv gb bs.length capb) bs) := HOB8.out.kept hg9 (by simp [Value.ownBlock]; exact fun e => hgb e.symm)
                    have HOO9 : Hid (Ow w9 w.heap.size (sv go os.length M) os) := HOO8.out.kept hg9 (by simp [Value.ownBlock]; exact fun e => hgog e.symm)
                    have HB9 := Lib.hid (belowG HB8.out hg9 HB8.out.size (fun x hx => by cases hx; exact hgr1))
                    clear t1 t2 t3 s1 s2 hBI hO9 hg9 hzl3 hbk
                    rw [show ((q + 1 : Nat) : Int) - 1 = (q : Int) by omega]
                    have hco := HOO9.out.cell k (by rw [HL.out.2]; omega)
                    have hfo := HOO9.out.fz k
                    go_wp2
                    go_roundw
                    case rel =>
                      obtain ⟨s1, s2, s3, s4, s5⟩ := HX.out
                      rw [HAA.out.1, HAA.out.2] at s1
                      rw [HAA.out.2] at s2
                      have st := div_step HI.out (show q < base by rw [base_eq]; omega) s5 (by rw [s3]; exact HT.out.2.2.1) (by rw [s4, HL.out.1]) (by omega) s1 s2
                      have hpg := Ow.putg HOO9.out k q
                      exact ⟨k, zs3, os.set k q, rfl, by omega, st, ⟨s4, by rw [List.length_set]; exact HL.out.2⟩, H9.out.kept hpg (by simp [Value.ownBlock]; exact hgog), Ow.put HOO9.out k q, HOB9.out.kept hpg (by simp [Value.ownBlock]; exact hgob), belowG HB9.out hpg HB9.out.size (fun x hx => by cases hx; exact hgor)⟩
                    case measure => simp [intOf]
end Go.Proofs.YtbihoedcbmnccaaGreatDoor
/- decimal: DivMod, Gcd, Lcm. -/
namespace Go.Proofs.YtbihoedcbmnccaaGreatDoor
open Go.RowKit

theorem decimal_OfI (u : Int) (h0 : 0 ≤ u) (h1 : u < 18446744073709551616) (w : World) (hS : St w) :
    Calls Tryz.prog 118 #[.int .u64 u] w fun e w' => e = .returned (.string (D u.toNat)) ∧ Below w.heap.size w w' := by
  obtain ⟨n, rfl⟩ := Int.eq_ofNat_of_zero_le h0
  exact decimal_Of n (by omega) w hS
theorem one_list {l : List Nat} (h : l.length = 1) : l = [l.getD 0 0] := by
  match l, h with
  | [z], _ => rfl
set_option maxHeartbeats 800000 in
set_option maxRecDepth 100000 in
theorem divmod_small (a b : Nat) (ha : Lib.nDigits a ≤ 18) (hb : Lib.nDigits b ≤ 18) (hb0 : 0 < b) (w : World) (hS : St w) :
    Calls Tryz.prog 174 #[.string (D a), .string (D b)] w fun e w' => e = .returned (.tuple #[.string (D (a / b)), .string (D (a % b)), .int .i64 0]) ∧ Below w.heap.size w w' := by
  have h1 : a < 10 ^ 18 := lt_of_nDigits_le ha
  have h2 : b < 10 ^ 18 := lt_of_nDigits_le hb
  have hz : ((D b).toList == [48]) = false := by rw [D_is0]; exact decide_eq_false (by omega)
  have q1 : (a / b : Nat) ≤ a := Nat.div_le_self ..
  have q2 : (a % b : Nat) < b := Nat.mod_lt _ hb0
  have e1 : (a : Int) / (b : Int) = ((a / b : Nat) : Int) := (Int.natCast_ediv ..).symm
  have e2 : (a : Int) % (b : Int) = ((a % b : Nat) : Int) := (Int.natCast_emod ..).symm
  have w1' : IntKind.u64.wrap ((a : Int) / (b : Int)) = ((a / b : Nat) : Int) := by
    rw [e1, IntKind.wrap_u64]; generalize a / b = q at q1 ⊢; omega
  have w2' : IntKind.u64.wrap ((a : Int) % (b : Int)) = ((a % b : Nat) : Int) := by
    rw [e2, IntKind.wrap_u64]; generalize a % b = r at q2 ⊢; omega
  have w3' : (a : Int).tmod (b : Int) = ((a % b : Nat) : Int) := by rw [Int.ofNat_tmod]
  obtain ⟨q, hq⟩ : ∃ q, q = a / b := ⟨_, rfl⟩
  obtain ⟨r, hr⟩ : ∃ r, r = a % b := ⟨_, rfl⟩
  rw [← hq] at q1 w1' ⊢
  rw [← hr] at q2 w2' w3' ⊢
  have HQ := Lib.hid (And.intro hq hr)
  clear e1 e2 hq hr
  go_enter Tryz.func174, Tryz.ntmps174
  go_wp2_with fail
  refine (decimal_both a b ha hb _).mono ?_
  rintro e w1 ⟨rfl, hb1⟩
  have hS1 := hS.b hb1
  have hS2 := hS1.drew
  go_wp2_with fail
  go_region_with (go_at_call 118; refine (decimal_Of _ (by first | exact Nat.lt_of_le_of_lt q1 (by omega) | exact Nat.lt_trans q2 (by omega)) _ (by first | exact hS2 | exact St.b hS2 (by assumption))).mono ?_; rintro e w' ⟨rfl, hbx⟩)
  all_goals (go_wp2; go_ret3; exact ⟨rfl, bT hb1 (bT (Below.refl _ _).drew (bT (by assumption) (by assumption)))⟩)
set_option maxHeartbeats 800000 in
set_option maxRecDepth 100000 in
theorem divmod_lt (a b : Nat) (ha : Lib.nDigits a ≤ 1000000) (hb : Lib.nDigits b ≤ 1000000) (h : ¬ (Lib.nDigits a ≤ 18 ∧ Lib.nDigits b ≤ 18)) (hb0 : 0 < b) (hlt : a < b) (w : World) (hS : St w) :
    Calls Tryz.prog 174 #[.string (D a), .string (D b)] w fun e w' => e = .returned (.tuple #[.string (D (a / b)), .string (D (a % b)), .int .i64 0]) ∧ Below w.heap.size w w' := by
  have hz : ((D b).toList == [48]) = false := by rw [D_is0]; exact decide_eq_false (by omega)
  go_enter Tryz.func174, Tryz.ntmps174
  go_wp2_with fail
  refine (decimal_both_no a b h _).mono ?_
  rintro e w1 ⟨rfl, hb1⟩
  go_wp2_with fail
  refine (cut_D a _ ha).mono ?_
  rintro e w2 ⟨gp, capp, xs, rfl, hop, lx, tx, vx, sx, hb2⟩
  go_wp2_with fail
  refine (cut_D b _ hb).mono ?_
  rintro e w3 ⟨gq, capq, ys, rfl, hoq, ly, ty, vy, sy, hb3⟩
  have HP := Lib.hid (hop.below hb3)
  have HQ := Lib.hid hoq
  have HB := Lib.hid (bT hb1 (bT hb2 hb3))
  have HS3 := hS.b HB.out
  clear hop hoq hb1 hb2 hb3 h
  have hyl : 0 < ys.length := by
    rcases Nat.eq_zero_or_pos ys.length with h0 | h0
    · rw [List.eq_nil_of_length_eq_zero h0, val_nil] at vy; omega
    · exact h0
  have hcm := compare_any gp 0 capp gq 0 capq xs ys w3 lx ly tx ty HP.out.rd HQ.out.rd (by omega) (by omega)
  rw [vx, vy] at hcm
  rw [cmp3_lt hlt] at hcm
  have HV := Lib.hid (And.intro (Nat.div_eq_of_lt hlt) (Nat.mod_eq_of_lt hlt))
  clear vx vy lx ly tx ty
  go_wp2_with fail
  refine hcm.mono ?_
  rintro e w4 ⟨rfl, hb4⟩
  go_wp2
  go_ret3
  rw [HV.out.1, HV.out.2, D_zero]
  exact ⟨rfl, bT HB.out hb4⟩
set_option maxHeartbeats 800000 in
set_option maxRecDepth 100000 in
theorem divmod_one (a b : Nat) (ha : Lib.nDigits a ≤ 1000000) (hb : Lib.nDigits b ≤ 1000000) (h : ¬ (Lib.nDigits a ≤ 18 ∧ Lib.nDigits b ≤ 18)) (hb0 : 0 < b) (hlt : ¬ a < b) (hb1 : b < base) (w : World) (hS : St w) :
    Calls Tryz.prog 174 #[.string (D a), .string (D b)] w fun e w' => e = .returned (.tuple #[.string (D (a / b)), .string (D (a % b)), .int .i64 0]) ∧ Below w.heap.size w w' := by
  have hz : ((D b).toList == [48]) = false := by rw [D_is0]; exact decide_eq_false (by omega)
  go_enter Tryz.func174, Tryz.ntmps174
  go_wp2_with fail
  refine (decimal_both_no a b h _).mono ?_
  rintro e w1 ⟨rfl, hb1⟩
  go_wp2_with fail
  refine (cut_D a _ ha).mono ?_
  rintro e w2 ⟨gp, capp, xs, rfl, hop, lx, tx, vx, sx, hb2⟩
  go_wp2_with fail
  refine (cut_D b _ hb).mono ?_
  rintro e w3 ⟨gq, capq, ys, rfl, hoq, ly, ty, vy, sy, hb3⟩
  have HP := Lib.hid (hop.below hb3)
  have HQ := Lib.hid hoq
  have HB := Lib.hid (bT hb1 (bT hb2 hb3))
  have HS3 := hS.b HB.out
  clear hop hoq hb1 hb2 hb3 h
  have hyl : 0 < ys.length := by
    rcases Nat.eq_zero_or_pos ys.length with h0 | h0
    · rw [List.eq_nil_of_length_eq_zero h0, val_nil] at vy; omega
    · exact h0
  have hcm := compare_any gp 0 capp gq 0 capq xs ys w3 lx ly tx ty HP.out.rd HQ.out.rd (by omega) (by omega)
  rw [vx, vy] at hcm
  have h1 : ys.length = 1 := by
    have h2 := len_of_lt (b := base) (k := 1) (by decide) ty (by rw [vy, Nat.pow_one]; exact hb1)
    omega
  have hc3 : ¬ (cmp3 a b < 0) := by unfold cmp3; split <;> (try split) <;> omega
  obtain ⟨c3, hc3e⟩ : ∃ c, cmp3 a b = c := ⟨_, rfl⟩
  rw [hc3e] at hcm hc3
  clear hc3e
  have HV := Lib.hid (And.intro vx vy)
  have HL := Lib.hid (And.intro lx (And.intro ly (And.intro tx ty)))
  clear vx vy lx ly tx ty
  obtain ⟨y, hy⟩ : ∃ y, ys.getD 0 0 = y := ⟨_, rfl⟩
  have hys : ys = [y] := by rw [← hy]; exact one_list h1
  have hyb : y = b := by have := HV.out.2; rw [hys, val_one] at this; exact this
  have hcy := HQ.out.cell 0 (by omega)
  rw [hy, hyb] at hcy
  have hyv : b < base := by have := HL.out.2.1.get base_pos 0; rw [hy, hyb] at this; exact this
  have hle1 : ((ys.length : Int) == 1) = true := by rw [beq_iff_eq]; omega
  have hsm := fun W hR => small_any gp 0 capp xs b W HL.out.1 hb0 (Nat.le_of_lt hyv) hR (by omega)
  have HSM := Lib.hid hsm
  have HY := Lib.hid hyv
  clear hsm hyv hys hyb hy h1
  go_wp2_with fail
  refine hcm.mono ?_
  rintro e w4 ⟨rfl, hb4⟩
  have hcy4 : w4.cell? ⟨gq, 0, none⟩ = some (.int .u64 (b : Int)) := ((bcell hb4).1 gq 0 HQ.out.capb.2.2.2.2).trans hcy
  have HB4 := Lib.hid hb4
  go_wp2_with fail
  refine (HSM.out w4 ((HP.out.below HB4.out).rd)).mono ?_
  rintro e w5 ⟨g5, cap5, rs, r, rfl, ho5, l5, t5, v5, r5, hb5⟩
  have htx := text_any _ _ _ rs _ ho5 l5 t5 (by
    have := len_of_lt (b := base) (k := xs.length) (by decide) t5 (by
      have h1 := val_lt HL.out.1
      have h2 : val base rs ≤ val base rs * b := Nat.le_mul_of_pos_right _ hb0
      omega)
    omega)
  have hdm := (Nat.div_mod_unique (a := a) (b := b) (d := val base rs) (c := r) hb0).2 ⟨by have h1 := HV.out.1; rw [h1] at v5; rw [← v5, Nat.mul_comm]; omega, r5⟩
  rw [← hdm.1] at htx
  have HD := Lib.hid hdm.2
  have hrb : r < 18446744073709551616 := Nat.lt_trans r5 (Nat.lt_trans HY.out (by decide))
  have HS5 := (HS3.b HB4.out).b hb5
  clear hdm v5 r5 ho5 l5 t5
  go_wp2_with fail
  refine htx.mono ?_
  rintro e w6 ⟨rfl, hb6⟩
  go_wp2_with fail
  refine (decimal_Of r hrb _ (HS5.b hb6)).mono ?_
  rintro e w7 ⟨rfl, hb7⟩
  go_wp2
  go_ret3
  rw [HD.out]
  exact ⟨rfl, bT HB.out (bT HB4.out (bT hb5 (bT hb6 hb7)))⟩
set_option maxHeartbeats 800000 in
set_option maxRecDepth 100000 in
theorem divmod_div (a b : Nat) (ha : Lib.nDigits a ≤ 1000000) (hb : Lib.nDigits b ≤ 1000000) (h : ¬ (Lib.nDigits a ≤ 18 ∧ Lib.nDigits b ≤ 18)) (hb0 : 0 < b) (hlt : ¬ a < b) (hb1 : ¬ b < base) (w : World) (hS : St w) :
    Calls Tryz.prog 174 #[.string (D a), .string (D b)] w fun e w' => e = .returned (.tuple #[.string (D (a / b)), .string (D (a % b)), .int .i64 0]) ∧ Below w.heap.size w w' := by
  have hz : ((D b).toList == [48]) = false := by rw [D_is0]; exact decide_eq_false (by omega)
  go_enter Tryz.func174, Tryz.ntmps174
  go_wp2_with fail
  refine (decimal_both_no a b h _).mono ?_
  rintro e w1 ⟨rfl, hb1⟩
  go_wp2_with fail
  refine (cut_D a _ ha).mono ?_
  rintro e w2 ⟨gp, capp, xs, rfl, hop, lx, tx, vx, sx, hb2⟩
  go_wp2_with fail
  refine (cut_D b _ hb).mono ?_
  rintro e w3 ⟨gq, capq, ys, rfl, hoq, ly, ty, vy, sy, hb3⟩
  have HP := Lib.hid (hop.below hb3)
  have HQ := Lib.hid hoq
  have HB := Lib.hid (bT hb1 (bT hb2 hb3))
  have HS3 := hS.b HB.out
  clear hop hoq hb1 hb2 hb3 h
  have hyl : 0 < ys.length := by
    rcases Nat.eq_zero_or_pos ys.length with h0 | h0
    · rw [List.eq_nil_of_length_eq_zero h0, val_nil] at vy; omega
    · exact h0
  have hcm := compare_any gp 0 capp gq 0 capq xs ys w3 lx ly tx ty HP.out.rd HQ.out.rd (by omega) (by omega)
  rw [vx, vy] at hcm
  have h1 : ys.length ≠ 1 := by
    intro h1
    have h2 := val_lt ly
    rw [vy, h1, Nat.pow_one] at h2; exact hb1 h2
  have hc3 : ¬ (cmp3 a b < 0) := by unfold cmp3; split <;> (try split) <;> omega
  obtain ⟨c3, hc3e⟩ : ∃ c, cmp3 a b = c := ⟨_, rfl⟩
  rw [hc3e] at hcm hc3
  clear hc3e
  have HV := Lib.hid (And.intro vx vy)
  have HL := Lib.hid (And.intro lx (And.intro ly (And.intro tx ty)))
  clear vx vy lx ly tx ty
  have hle1 : ((ys.length : Int) == 1) = false := by rw [beq_eq_false_iff_ne]; omega
  have hlen : ys.length ≤ xs.length := trimmed_length (b := base) (by decide) HL.out.1 HL.out.2.2.2 HL.out.2.1 (by rw [HV.out.1, HV.out.2]; omega)
  go_wp2_with fail
  refine hcm.mono ?_
  rintro e w4 ⟨rfl, hb4⟩
  have HB4 := Lib.hid hb4
  have hdv := divide_any gp 0 capp gq 0 capq xs ys w4 HL.out.1 HL.out.2.1 HL.out.2.2.2 (HP.out.below hb4).rd (HQ.out.below hb4).rd (by omega) hlen (by omega)
  clear hb4
  go_wp2_with fail
  refine hdv.mono ?_
  rintro e w5 ⟨g1, c1, zs, g2, c2, rs, rfl, ho1, ho2, lz, tz, lr, tr, vz, vr, hb5⟩
  rw [HV.out.1, HV.out.2] at vz vr
  have hxl := val_lt HL.out.1
  rw [HV.out.1] at hxl
  have hzl : zs.length ≤ xs.length := len_of_lt (b := base) (by decide) tz (by rw [vz]; exact Nat.lt_of_le_of_lt (Nat.div_le_self ..) hxl)
  have hrl : rs.length ≤ xs.length := len_of_lt (b := base) (by decide) tr (by rw [vr]; exact Nat.lt_of_le_of_lt (Nat.mod_le ..) hxl)
  have ht1 := text_any _ _ _ zs _ ho1 lz tz (by omega)
  rw [vz] at ht1
  have ht2 := fun W hW => text_any _ g2 c2 rs W (Ow.below ho2 (w' := W) hW) lr tr (by omega)
  rw [vr] at ht2
  have HT2 := Lib.hid ht2
  clear vz vr hxl ho1 ho2 ht2
  go_wp2_with fail
  refine ht1.mono ?_
  rintro e w6 ⟨rfl, hb6⟩
  go_wp2_with fail
  refine (HT2.out w6 hb6).mono ?_
  rintro e w7 ⟨rfl, hb7⟩
  go_wp2
  go_ret3
  exact ⟨rfl, bT HB.out (bT HB4.out (bT hb5 (bT hb6 hb7)))⟩
theorem decimal_DivMod (a b : Nat) (ha : Lib.nDigits a ≤ 1000000) (hb : Lib.nDigits b ≤ 1000000) (hb0 : 0 < b) (w : World) (hS : St w) :
    Calls Tryz.prog 174 #[.string (D a), .string (D b)] w fun e w' => e = .returned (.tuple #[.string (D (a / b)), .string (D (a % b)), .int .i64 0]) ∧ Below w.heap.size w w' := by
  by_cases h : Lib.nDigits a ≤ 18 ∧ Lib.nDigits b ≤ 18
  · exact divmod_small a b h.1 h.2 hb0 w hS
  · by_cases hlt : a < b
    · exact divmod_lt a b ha hb h hb0 hlt w hS
    · by_cases hb1 : b < base
      · exact divmod_one a b ha hb h hb0 hlt hb1 w hS
      · exact divmod_div a b ha hb h hb0 hlt hb1 w hS
end Go.Proofs.YtbihoedcbmnccaaGreatDoor
/- decimal: Gcd, Lcm. -/
namespace Go.Proofs.YtbihoedcbmnccaaGreatDoor
open Go.RowKit

def txtOf : Value → Nat
  | .string s => dval 0 s.data.toList
  | _ => 0
theorem txtOf_D (n : Nat) : txtOf (.string (D n)) = n := by
  show dval 0 (D n).data.toList = n
  rw [D_list, dval_dec]
set_option maxHeartbeats 800000 in
theorem decimal_Gcd (a b : Nat) (ha : Lib.nDigits a ≤ 1000000) (hb : Lib.nDigits b ≤ 1000000) (w : World) (hS : St w) :
    Calls Tryz.prog 179 #[.string (D a), .string (D b)] w fun e w' => e = .returned (.string (D (Nat.gcd a b))) ∧ Below w.heap.size w w' := by
  obtain ⟨G, hG⟩ : ∃ G, Nat.gcd a b = G := ⟨_, rfl⟩
  rw [hG]
  have HG := Lib.hid hG
  clear hG
  go_enter Tryz.func179, Tryz.ntmps179
  go_wp2
  go_loopw [0, 1] (fun x y wr => ∃ (m n : Nat), x = .string (D m) ∧ y = .string (D n) ∧ Hid (Nat.gcd m n = G ∧ Lib.nDigits m ≤ 1000000 ∧ Lib.nDigits n ≤ 1000000) ∧ Below w.heap.size w wr) (fun _ y _ => txtOf y)
  case atStart => exact ⟨a, b, rfl, rfl, ⟨HG.out, ha, hb⟩, Below.refl _ _⟩
  case round =>
    obtain ⟨m, n, rfl, rfl, HI, hbw⟩ := hrel
    rename World => w0
    have hS0 := hS.b hbw
    by_cases hn : n = 0
    · have hz : ((D n).toList == [48]) = true := by rw [D_is0]; exact decide_eq_true hn
      have hm : Hid (D m = D G) := by show D m = D G; rw [← HI.out.1, hn, Nat.gcd_zero_right]
      clear hn
      go_wp2
      go_ret
      rw [hm.out]
      exact ⟨rfl, hbw⟩
    · have hz : ((D n).toList == [48]) = false := by rw [D_is0]; exact decide_eq_false hn
      have hdm := decimal_DivMod m n HI.out.2.1 HI.out.2.2 (by omega) w0 hS0
      have hg : Nat.gcd n (m % n) = G := by rw [← HI.out.1, Nat.gcd_comm n, ← Nat.gcd_rec, Nat.gcd_comm]
      have hd : Lib.nDigits (m % n) ≤ 1000000 := Nat.le_trans (nDigits_mono (Nat.le_of_lt (Nat.mod_lt _ (by omega)))) HI.out.2.2
      have hl : m % n < n := Nat.mod_lt _ (by omega)
      obtain ⟨q, hq⟩ : ∃ q, m / n = q := ⟨_, rfl⟩
      obtain ⟨r, hr⟩ : ∃ r, m % n = r := ⟨_, rfl⟩
      rw [hq, hr] at hdm
      rw [hr] at hg hd hl
      clear hq hr
      have HH := Lib.hid (And.intro hg (And.intro HI.out.2.2 hd))
      have HL := Lib.hid hl
      clear hg hd hl
      go_wp2_with fail
      refine hdm.mono ?_
      rintro e w1 ⟨rfl, hb1⟩
      go_wp2
      go_roundw
      case rel => exact ⟨n, r, rfl, rfl, HH.out, bT hbw hb1⟩
      case measure => rw [txtOf_D, txtOf_D]; exact HL.out
theorem nd_gcd {a b : Nat} (h : 0 < a) : Lib.nDigits (Nat.gcd a b) ≤ Lib.nDigits a := nDigits_mono (Nat.le_of_dvd h (Nat.gcd_dvd_left ..))
theorem nd_div (a b : Nat) : Lib.nDigits (a / b) ≤ Lib.nDigits a := nDigits_mono (Nat.div_le_self ..)
set_option maxHeartbeats 800000 in
theorem decimal_Lcm (a b : Nat) (ha : Lib.nDigits a ≤ 500000) (hb : Lib.nDigits b ≤ 500000) (w : World) (hS : St w) :
    Calls Tryz.prog 184 #[.string (D a), .string (D b)] w fun e w' => e = .returned (.string (D (Nat.lcm a b))) ∧ Below w.heap.size w w' := by
  by_cases h0 : a = 0
  · have hz : ((D a).toList == [48]) = true := by rw [D_is0]; exact decide_eq_true h0
    have H0 := Lib.hid h0
    clear h0
    go_enter Tryz.func184, Tryz.ntmps184
    go_wp2
    go_ret
    rw [H0.out, Nat.lcm_zero_left, D_zero]
    exact ⟨rfl, Below.refl _ _⟩
  by_cases h1 : b = 0
  · have hz : ((D a).toList == [48]) = false := by rw [D_is0]; exact decide_eq_false h0
    have hz2 : ((D b).toList == [48]) = true := by rw [D_is0]; exact decide_eq_true h1
    have H1 := Lib.hid h1
    clear h1
    go_enter Tryz.func184, Tryz.ntmps184
    go_wp2
    go_ret
    rw [H1.out, Nat.lcm_zero_right, D_zero]
    exact ⟨rfl, Below.refl _ _⟩
  have hz : ((D a).toList == [48]) = false := by rw [D_is0]; exact decide_eq_false h0
  have hz2 : ((D b).toList == [48]) = false := by rw [D_is0]; exact decide_eq_false h1
  have hg0 : 0 < Nat.gcd a b := Nat.gcd_pos_of_pos_left _ (by omega)
  have hgd := nd_gcd (b := b) (show 0 < a by omega)
  have hqd := nd_div a (Nat.gcd a b)
  have hl : a / Nat.gcd a b * b = Nat.lcm a b := by
    rw [Nat.lcm, Nat.div_mul_right_comm (Nat.gcd_dvd_left a b)]
  have hgc := decimal_Gcd a b (by omega) (by omega) w hS
  obtain ⟨g, hg⟩ : ∃ g, Nat.gcd a b = g := ⟨_, rfl⟩
  rw [hg] at hg0 hgd hqd hl hgc
  clear hg
  obtain ⟨q, hq⟩ : ∃ q, a / g = q := ⟨_, rfl⟩
  have hdm := fun W hW => decimal_DivMod a g (by omega) (by omega) hg0 W hW
  rw [hq] at hqd hl hdm
  rw [← hl]
  clear hq hl
  go_enter Tryz.func184, Tryz.ntmps184
  go_wp2_with fail
  refine hgc.mono ?_
  rintro e w1 ⟨rfl, hb1⟩
  go_wp2_with fail
  refine (hdm w1 (hS.b hb1)).mono ?_
  rintro e w2 ⟨rfl, hb2⟩
  go_wp2_with fail
  refine (decimal_Mul q b (by omega) (by omega) w2 ((hS.b hb1).b hb2)).mono ?_
  rintro e w3 ⟨rfl, hb3⟩
  go_wp2
  go_ret
  exact ⟨rfl, bT hb1 (bT hb2 hb3)⟩
end Go.Proofs.YtbihoedcbmnccaaGreatDoor
