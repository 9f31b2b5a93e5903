/- fraction: Add. -/
import Derived.Test.YtbihoedcbmnccaaGreatDoorK6
import Derived.Test.YtbihoedcbmnccaaGreatDoorK0
import Derived.Laws.ResultCell
namespace Go.Proofs.YtbihoedcbmnccaaGreatDoor
attribute [local go_sem ↓] Go.wp_at_zero Go.wp_at_succ
open Go.RowKit

theorem rat_add (a b : Rat) : Rat.divInt (a.num * b.den + b.num * a.den) ((a.den * b.den : Nat) : Int) = a + b := by
  rw [Rat.add_def, Rat.normalize_eq_mkRat, Rat.divInt_ofNat]
theorem rat_add_int (a b : Rat) (ha : a.den = 1) (hb : b.den = 1) : Rv (a + b) = V2 (I (a.num + b.num)) ⟨#[49]⟩ := by
  have h := rat_add a b
  rw [ha, hb] at h
  rw [← h, ← R_divInt _ _ (by decide), ← D_one]
  unfold R V2
  rw [show (((1 * 1 : Nat) : Int)) = 1 from rfl, Int.gcd_one, show (((1 : Nat) : Int)) = 1 from rfl, Int.ediv_one, Int.ediv_one, Int.mul_one, Int.mul_one]
  rw [show I 1 = D 1 from I_nat 1]
theorem D_is1 (n : Nat) : ((D n).toList == [49]) = decide (n = 1) := by have hl := list_D n 1; rw [D_one, ba_list ⟨#[49]⟩] at hl; exact hl
set_option maxHeartbeats 1600000 in
set_option maxRecDepth 100000 in
theorem add_walk0 (s t s' t' u : ByteArray) (hp : (t.toList == [49]) = true) (hq : (t'.toList == [49]) = true)
    (had : ∀ W, St W → Calls Tryz.prog 18 #[.string s, .string s'] W fun e' w' => e' = .returned (.string u) ∧ Below W.heap.size W w') (w : World) (hS : St w) :
    Calls Tryz.prog 82 #[V2 s t, V2 s' t'] w fun e w' => e = .returned (V2 u ⟨#[49]⟩) ∧ Below w.heap.size w w' := by
  have hB := B3.new w s t s' t'
  have HA := Lib.hid (below3 w s t s' t')
  go_enter Tryz.func82, Tryz.ntmps82
  go_wp2_with fail
  generalize ((w.alloc (.cells #[.string s, .string t] 42)).alloc (.cells #[.string s', .string t'] 42)).alloc (.cells #[.string ⟨#[]⟩, .string ⟨#[]⟩] 42) = W at hB HA ⊢
  refine (had _ (hS.b HA.out)).mono ?_
  rintro e w1 ⟨rfl, hb1⟩
  have hK := K3.below (K3.mk hB hS HA.out) hb1
  obtain ⟨x0, y0, ho⟩ := hK.b3.out
  have c0 := ho.cell 0 (by simp)
  have c1 := ho.cell 1 (by simp)
  have f0 := ho.fz 0
  have f1 := ho.fz 1
  have hlt := ho.lt.2
  have HE := Lib.hid (K3.put hK u ⟨#[49]⟩)
  clear hB hb1 hK ho
  go_wp2
  refine box_ret rfl rfl HE.out.2 Tryz.underlying42 rfl sizeRat rfl ?_
  exact ⟨rfl, HE.out.1.be⟩
set_option maxHeartbeats 1600000 in
set_option maxRecDepth 100000 in
theorem add_walk1 (s t s' t' u v : ByteArray) (p q : Bool) (hpq : p = false ∨ (p = true ∧ q = false)) (hp : (t.toList == [49]) = p) (hq : (t'.toList == [49]) = q) (n d m e : Int) (h0 : -1000000000000000000 ≤ n * e ∧ n * e ≤ 1000000000000000000) (h1 : -1000000000000000000 ≤ m * d ∧ m * d ≤ 1000000000000000000) (h2 : -1000000000000000000 ≤ d * e ∧ d * e ≤ 1000000000000000000)
    (ha : ∀ W, Calls Tryz.prog 85 #[V2 s t] W fun e' w' => e' = .returned (.tuple #[.int .i64 n, .int .i64 d, .bool true]) ∧ Below W.heap.size W w')
    (hb : ∀ W, Calls Tryz.prog 85 #[V2 s' t'] W fun e' w' => e' = .returned (.tuple #[.int .i64 m, .int .i64 e, .bool true]) ∧ Below W.heap.size W w')
    (hof : ∀ W, St W → Calls Tryz.prog 96 #[.int .i64 (n * e + m * d), .int .i64 (d * e)] W fun e' w' => e' = .returned (V2 u v) ∧ Below W.heap.size W w') (w : World) (hS : St w) :
    Calls Tryz.prog 82 #[V2 s t, V2 s' t'] w fun e w' => e = .returned (V2 u v) ∧ Below w.heap.size w w' := by
  have hB := B3.new w s t s' t'
  have HA := Lib.hid (below3 w s t s' t')
  rcases hpq with rfl | ⟨rfl, rfl⟩
  all_goals
    go_enter Tryz.func82, Tryz.ntmps82
    go_wp2_with fail
    generalize ((w.alloc (.cells #[.string s, .string t] 42)).alloc (.cells #[.string s', .string t'] 42)).alloc (.cells #[.string ⟨#[]⟩, .string ⟨#[]⟩] 42) = W at hB HA ⊢
    refine (ha _).mono ?_
    rintro e w1 ⟨rfl, hb1⟩
    have hB1 := hB.below hb1
    have HB1 := Lib.hid (bT HA.out hb1)
    have d0 := hB1.two.cell 0 (by simp)
    have d1 := hB1.two.cell 1 (by simp)
    clear hB hb1
    go_wp2_with fail
    refine (hb _).mono ?_
    rintro e w2 ⟨rfl, hb2⟩
    have HB2 := Lib.hid (bT HB1.out hb2)
    have hS2 := hS.b HB2.out
    have hB2 := hB1.below hb2
    clear hb2 hB1 d0 d1
    go_wp2_with fail
    refine (hof _ hS2).mono ?_
    rintro e w3 ⟨rfl, hb3⟩
    have hK := K3.below (K3.mk hB2 hS HB2.out) hb3
    obtain ⟨x0, y0, ho⟩ := hK.b3.out
    have c0 := ho.cell 0 (by simp)
    have c1 := ho.cell 1 (by simp)
    have f0 := ho.fz 0
    have f1 := ho.fz 1
    have hlt := ho.lt.2
    have HE := Lib.hid (K3.put hK u v)
    clear hB2 hb3 hK ho
    go_wp2
    refine box_ret rfl rfl HE.out.2 Tryz.underlying42 rfl sizeRat rfl ?_
    exact ⟨rfl, HE.out.1.be⟩
set_option maxHeartbeats 6400000 in
set_option maxRecDepth 100000 in
theorem add_walk2 (s t s' t' u v y1 y2 y z : ByteArray) (p q : Bool) (hpq : p = false ∨ (p = true ∧ q = false)) (hp : (t.toList == [49]) = p) (hq : (t'.toList == [49]) = q)
    (hm1 : ∀ W, St W → Calls Tryz.prog 87 #[.string s, .string t'] W fun e' w' => e' = .returned (.string y1) ∧ Below W.heap.size W w')
    (hm2 : ∀ W, St W → Calls Tryz.prog 87 #[.string s', .string t] W fun e' w' => e' = .returned (.string y2) ∧ Below W.heap.size W w')
    (had : ∀ W, St W → Calls Tryz.prog 18 #[.string y1, .string y2] W fun e' w' => e' = .returned (.string y) ∧ Below W.heap.size W w')
    (hm3 : ∀ W, St W → Calls Tryz.prog 87 #[.string t, .string t'] W fun e' w' => e' = .returned (.string z) ∧ Below W.heap.size W w')
    (hlo : ∀ W, St W → Calls Tryz.prog 97 #[.string y, .string z] W fun e' w' => e' = .returned (V2 u v) ∧ Below W.heap.size W w')
    (hn : (∀ W, Calls Tryz.prog 85 #[V2 s t] W fun e' w' => ∃ x x', e' = .returned (.tuple #[.int .i64 x, .int .i64 x', .bool false]) ∧ Below W.heap.size W w')) (w : World) (hS : St w) :
    Calls Tryz.prog 82 #[V2 s t, V2 s' t'] w fun e w' => e = .returned (V2 u v) ∧ Below w.heap.size w w' := by
  have hB := B3.new w s t s' t'
  have HA := Lib.hid (below3 w s t s' t')
  rcases hpq with rfl | ⟨rfl, rfl⟩
  all_goals
    go_enter Tryz.func82, Tryz.ntmps82
    go_wp2_with fail
    generalize ((w.alloc (.cells #[.string s, .string t] 42)).alloc (.cells #[.string s', .string t'] 42)).alloc (.cells #[.string ⟨#[]⟩, .string ⟨#[]⟩] 42) = W at hB HA ⊢
    refine (hn _).mono ?_
    rintro e w1 ⟨x0, x1, rfl, hb1⟩
    have hK := K3.all (K3.below (K3.mk hB hS HA.out) (bT hb1 (Below.refl _ _).drew))
    clear hB hb1
    go_wp2_with fail
    go_region_held3 (fun V => K3 w V s t s' t' ∧ V.cell? ⟨w.heap.size, 0, none⟩ = some (.string s) ∧ V.cell? ⟨w.heap.size, 1, none⟩ = some (.string t) ∧ V.cell? ⟨w.heap.size + 1, 0, none⟩ = some (.string s') ∧ V.cell? ⟨w.heap.size + 1, 1, none⟩ = some (.string t'))
      (first | assumption | exact K3.all (K3.below (And.left (by assumption)) hbx) | exact K3.all HE.out.1)
      (first
      | (go_at_call 87; with_reducible refine Calls.mono (hm1 _ (K3.st (And.left (by assumption)))) ?_; rintro e w' ⟨rfl, hbx⟩)
      | (go_at_call 87; with_reducible refine Calls.mono (hm2 _ (K3.st (And.left (by assumption)))) ?_; rintro e w' ⟨rfl, hbx⟩)
      | (go_at_call 87; with_reducible refine Calls.mono (hm3 _ (K3.st (And.left (by assumption)))) ?_; rintro e w' ⟨rfl, hbx⟩)
      | (go_at_call 18; with_reducible refine Calls.mono (had _ (K3.st (And.left (by assumption)))) ?_; rintro e w' ⟨rfl, hbx⟩)
      | (go_at_call 97; with_reducible refine Calls.mono (hlo _ (K3.st (And.left (by assumption)))) ?_; rintro e w' ⟨rfl, hbx⟩; have hKx := K3.below (And.left (by assumption)) hbx; obtain ⟨x0, y0, ho⟩ := hKx.b3.out; have c0 := ho.cell 0 (by simp); have c1 := ho.cell 1 (by simp); have f0 := ho.fz 0; have f1 := ho.fz 1; have hlt := ho.lt.2; have HE := Lib.hid (K3.put hKx u v)))
    all_goals (go_wp2; refine box_ret rfl rfl HE.out.2 Tryz.underlying42 rfl sizeRat rfl ?_; exact ⟨rfl, HE.out.1.be⟩)
set_option maxHeartbeats 6400000 in
set_option maxRecDepth 100000 in
theorem add_walk3 (s t s' t' u v y1 y2 y z : ByteArray) (p q : Bool) (hpq : p = false ∨ (p = true ∧ q = false)) (hp : (t.toList == [49]) = p) (hq : (t'.toList == [49]) = q) (n d : Int)
    (hm1 : ∀ W, St W → Calls Tryz.prog 87 #[.string s, .string t'] W fun e' w' => e' = .returned (.string y1) ∧ Below W.heap.size W w')
    (hm2 : ∀ W, St W → Calls Tryz.prog 87 #[.string s', .string t] W fun e' w' => e' = .returned (.string y2) ∧ Below W.heap.size W w')
    (had : ∀ W, St W → Calls Tryz.prog 18 #[.string y1, .string y2] W fun e' w' => e' = .returned (.string y) ∧ Below W.heap.size W w')
    (hm3 : ∀ W, St W → Calls Tryz.prog 87 #[.string t, .string t'] W fun e' w' => e' = .returned (.string z) ∧ Below W.heap.size W w')
    (hlo : ∀ W, St W → Calls Tryz.prog 97 #[.string y, .string z] W fun e' w' => e' = .returned (V2 u v) ∧ Below W.heap.size W w')
    (ha : ∀ W, Calls Tryz.prog 85 #[V2 s t] W fun e' w' => e' = .returned (.tuple #[.int .i64 n, .int .i64 d, .bool true]) ∧ Below W.heap.size W w')
    (hn : (∀ W, Calls Tryz.prog 85 #[V2 s' t'] W fun e' w' => ∃ x x', e' = .returned (.tuple #[.int .i64 x, .int .i64 x', .bool false]) ∧ Below W.heap.size W w')) (w : World) (hS : St w) :
    Calls Tryz.prog 82 #[V2 s t, V2 s' t'] w fun e w' => e = .returned (V2 u v) ∧ Below w.heap.size w w' := by
  have hB := B3.new w s t s' t'
  have HA := Lib.hid (below3 w s t s' t')
  rcases hpq with rfl | ⟨rfl, rfl⟩
  all_goals
    go_enter Tryz.func82, Tryz.ntmps82
    go_wp2_with fail
    generalize ((w.alloc (.cells #[.string s, .string t] 42)).alloc (.cells #[.string s', .string t'] 42)).alloc (.cells #[.string ⟨#[]⟩, .string ⟨#[]⟩] 42) = W at hB HA ⊢
    refine (ha _).mono ?_
    rintro e w0 ⟨rfl, hb0⟩
    have hB0 := hB.below hb0
    have d0 := hB0.two.cell 0 (by simp)
    have d1 := hB0.two.cell 1 (by simp)
    have HA0 := Lib.hid (bT HA.out hb0)
    clear hB hb0
    go_wp2_with fail
    refine (hn _).mono ?_
    rintro e w1 ⟨x0, x1, rfl, hb1⟩
    have hK := K3.all (K3.below (K3.mk hB0 hS HA0.out) (bT hb1 (Below.refl _ _).drew))
    clear hB0 hb1 d0 d1
    go_wp2_with fail
    go_region_held3 (fun V => K3 w V s t s' t' ∧ V.cell? ⟨w.heap.size, 0, none⟩ = some (.string s) ∧ V.cell? ⟨w.heap.size, 1, none⟩ = some (.string t) ∧ V.cell? ⟨w.heap.size + 1, 0, none⟩ = some (.string s') ∧ V.cell? ⟨w.heap.size + 1, 1, none⟩ = some (.string t'))
      (first | assumption | exact K3.all (K3.below (And.left (by assumption)) hbx) | exact K3.all HE.out.1)
      (first
      | (go_at_call 87; with_reducible refine Calls.mono (hm1 _ (K3.st (And.left (by assumption)))) ?_; rintro e w' ⟨rfl, hbx⟩)
      | (go_at_call 87; with_reducible refine Calls.mono (hm2 _ (K3.st (And.left (by assumption)))) ?_; rintro e w' ⟨rfl, hbx⟩)
      | (go_at_call 87; with_reducible refine Calls.mono (hm3 _ (K3.st (And.left (by assumption)))) ?_; rintro e w' ⟨rfl, hbx⟩)
      | (go_at_call 18; with_reducible refine Calls.mono (had _ (K3.st (And.left (by assumption)))) ?_; rintro e w' ⟨rfl, hbx⟩)
      | (go_at_call 97; with_reducible refine Calls.mono (hlo _ (K3.st (And.left (by assumption)))) ?_; rintro e w' ⟨rfl, hbx⟩; have hKx := K3.below (And.left (by assumption)) hbx; obtain ⟨x0, y0, ho⟩ := hKx.b3.out; have c0 := ho.cell 0 (by simp); have c1 := ho.cell 1 (by simp); have f0 := ho.fz 0; have f1 := ho.fz 1; have hlt := ho.lt.2; have HE := Lib.hid (K3.put hKx u v)))
    all_goals (go_wp2; refine box_ret rfl rfl HE.out.2 Tryz.underlying42 rfl sizeRat rfl ?_; exact ⟨rfl, HE.out.1.be⟩)
theorem fraction_Add (a b : Rat) (ha : nd a.num ≤ 100000 ∧ Lib.nDigits a.den ≤ 100000) (hb : nd b.num ≤ 100000 ∧ Lib.nDigits b.den ≤ 100000) (w : World) (hS : St w) :
    Calls Tryz.prog 82 #[Rv a, Rv b] w fun e w' => e = .returned (Rv (a + b)) ∧ Below w.heap.size w w' := by
  by_cases hp : a.den = 1 ∧ b.den = 1
  · rw [rat_add_int a b hp.1 hp.2]
    exact add_walk0 _ _ _ _ _ (by rw [D_is1]; exact decide_eq_true hp.1) (by rw [D_is1]; exact decide_eq_true hp.2) (fun W hW => whole_Add a.num b.num (by omega) (by omega) W hW) w hS
  have hpq : decide (a.den = 1) = false ∨ (decide (a.den = 1) = true ∧ decide (b.den = 1) = false) := by
    by_cases h : a.den = 1
    · right; exact ⟨decide_eq_true h, decide_eq_false (fun h2 => hp ⟨h, h2⟩)⟩
    · left; exact decide_eq_false h
  have hm1 := fun W hW => whole_MulID a.num b.den (by omega) (by omega) W hW
  have hm2 := fun W hW => whole_MulID b.num a.den (by omega) (by omega) W hW
  have k1 := nd_mulI a.num (b.den : Int)
  have k2 := nd_mulI b.num (a.den : Int)
  rw [nd_nat] at k1 k2
  have had := fun W hW => whole_Add (a.num * b.den) (b.num * a.den) (by omega) (by omega) W hW
  have hm3 := fun W hW => whole_MulD a.den b.den (by omega) (by omega) W hW
  have hlo := fun W hW => lowestD (a.num * b.den + b.num * a.den) (a.den * b.den) (Nat.mul_pos a.den_pos b.den_pos) (Nat.le_trans (nd_add _ _) (by omega)) (Nat.le_trans (nd_mul _ _) (by omega)) W hW
  rw [rat_add] at hlo
  by_cases h1 : ((I a.num).size : Int) ≤ 9 ∧ ((D a.den).size : Int) ≤ 9
  · by_cases h2 : ((I b.num).size : Int) ≤ 9 ∧ ((D b.den).size : Int) ≤ 9
    · have l1 := I_lim9 (show (I a.num).size ≤ 9 by omega)
      have l3 := I_lim9 (show (I b.num).size ≤ 9 by omega)
      have l2 := I_lim9 (n := (a.den : Int)) (by rw [I_nat]; omega)
      have l4 := I_lim9 (n := (b.den : Int)) (by rw [I_nat]; omega)
      have m0 := mul_lim l1 l4
      have m1 := mul_lim l3 l2
      have m2 := mul_lim l2 l4
      refine add_walk1 _ _ _ _ _ _ _ _ hpq (D_is1 _) (D_is1 _) _ _ _ _ m0 m1 m2 (fun W => rat_both a h1.1 h1.2 W) (fun W => rat_both b h2.1 h2.2 W) (fun W hW => ?_) w hS
      have hp : (0 : Int) < (a.den : Int) * (b.den : Int) := Int.mul_pos (by have := a.den_pos; omega) (by have := b.den_pos; omega)
      have h := fraction_of (a.num * b.den + b.num * a.den) ((a.den : Int) * (b.den : Int)) hp (by omega) (by omega) W hW
      rw [← Int.natCast_mul, rat_add] at h
      rw [← Int.natCast_mul]; exact h
    · exact add_walk3 _ _ _ _ _ _ _ _ _ _ _ _ hpq (D_is1 _) (D_is1 _) _ _ hm1 hm2 had hm3 hlo (fun W => rat_both a h1.1 h1.2 W) (fun W => rat_both_no b h2 W) w hS
  · exact add_walk2 _ _ _ _ _ _ _ _ _ _ _ _ hpq (D_is1 _) (D_is1 _) hm1 hm2 had hm3 hlo (fun W => rat_both_no a h1 W) w hS
end Go.Proofs.YtbihoedcbmnccaaGreatDoor
/- fraction: Sign, Floor, Nearest, New, Of. -/
namespace Go.Proofs.YtbihoedcbmnccaaGreatDoor
attribute [local go_sem ↓] Go.wp_at_zero Go.wp_at_succ
open Go.RowKit

theorem box1 (w : World) (s t : ByteArray) : Bo (w.alloc (.cells #[.string s, .string t] 42)) w.heap.size w.heap.size 42 [.string s, .string t] ∧ Below w.heap.size w (w.alloc (.cells #[.string s, .string t] 42)) :=
  ⟨Bo.new w 42 #[.string s, .string t] (by show 2 ≤ maxLen; decide), (Below.refl _ _).alloc (Nat.le_refl _) _⟩
set_option maxHeartbeats 800000 in
theorem fraction_Sign (q : Rat) (w : World) :
    Calls Tryz.prog 73 #[Rv q] w fun e w' => e = .returned (.int .i64 q.num.sign) ∧ Below w.heap.size w w' := by
  unfold Rv
  have HA := Lib.hid (box1 w (I q.num) (D q.den))
  have hs := fun W => whole_Sign q.num W
  generalize I q.num = s at HA hs ⊢
  generalize D q.den = t at HA ⊢
  go_enter Tryz.func73, Tryz.ntmps73
  go_wp2_with fail
  refine (hs _).mono ?_
  rintro e w1 ⟨rfl, hb1⟩
  go_wp2
  go_ret
  exact ⟨rfl, bT HA.out.2 hb1⟩
set_option maxHeartbeats 800000 in
theorem fraction_Floor (q : Rat) (hn : nd q.num ≤ 400000) (hd : Lib.nDigits q.den ≤ 400000) (w : World) (hS : St w) :
    Calls Tryz.prog 95 #[Rv q] w fun e w' => e = .returned (.string (I q.floor)) ∧ Below w.heap.size w w' := by
  unfold Rv
  have HA := Lib.hid (box1 w (I q.num) (D q.den))
  have hs := fun W hW => whole_DivMod q.num q.den (by have := q.den_pos; omega) hn (by rw [nd_nat]; exact hd) W hW
  rw [I_nat, ← Rat.floor_def] at hs
  generalize I q.num = s at HA hs ⊢
  generalize D q.den = t at HA hs ⊢
  go_enter Tryz.func95, Tryz.ntmps95
  go_wp2_with fail
  refine (hs _ (hS.b HA.out.2)).mono ?_
  rintro e w1 ⟨rfl, hb1⟩
  go_wp2
  go_ret
  exact ⟨rfl, bT HA.out.2 hb1⟩
theorem nd_two : Lib.nDigits 2 = 1 := by rw [← D_size]; unfold D; rw [dig_small (by decide)]; rfl
theorem nd_one : Lib.nDigits 1 = 1 := by rw [← D_size, D_one]; rfl
/-- One half. -/
def halfQ : Rat := 1 / 2
theorem halfQ_v : Rv halfQ = V2 ⟨#[49]⟩ ⟨#[50]⟩ := by
  have h : halfQ.num = 1 ∧ halfQ.den = 2 := by decide +kernel
  unfold Rv V2
  rw [h.1, h.2, show I 1 = D 1 from I_nat 1, D_one]
  have : D 2 = ⟨#[50]⟩ := by unfold D; rw [dig_small (by decide)]; rfl
  rw [this]
theorem nd_addQ (a b : Rat) {k : Nat} (ha : nd a.num ≤ k ∧ Lib.nDigits a.den ≤ k) (hb : nd b.num ≤ k ∧ Lib.nDigits b.den ≤ k) : nd (a + b).num ≤ 2 * k + 1 ∧ Lib.nDigits (a + b).den ≤ 2 * k := by
  have hd : (0 : Int) < ((a.den * b.den : Nat) : Int) := by have := Nat.mul_pos a.den_pos b.den_pos; omega
  have e := R_divInt (a.num * b.den + b.num * a.den) _ hd
  rw [rat_add] at e
  unfold R Rv at e
  injection e with e
  have e1 : I ((a.num * b.den + b.num * a.den) / (Int.gcd (a.num * b.den + b.num * a.den) ((a.den * b.den : Nat) : Int) : Int)) = I (a + b).num := by
    have := congrArg (fun x => x[0]!) e
    simpa using this
  have e2 : I (((a.den * b.den : Nat) : Int) / (Int.gcd (a.num * b.den + b.num * a.den) ((a.den * b.den : Nat) : Int) : Int)) = D (a + b).den := by
    have := congrArg (fun x => x[1]!) e
    simpa using this
  rw [← I_nat] at e2
  have f1 := I_inj e1
  have f2 := I_inj e2
  have g1 := nd_div_gcd (a.num * b.den + b.num * a.den) ((a.den * b.den : Nat) : Int)
  have g2 := nd_div_gcd ((a.den * b.den : Nat) : Int) (a.num * b.den + b.num * a.den)
  rw [Int.gcd_comm, f2, nd_nat, nd_nat] at g2
  rw [f1] at g1
  have k1 := nd_mulI a.num (b.den : Int)
  have k2 := nd_mulI b.num (a.den : Int)
  have k3 := nd_mul a.den b.den
  have k4 := nd_add (a.num * b.den) (b.num * a.den)
  rw [nd_nat] at k1 k2
  omega
end Go.Proofs.YtbihoedcbmnccaaGreatDoor
/- fraction: Nearest, New, Of. -/
namespace Go.Proofs.YtbihoedcbmnccaaGreatDoor
attribute [local go_sem ↓] Go.wp_at_zero Go.wp_at_succ
open Go.RowKit

set_option maxHeartbeats 800000 in
theorem fraction_Nearest (q : Rat) (hn : nd q.num ≤ 100000) (hd : Lib.nDigits q.den ≤ 100000) (w : World) (hS : St w) :
    Calls Tryz.prog 37 #[Rv q] w fun e w' => e = .returned (.string (I (q + halfQ).floor)) ∧ Below w.heap.size w w' := by
  have hh : nd halfQ.num ≤ 100000 ∧ Lib.nDigits halfQ.den ≤ 100000 := by
    have h : halfQ.num = 1 ∧ halfQ.den = 2 := by decide +kernel
    rw [h.1, h.2, nd_two]
    have := nd_nat 1; rw [nd_one] at this
    exact ⟨by rw [show (1 : Int) = ((1 : Nat) : Int) from rfl, this]; decide, by decide⟩
  have had := fun W hW => fraction_Add q halfQ ⟨hn, hd⟩ hh W hW
  have hlim := nd_addQ q halfQ ⟨hn, hd⟩ hh
  have hfl := fun W hW => fraction_Floor (q + halfQ) (by omega) (by omega) W hW
  rw [halfQ_v] at had
  unfold Rv at had hfl ⊢
  have HA := Lib.hid (box1 w (I q.num) (D q.den))
  generalize I q.num = s at HA had ⊢
  generalize D q.den = t at HA had ⊢
  clear hlim hh hn hd
  go_enter Tryz.func37, Tryz.ntmps37
  go_wp2_with fail
  refine (had _ (hS.b HA.out.2)).mono ?_
  rintro e w1 ⟨rfl, hb1⟩
  go_wp2_with fail; refine ((hfl _ ((hS.b HA.out.2).b hb1))).mono ?_; rintro e w2 ⟨rfl, hb2⟩
  go_wp2
  go_ret
  exact ⟨rfl, bT HA.out.2 (bT hb1 hb2)⟩
theorem box_ret1 {P : Program} {fn : Func} {R : Ending → World → Prop} {a : Act} {w : World} {p u : Tmp} {ty : TypeId} {B b : Nat} {vs : List Value} {d : TypeDesc} (h : fn.results = #[.cell p ty, .tmp u])
    (hp : a.tmps.getD p undef = .pointer (some ⟨b, 0, none⟩)) (hb : Bo w B b ty vs)
    (hu : P.underlying ty = some d) (hd : (match d with | .struct _ | .array _ _ => true | _ => false) = true) (hi : (P.info? ty).map (·.size) = some vs.length) (hf : a.defers = [])
    (hR : R (.returned (.tuple #[.agg vs.toArray, a.tmps.getD u undef])) w) : bodyPost P fn R .ret a w := by
  refine bodyPost_ret (v := .tuple #[.agg vs.toArray, a.tmps.getD u undef]) ?_ hf hR
  have hl := run_loadVar_row (P := P) w b ty ty vs.toArray _ d hb.heap hu hd (by simpa using hi)
  rw [results_cell_tmp h, hp]
  simp [asAddr, hl]
set_option maxHeartbeats 1600000 in
set_option maxRecDepth 100000 in
/-- New, at a positive denominator. -/
theorem fraction_New (n d : Int) (hd : 0 < d) (hn : nd n ≤ 400000) (hdd : nd d ≤ 400000) (w : World) (hS : St w) :
    Calls Tryz.prog 125 #[.string (I n), .string (I d)] w fun e w' => e = .returned (.tuple #[Rv (Rat.divInt n d), .int .i64 0]) ∧ Below w.heap.size w w' := by
  have hlo := fun W hW => fraction_lowest n d hd hn hdd W hW
  have hsg := fun W => whole_Sign d W
  rw [Int.sign_eq_one_of_pos hd] at hsg
  obtain ⟨q, hq⟩ : ∃ q, Rat.divInt n d = q := ⟨_, rfl⟩
  rw [hq] at hlo ⊢
  clear hq
  unfold Rv at hlo ⊢
  have HA := Lib.hid (box1 w ⟨#[]⟩ ⟨#[]⟩)
  go_enter Tryz.func125, Tryz.ntmps125
  go_wp2_with fail
  generalize w.alloc (.cells #[.string ⟨#[]⟩, .string ⟨#[]⟩] 42) = W at HA ⊢
  refine (hsg _).mono ?_
  rintro e w1 ⟨rfl, hb1⟩
  go_wp2_with fail; refine ((hlo _ ((hS.b HA.out.2).b hb1))).mono ?_; rintro e w2 ⟨rfl, hb2⟩
  have ho := (HA.out.1.below hb1).below hb2
  have c0 := ho.cell 0 (by simp)
  have c1 := ho.cell 1 (by simp)
  have f0 := ho.fz 0
  have f1 := ho.fz 1
  have hlt := ho.lt.2
  have HE := Lib.hid (rat_end q ho (bT HA.out.2 (bT hb1 hb2)))
  clear ho hb1 hb2
  go_wp2
  refine box_ret1 rfl rfl HE.out.1 Tryz.underlying42 rfl sizeRat rfl ?_
  exact ⟨rfl, HE.out.2⟩
end Go.Proofs.YtbihoedcbmnccaaGreatDoor
/- fraction: Of. -/
namespace Go.Proofs.YtbihoedcbmnccaaGreatDoor
open Go.RowKit

set_option maxHeartbeats 1600000 in
set_option maxRecDepth 100000 in
theorem fraction_Of (n d : Int) (hd : 0 < d) (hn : -9223372036854775808 ≤ n ∧ n ≤ 9223372036854775807) (hdd : d ≤ 9223372036854775807) (w : World) (hS : St w) :
    Calls Tryz.prog 109 #[.int .i64 n, .int .i64 d] w fun e w' => e = .returned (.tuple #[Rv (Rat.divInt n d), .int .i64 0]) ∧ Below w.heap.size w w' := by
  have b1 : nd n ≤ 400000 := Nat.le_trans (nDigits_le (k := 20) (by decide) (by omega)) (by decide)
  have b2 : nd d ≤ 400000 := Nat.le_trans (nDigits_le (k := 20) (by decide) (by omega)) (by decide)
  have hnw := fun W hW => fraction_New n d hd b1 b2 W hW
  obtain ⟨q, hq⟩ : ∃ q, Rat.divInt n d = q := ⟨_, rfl⟩
  rw [hq] at hnw ⊢
  clear hq b1 b2
  unfold Rv at hnw ⊢
  have HA := Lib.hid (box1 w ⟨#[]⟩ ⟨#[]⟩)
  go_enter Tryz.func109, Tryz.ntmps109
  go_wp2_with fail
  generalize w.alloc (.cells #[.string ⟨#[]⟩, .string ⟨#[]⟩] 42) = W at HA ⊢
  refine (whole_Of n hn.1 hn.2 _ (hS.b HA.out.2)).mono ?_
  rintro e w1 ⟨rfl, hb1⟩
  go_wp2_with fail; refine ((whole_Of d (by omega) hdd _ ((hS.b HA.out.2).b hb1))).mono ?_; rintro e w2 ⟨rfl, hb2⟩
  go_wp2_with fail; refine ((hnw _ (((hS.b HA.out.2).b hb1).b hb2))).mono ?_; rintro e w3 ⟨rfl, hb3⟩
  have ho := ((HA.out.1.below hb1).below hb2).below hb3
  have c0 := ho.cell 0 (by simp)
  have c1 := ho.cell 1 (by simp)
  have f0 := ho.fz 0
  have f1 := ho.fz 1
  have hlt := ho.lt.2
  have HE := Lib.hid (rat_end q ho (bT HA.out.2 (bT hb1 (bT hb2 hb3))))
  clear ho hb1 hb2 hb3
  go_wp2
  refine box_ret1 rfl rfl HE.out.1 Tryz.underlying42 rfl sizeRat rfl ?_
  exact ⟨rfl, HE.out.2⟩
end Go.Proofs.YtbihoedcbmnccaaGreatDoor
/- fraction: Compare, Min, Max. -/
namespace Go.Proofs.YtbihoedcbmnccaaGreatDoor
attribute [local go_sem ↓] Go.wp_at_zero Go.wp_at_succ
open Go.RowKit

/-- What holds at each world of a walk that began at w: its two blocks, the library's variables, what lay before. -/
structure K2 (w W : World) (s t s' t' : ByteArray) : Prop where
  one : Bo W w.heap.size w.heap.size 42 [.string s, .string t]
  two : Bo W w.heap.size (w.heap.size + 1) 42 [.string s', .string t']
  s0 : St w
  be : Below w.heap.size w W
theorem K2.st {w W : World} {s t s' t' : ByteArray} (h : K2 w W s t s' t') : St W := h.s0.b h.be
theorem K2.below {w W V : World} {s t s' t' : ByteArray} (h : K2 w W s t s' t') (hb : Below W.heap.size W V) : K2 w V s t s' t' := ⟨h.one.below hb, h.two.below hb, h.s0, bT h.be hb⟩
theorem K2.new (w : World) (hS : St w) (s t s' t' : ByteArray) : K2 w ((w.alloc (.cells #[.string s, .string t] 42)).alloc (.cells #[.string s', .string t'] 42)) s t s' t' := by
  have a1 := Bo.new w 42 #[.string s, .string t] (by show 2 ≤ maxLen; decide)
  have b1 : Below w.heap.size w (w.alloc (.cells #[.string s, .string t] 42)) := (Below.refl _ _).alloc (Nat.le_refl _) _
  have e1 : (w.alloc (.cells #[.string s, .string t] 42)).heap.size = w.heap.size + 1 := by simp
  generalize w.alloc (.cells #[.string s, .string t] 42) = W at a1 b1 e1 ⊢
  have a2 := Bo.new W 42 #[.string s', .string t'] (by show 2 ≤ maxLen; decide)
  have b2 : Below W.heap.size W (W.alloc (.cells #[.string s', .string t'] 42)) := (Below.refl _ _).alloc (Nat.le_refl _) _
  rw [e1] at a2
  exact ⟨a1.below b2, a2.mono (by omega), hS, bT b1 b2⟩
theorem K2.all {w W : World} {s t s' t' : ByteArray} (h : K2 w W s t s' t') : K2 w W s t s' t' ∧ W.cell? ⟨w.heap.size, 0, none⟩ = some (.string s) ∧ W.cell? ⟨w.heap.size, 1, none⟩ = some (.string t) ∧ W.cell? ⟨w.heap.size + 1, 0, none⟩ = some (.string s') ∧ W.cell? ⟨w.heap.size + 1, 1, none⟩ = some (.string t') :=
  ⟨h, h.one.cell 0 (by simp), h.one.cell 1 (by simp), h.two.cell 0 (by simp), h.two.cell 1 (by simp)⟩
set_option maxHeartbeats 1600000 in
set_option maxRecDepth 100000 in
theorem cmp_walk1 (s t s' t' : ByteArray) (n d m e c : Int) (hc : (n * e < m * d ∧ c = -1) ∨ (n * e = m * d ∧ c = 0) ∨ (m * d < n * e ∧ c = 1)) (h0 : -1000000000000000000 ≤ n * e ∧ n * e ≤ 1000000000000000000) (h1 : -1000000000000000000 ≤ m * d ∧ m * d ≤ 1000000000000000000)
    (ha : ∀ W, Calls Tryz.prog 85 #[V2 s t] W fun e' w' => e' = .returned (.tuple #[.int .i64 n, .int .i64 d, .bool true]) ∧ Below W.heap.size W w')
    (hb : ∀ W, Calls Tryz.prog 85 #[V2 s' t'] W fun e' w' => e' = .returned (.tuple #[.int .i64 m, .int .i64 e, .bool true]) ∧ Below W.heap.size W w') (w : World) (hS : St w) :
    Calls Tryz.prog 34 #[V2 s t, V2 s' t'] w fun e w' => e = .returned (.int .i64 c) ∧ Below w.heap.size w w' := by
  have HK := Lib.hid (K2.new w hS s t s' t')
  obtain ⟨x, hx⟩ : ∃ x, n * e = x := ⟨_, rfl⟩
  obtain ⟨y, hy⟩ : ∃ y, m * d = y := ⟨_, rfl⟩
  rw [hx] at hc h0
  rw [hy] at hc h1
  rcases hc with ⟨hl, rfl⟩ | ⟨hl, rfl⟩ | ⟨hl, rfl⟩
  all_goals
    have H1 := Lib.hid hl
    first
      | have h2 : x < y := hl
      | (have h2 : ¬ x < y := by omega
         have h3 : y < x := hl)
      | (have h2 : ¬ x < y := by omega
         have h3 : ¬ y < x := by omega)
    clear hl
    go_enter Tryz.func34, Tryz.ntmps34
    go_wp2_with fail
    generalize (w.alloc (.cells #[.string s, .string t] 42)).alloc (.cells #[.string s', .string t'] 42) = W at HK ⊢
    refine (ha _).mono ?_
    rintro e w1 ⟨rfl, hb1⟩
    have HK1 := Lib.hid (HK.out.below hb1)
    have d0 := HK1.out.two.cell 0 (by simp)
    have d1 := HK1.out.two.cell 1 (by simp)
    clear hb1
    go_wp2_with fail
    refine (hb _).mono ?_
    rintro e w2 ⟨rfl, hb2⟩
    have HK2 := Lib.hid (HK1.out.below hb2)
    clear hb2 d0 d1
    go_wp2
    go_ret
    exact ⟨rfl, HK2.out.be⟩
/-- What both says of two fractions, when it is not yes of both. -/
def NotBoth (s t s' t' : ByteArray) : Prop :=
  (∀ W, Calls Tryz.prog 85 #[V2 s t] W fun e' w' => ∃ x x', e' = .returned (.tuple #[.int .i64 x, .int .i64 x', .bool false]) ∧ Below W.heap.size W w') ∨
  ∃ n d : Int, (∀ W, Calls Tryz.prog 85 #[V2 s t] W fun e' w' => e' = .returned (.tuple #[.int .i64 n, .int .i64 d, .bool true]) ∧ Below W.heap.size W w') ∧ (∀ W, Calls Tryz.prog 85 #[V2 s' t'] W fun e' w' => ∃ x x', e' = .returned (.tuple #[.int .i64 x, .int .i64 x', .bool false]) ∧ Below W.heap.size W w')
set_option maxHeartbeats 3200000 in
set_option maxRecDepth 100000 in
theorem cmp_walk2 (s t s' t' : ByteArray) (c : Int) (hq : (t.toList == t'.toList) = true) (hnb : NotBoth s t s' t')
    (hcm : ∀ W, Calls Tryz.prog 86 #[.string s, .string s'] W fun e' w' => e' = .returned (.int .i64 c) ∧ Below W.heap.size W w') (w : World) (hS : St w) :
    Calls Tryz.prog 34 #[V2 s t, V2 s' t'] w fun e w' => e = .returned (.int .i64 c) ∧ Below w.heap.size w w' := by
  have HK := Lib.hid (K2.new w hS s t s' t')
  rcases hnb with hn | ⟨n, d, ha, hn⟩
  · go_enter Tryz.func34, Tryz.ntmps34
    go_wp2_with fail
    generalize (w.alloc (.cells #[.string s, .string t] 42)).alloc (.cells #[.string s', .string t'] 42) = W at HK ⊢
    refine (hn _).mono ?_
    rintro e w1 ⟨x0, x1, rfl, hb1⟩
    have HK1 := Lib.hid (HK.out.below hb1)
    obtain ⟨_, a0, a1, d0, d1⟩ := HK1.out.all
    clear hb1
    go_wp2_with fail; refine ((hcm _)).mono ?_; rintro e w2 ⟨rfl, hb2⟩
    go_wp2
    go_ret
    exact ⟨rfl, bT HK1.out.be hb2⟩
  · go_enter Tryz.func34, Tryz.ntmps34
    go_wp2_with fail
    generalize (w.alloc (.cells #[.string s, .string t] 42)).alloc (.cells #[.string s', .string t'] 42) = W at HK ⊢
    refine (ha _).mono ?_
    rintro e w0 ⟨rfl, hb0⟩
    have HK0 := Lib.hid (HK.out.below hb0)
    obtain ⟨_, a0, a1, d0, d1⟩ := HK0.out.all
    clear hb0
    go_wp2_with fail
    refine (hn _).mono ?_
    rintro e w1 ⟨x0, x1, rfl, hb1⟩
    have HK1 := Lib.hid (HK0.out.below hb1)
    clear a0 a1 d0 d1
    obtain ⟨_, a0, a1, d0, d1⟩ := HK1.out.all
    clear hb1
    go_wp2_with fail; refine ((hcm _)).mono ?_; rintro e w2 ⟨rfl, hb2⟩
    go_wp2
    go_ret
    exact ⟨rfl, bT HK1.out.be hb2⟩
set_option maxHeartbeats 3200000 in
set_option maxRecDepth 100000 in
theorem cmp_walk3 (s t s' t' y z : ByteArray) (c : Int) (hq : (t.toList == t'.toList) = false) (hnb : NotBoth s t s' t')
    (hm1 : ∀ W, St W → Calls Tryz.prog 87 #[.string s, .string t'] W fun e' w' => e' = .returned (.string y) ∧ Below W.heap.size W w')
    (hm2 : ∀ W, St W → Calls Tryz.prog 87 #[.string s', .string t] W fun e' w' => e' = .returned (.string z) ∧ Below W.heap.size W w')
    (hcm : ∀ W, Calls Tryz.prog 86 #[.string y, .string z] W fun e' w' => e' = .returned (.int .i64 c) ∧ Below W.heap.size W w') (w : World) (hS : St w) :
    Calls Tryz.prog 34 #[V2 s t, V2 s' t'] w fun e w' => e = .returned (.int .i64 c) ∧ Below w.heap.size w w' := by
  have HK := Lib.hid (K2.new w hS s t s' t')
  rcases hnb with hn | ⟨n, d, ha, hn⟩
  · go_enter Tryz.func34, Tryz.ntmps34
    go_wp2_with fail
    generalize (w.alloc (.cells #[.string s, .string t] 42)).alloc (.cells #[.string s', .string t'] 42) = W at HK ⊢
    refine (hn _).mono ?_
    rintro e w1 ⟨x0, x1, rfl, hb1⟩
    have hK := K2.all (HK.out.below (bT hb1 (Below.refl _ _).drew))
    obtain ⟨_, a0, a1, d0, d1⟩ := (HK.out.below hb1).all
    clear hb1
    go_wp2_with fail
    go_region_held3 (fun V => K2 w V s t s' t' ∧ V.cell? ⟨w.heap.size, 0, none⟩ = some (.string s) ∧ V.cell? ⟨w.heap.size, 1, none⟩ = some (.string t) ∧ V.cell? ⟨w.heap.size + 1, 0, none⟩ = some (.string s') ∧ V.cell? ⟨w.heap.size + 1, 1, none⟩ = some (.string t'))
      (first | assumption | exact K2.all (K2.below (And.left (by assumption)) hbx))
      (first
      | (go_at_call 87; with_reducible refine Calls.mono (hm1 _ (K2.st (And.left (by assumption)))) ?_; rintro e w' ⟨rfl, hbx⟩)
      | (go_at_call 87; with_reducible refine Calls.mono (hm2 _ (K2.st (And.left (by assumption)))) ?_; rintro e w' ⟨rfl, hbx⟩)
      | (go_at_call 86; with_reducible refine Calls.mono (hcm _) ?_; rintro e w' ⟨rfl, hbx⟩; have HE := Lib.hid (K2.below (And.left (by assumption)) hbx)))
    all_goals (go_wp2; go_ret; exact ⟨rfl, HE.out.be⟩)
  · go_enter Tryz.func34, Tryz.ntmps34
    go_wp2_with fail
    generalize (w.alloc (.cells #[.string s, .string t] 42)).alloc (.cells #[.string s', .string t'] 42) = W at HK ⊢
    refine (ha _).mono ?_
    rintro e w0 ⟨rfl, hb0⟩
    have HK0 := Lib.hid (HK.out.below hb0)
    obtain ⟨_, a0, a1, d0, d1⟩ := HK0.out.all
    clear hb0
    go_wp2_with fail
    refine (hn _).mono ?_
    rintro e w1 ⟨x0, x1, rfl, hb1⟩
    clear a0 a1 d0 d1
    have hK := K2.all (HK0.out.below (bT hb1 (Below.refl _ _).drew))
    obtain ⟨_, a0, a1, d0, d1⟩ := (HK0.out.below hb1).all
    clear hb1
    go_wp2_with fail
    go_region_held3 (fun V => K2 w V s t s' t' ∧ V.cell? ⟨w.heap.size, 0, none⟩ = some (.string s) ∧ V.cell? ⟨w.heap.size, 1, none⟩ = some (.string t) ∧ V.cell? ⟨w.heap.size + 1, 0, none⟩ = some (.string s') ∧ V.cell? ⟨w.heap.size + 1, 1, none⟩ = some (.string t'))
      (first | assumption | exact K2.all (K2.below (And.left (by assumption)) hbx))
      (first
      | (go_at_call 87; with_reducible refine Calls.mono (hm1 _ (K2.st (And.left (by assumption)))) ?_; rintro e w' ⟨rfl, hbx⟩)
      | (go_at_call 87; with_reducible refine Calls.mono (hm2 _ (K2.st (And.left (by assumption)))) ?_; rintro e w' ⟨rfl, hbx⟩)
      | (go_at_call 86; with_reducible refine Calls.mono (hcm _) ?_; rintro e w' ⟨rfl, hbx⟩; have HE := Lib.hid (K2.below (And.left (by assumption)) hbx)))
    all_goals (go_wp2; go_ret; exact ⟨rfl, HE.out.be⟩)
/-- The order of two rational numbers as -1, 0, 1. -/
def cmpQ (a b : Rat) : Int := cmpI (a.num * b.den) (b.num * a.den)
theorem notBoth (a b : Rat) (h : ¬ ((((I a.num).size : Int) ≤ 9 ∧ ((D a.den).size : Int) ≤ 9) ∧ (((I b.num).size : Int) ≤ 9 ∧ ((D b.den).size : Int) ≤ 9))) : NotBoth (I a.num) (D a.den) (I b.num) (D b.den) := by
  by_cases h1 : ((I a.num).size : Int) ≤ 9 ∧ ((D a.den).size : Int) ≤ 9
  · exact .inr ⟨_, _, fun W => rat_both a h1.1 h1.2 W, fun W => rat_both_no b (fun h2 => h ⟨h1, h2⟩) W⟩
  · exact .inl fun W => rat_both_no a h1 W
theorem fraction_Compare (a b : Rat) (ha : nd a.num ≤ 100000 ∧ Lib.nDigits a.den ≤ 100000) (hb : nd b.num ≤ 100000 ∧ Lib.nDigits b.den ≤ 100000) (w : World) (hS : St w) :
    Calls Tryz.prog 34 #[Rv a, Rv b] w fun e w' => e = .returned (.int .i64 (cmpQ a b)) ∧ Below w.heap.size w w' := by
  by_cases h : (((I a.num).size : Int) ≤ 9 ∧ ((D a.den).size : Int) ≤ 9) ∧ (((I b.num).size : Int) ≤ 9 ∧ ((D b.den).size : Int) ≤ 9)
  · have l1 := I_lim9 (show (I a.num).size ≤ 9 by omega)
    have l3 := I_lim9 (show (I b.num).size ≤ 9 by omega)
    have l2 := I_lim9 (n := (a.den : Int)) (by rw [I_nat]; omega)
    have l4 := I_lim9 (n := (b.den : Int)) (by rw [I_nat]; omega)
    exact cmp_walk1 _ _ _ _ _ _ _ _ _ (cmpI_cases _ _) (mul_lim l1 l4) (mul_lim l3 l2) (fun W => rat_both a h.1.1 h.1.2 W) (fun W => rat_both b h.2.1 h.2.2 W) w hS
  have hnb := notBoth a b h
  by_cases hd : a.den = b.den
  · have e : cmpQ a b = cmpI a.num b.num := by
      have hp : (0 : Int) < (b.den : Int) := by have := b.den_pos; omega
      unfold cmpQ; rw [hd]
      rcases cmpI_cases a.num b.num with ⟨h1, h2⟩ | ⟨h1, h2⟩ | ⟨h1, h2⟩
      · rw [h2]; unfold cmpI; rw [if_pos (Int.mul_lt_mul_of_pos_right h1 hp)]
      · rw [h2, h1]; unfold cmpI; rw [if_neg (by omega), if_neg (by omega)]
      · rw [h2]; have h3 := Int.mul_lt_mul_of_pos_right h1 hp
        unfold cmpI; rw [if_neg (by omega), if_pos h3]
    rw [e]
    exact cmp_walk2 _ _ _ _ _ (by rw [list_D]; exact decide_eq_true hd) hnb (fun W => whole_Compare _ _ (by omega) (by omega) W) w hS
  · have k1 := nd_mulI a.num (b.den : Int)
    have k2 := nd_mulI b.num (a.den : Int)
    rw [nd_nat] at k1 k2
    exact cmp_walk3 _ _ _ _ _ _ _ (by rw [list_D]; exact decide_eq_false hd) hnb (fun W hW => whole_MulID _ _ (by omega) (by omega) W hW) (fun W hW => whole_MulID _ _ (by omega) (by omega) W hW) (fun W => whole_Compare _ _ (by omega) (by omega) W) w hS
end Go.Proofs.YtbihoedcbmnccaaGreatDoor
/- Plain: the binary logarithm of a power, by squaring between bounds. -/
namespace Go.Proofs.YtbihoedcbmnccaaGreatDoor
/-- The power whose logarithm is looked for. -/
def tw (p j : Nat) : Nat := p ^ (2 ^ j)
theorem tw_succ {p j : Nat} : tw p (j + 1) = tw p j * tw p j := by
  unfold tw; rw [Nat.pow_succ 2 j, Nat.pow_mul, Nat.pow_two]
theorem tw_zero {p : Nat} : tw p 0 = p := by simp [tw]
theorem tw_pos {p j : Nat} (hp : 0 < p) : 0 < tw p j := Nat.pow_pos hp
/-- The greatest whole number that is at most 2 ^ j times the binary logarithm. -/
def lowN (p j : Nat) : Nat := (tw p j).log2
theorem lowN_le {p j : Nat} (hp : 0 < p) : 2 ^ lowN p j ≤ tw p j := Nat.log2_self_le (by have := tw_pos (j := j) hp; omega)
theorem lowN_lt {p j : Nat} : tw p j < 2 ^ (lowN p j + 1) := Nat.lt_log2_self
theorem lowN_uniq {p j n : Nat} (hp : 0 < p) (h1 : 2 ^ n ≤ tw p j) (h2 : tw p j < 2 ^ (n + 1)) : lowN p j = n := by
  have h0 : tw p j ≠ 0 := by have := tw_pos (j := j) hp; omega
  have a := (Nat.le_log2 h0).2 h1
  have b := (Nat.log2_lt h0).2 h2
  unfold lowN; omega
theorem lowN_up {p j : Nat} (hp : 0 < p) (h : 2 ^ (2 * lowN p j + 1) ≤ tw p (j + 1)) : lowN p (j + 1) = 2 * lowN p j + 1 := by
  refine lowN_uniq hp h ?_
  have h1 := lowN_lt (p := p) (j := j)
  rw [tw_succ, show 2 * lowN p j + 1 + 1 = (lowN p j + 1) + (lowN p j + 1) by omega, Nat.pow_add]
  exact Nat.mul_lt_mul_of_lt_of_lt h1 h1
theorem lowN_same {p j : Nat} (hp : 0 < p) (h : tw p (j + 1) < 2 ^ (2 * lowN p j + 1)) : lowN p (j + 1) = 2 * lowN p j := by
  refine lowN_uniq hp ?_ h
  have h1 := lowN_le (p := p) (j := j) hp
  rw [tw_succ, show 2 * lowN p j = lowN p j + lowN p j by omega, Nat.pow_add]
  exact Nat.mul_le_mul h1 h1
theorem lowN_succ {p j : Nat} (hp : 0 < p) : lowN p (j + 1) = 2 * lowN p j ∨ lowN p (j + 1) = 2 * lowN p j + 1 := by
  rcases Nat.lt_or_ge (tw p (j + 1)) (2 ^ (2 * lowN p j + 1)) with h | h
  · exact .inl (lowN_same hp h)
  · exact .inr (lowN_up hp h)
theorem lowN_zero {p : Nat} : lowN p 0 = p.log2 := by unfold lowN; rw [tw_zero]
theorem lowN_shift {p b m : Nat} (hp : 0 < p) : lowN p (b + m) / 2 ^ m = lowN p b := by
  induction m with
  | zero => simp
  | succ m ih =>
    rw [Nat.pow_succ', ← Nat.div_div_eq_div_mul, ← Nat.add_assoc]
    have : lowN p (b + m + 1) / 2 = lowN p (b + m) := by rcases lowN_succ (p := p) (j := b + m) hp with h | h <;> omega
    rw [this, ih]
theorem lowN_two {j : Nat} : lowN 2 j = 2 ^ j := by
  refine lowN_uniq (by omega) (Nat.le_refl _) ?_
  unfold tw; exact Nat.pow_lt_pow_right (by omega) (by omega)

/-- The power keeps away from a power of 2. -/
def margin (p j : Nat) : Prop := (2 ^ 50 + 1) * 2 ^ (2 * lowN p j + 1) ≤ tw p (j + 1) * 2 ^ 50 ∨ tw p (j + 1) * (2 ^ 50 + 1) ≤ 2 ^ 50 * 2 ^ (2 * lowN p j + 1)

def runM (P : Nat) : Nat → Nat → Nat → Bool
  | 0, _, _ => true
  | _ + 1, 0, _ => false
  | _ + 1, _ + 1, 0 => false
  | f + 1, l + 1, h + 1 =>
    if (2 ^ 50 + 1) * 2 ^ (2 * P + 1) ≤ (l + 1) * (l + 1) * 2 ^ 50 then runM P f ((l + 1) * (l + 1) / 2 ^ P / 2) ((h + 1) * (h + 1) / 2 ^ P / 2 + 1)
    else if (h + 1) * (h + 1) * (2 ^ 50 + 1) ≤ 2 ^ 50 * 2 ^ (2 * P + 1) then runM P f ((l + 1) * (l + 1) / 2 ^ P) ((h + 1) * (h + 1) / 2 ^ P + 1)
    else false

/-- The enclosure of a power: lo and hi are its mantissa's ends, to P places. -/
structure Enc (p P j lo hi : Nat) : Prop where
  ge : lo * 2 ^ lowN p j ≤ tw p j * 2 ^ P
  le : tw p j * 2 ^ P ≤ hi * 2 ^ lowN p j
/-- Squares. -/
theorem Enc.sq {p P j lo hi : Nat} (h : Enc p P j lo hi) : lo * lo * 2 ^ (2 * lowN p j) ≤ tw p (j + 1) * 2 ^ (2 * P) ∧ tw p (j + 1) * 2 ^ (2 * P) ≤ hi * hi * 2 ^ (2 * lowN p j) := by
  have e1 : ∀ x n : Nat, x * x * 2 ^ (2 * n) = (x * 2 ^ n) * (x * 2 ^ n) := by
    intro x n; rw [show 2 * n = n + n by omega, Nat.pow_add]; ac_rfl
  rw [tw_succ, e1, e1, e1]
  exact ⟨Nat.mul_le_mul h.ge h.ge, Nat.mul_le_mul h.le h.le⟩
theorem floor_le (A P : Nat) : A / 2 ^ P * 2 ^ P ≤ A := Nat.div_mul_le_self ..
theorem lt_floor (A P : Nat) : A < (A / 2 ^ P + 1) * 2 ^ P := by
  have := Nat.lt_mul_div_succ A (b := 2 ^ P) (Nat.two_pow_pos P)
  rw [Nat.mul_comm]; exact this
/-- Where the digit is 0. -/
theorem Enc.same {p P j lo hi : Nat} (h : Enc p P j lo hi) (hn : lowN p (j + 1) = 2 * lowN p j) : Enc p P (j + 1) (lo * lo / 2 ^ P) (hi * hi / 2 ^ P + 1) := by
  obtain ⟨h1, h2⟩ := h.sq
  have hP : 0 < 2 ^ P := Nat.two_pow_pos P
  rw [show 2 * P = P + P by omega, Nat.pow_add, ← Nat.mul_assoc] at h1 h2
  refine ⟨?_, ?_⟩
  · rw [hn]; refine Nat.le_of_mul_le_mul_right (c := 2 ^ P) ?_ hP
    refine Nat.le_trans ?_ h1
    rw [Nat.mul_right_comm]; exact Nat.mul_le_mul_right _ (floor_le ..)
  · rw [hn]; refine Nat.le_of_mul_le_mul_right (c := 2 ^ P) ?_ hP
    refine Nat.le_trans h2 ?_
    rw [Nat.mul_right_comm _ (2 ^ (2 * lowN p j))]; exact Nat.mul_le_mul_right _ (Nat.le_of_lt (lt_floor ..))
/-- Where the digit is 1. -/
theorem Enc.up {p P j lo hi : Nat} (h : Enc p P j lo hi) (hn : lowN p (j + 1) = 2 * lowN p j + 1) : Enc p P (j + 1) (lo * lo / 2 ^ P / 2) ((hi * hi / 2 ^ P + 1) / 2 + 1) ∧ Enc p P (j + 1) (lo * lo / 2 ^ P / 2) (hi * hi / 2 ^ P / 2 + 1) := by
  obtain ⟨h1, h2⟩ := h.sq
  have hP : 0 < 2 ^ P := Nat.two_pow_pos P
  rw [show 2 * P = P + P by omega, Nat.pow_add, ← Nat.mul_assoc] at h1 h2
  have g : lo * lo / 2 ^ P / 2 * 2 ^ lowN p (j + 1) ≤ tw p (j + 1) * 2 ^ P := by
    refine Nat.le_of_mul_le_mul_right (c := 2 ^ P) ?_ hP
    refine Nat.le_trans ?_ h1
    rw [hn, Nat.pow_succ', ← Nat.mul_assoc, Nat.mul_right_comm]; refine Nat.mul_le_mul_right _ ?_
    refine Nat.le_trans (Nat.mul_le_mul_right _ (Nat.div_mul_le_self _ 2)) (floor_le ..)
  have k : tw p (j + 1) * 2 ^ P ≤ (hi * hi / 2 ^ P / 2 + 1) * 2 ^ lowN p (j + 1) := by
    refine Nat.le_of_mul_le_mul_right (c := 2 ^ P) ?_ hP
    refine Nat.le_trans h2 ?_
    rw [hn, Nat.pow_succ', ← Nat.mul_assoc, Nat.mul_right_comm _ (2 ^ (2 * lowN p j))]; refine Nat.mul_le_mul_right _ ?_
    refine Nat.le_trans (Nat.le_of_lt (lt_floor (hi * hi) P)) (Nat.mul_le_mul_right _ (by omega))
  exact ⟨⟨g, Nat.le_trans k (Nat.mul_le_mul_right _ (by omega))⟩, g, k⟩
theorem Enc.first {p P : Nat} (hk : p.log2 ≤ P) : Enc p P 0 (p * 2 ^ (P - p.log2)) (p * 2 ^ (P - p.log2)) := by
  have : p * 2 ^ (P - p.log2) * 2 ^ lowN p 0 = tw p 0 * 2 ^ P := by
    rw [lowN_zero, tw_zero, Nat.mul_assoc, ← Nat.pow_add]; congr 2; omega
  exact ⟨Nat.le_of_eq this, Nat.le_of_eq this.symm⟩
theorem runM_margin {p P : Nat} (hp : 0 < p) : ∀ (f j lo hi : Nat), Enc p P j lo hi → runM P f lo hi = true → ∀ i, i < f → margin p (j + i) := by
  intro f
  induction f with
  | zero => intro j lo hi _ _ i h; omega
  | succ f ih =>
    intro j lo hi he hr i hi'
    have hP : 0 < 2 ^ (2 * P) := Nat.two_pow_pos _
    obtain ⟨s1, s2⟩ := he.sq
    match lo, hi, he, hr with
    | 0, _, _, hr => simp [runM] at hr
    | _ + 1, 0, _, hr => simp [runM] at hr
    | l + 1, h + 1, he, hr =>
      rw [runM] at hr
      by_cases c : (2 ^ 50 + 1) * 2 ^ (2 * P + 1) ≤ (l + 1) * (l + 1) * 2 ^ 50
      · rw [if_pos c] at hr
        have m : (2 ^ 50 + 1) * 2 ^ (2 * lowN p j + 1) ≤ tw p (j + 1) * 2 ^ 50 := by
          refine Nat.le_of_mul_le_mul_right (c := 2 ^ (2 * P)) ?_ hP
          have h3 := Nat.mul_le_mul_right (2 ^ 50) s1
          have h4 := Nat.mul_le_mul_right (2 ^ (2 * lowN p j)) c
          rw [Nat.pow_succ 2 (2 * P)] at h4; rw [Nat.pow_succ 2 (2 * lowN p j)]
          generalize 2 ^ (2 * P) = u at *; generalize 2 ^ (2 * lowN p j) = v at *; generalize tw p (j + 1) = t at *
          generalize (l + 1) * (l + 1) = w at *
          have e1 : (2 ^ 50 + 1) * (u * 2) * v = (2 ^ 50 + 1) * (v * 2) * u := by ac_rfl
          have e2 : w * 2 ^ 50 * v = w * v * 2 ^ 50 := by ac_rfl
          have e3 : t * u * 2 ^ 50 = t * 2 ^ 50 * u := by ac_rfl
          rw [e1, e2] at h4; rw [e3] at h3; exact Nat.le_trans h4 h3
        have hn : lowN p (j + 1) = 2 * lowN p j + 1 := lowN_up hp (by omega)
        cases i with
        | zero => exact .inl m
        | succ i => have := ih (j + 1) _ _ (he.up hn).2 hr i (by omega); rwa [show j + 1 + i = j + (i + 1) by omega] at this
      · rw [if_neg c] at hr
        by_cases d : (h + 1) * (h + 1) * (2 ^ 50 + 1) ≤ 2 ^ 50 * 2 ^ (2 * P + 1)
        · rw [if_pos d] at hr
          have m : tw p (j + 1) * (2 ^ 50 + 1) ≤ 2 ^ 50 * 2 ^ (2 * lowN p j + 1) := by
            refine Nat.le_of_mul_le_mul_right (c := 2 ^ (2 * P)) ?_ hP
            have h3 := Nat.mul_le_mul_right (2 ^ 50 + 1) s2
            have h4 := Nat.mul_le_mul_right (2 ^ (2 * lowN p j)) d
            rw [Nat.pow_succ 2 (2 * P)] at h4; rw [Nat.pow_succ 2 (2 * lowN p j)]
            generalize 2 ^ (2 * P) = u at *; generalize 2 ^ (2 * lowN p j) = v at *; generalize tw p (j + 1) = t at *
            generalize (h + 1) * (h + 1) = w at *
            have e1 : 2 ^ 50 * (u * 2) * v = 2 ^ 50 * (v * 2) * u := by ac_rfl
            have e2 : w * (2 ^ 50 + 1) * v = w * v * (2 ^ 50 + 1) := by ac_rfl
            have e3 : t * u * (2 ^ 50 + 1) = t * (2 ^ 50 + 1) * u := by ac_rfl
            rw [e1, e2] at h4; rw [e3] at h3; exact Nat.le_trans h3 h4
          have hn : lowN p (j + 1) = 2 * lowN p j := lowN_same hp (by
            have := Nat.two_pow_pos (2 * lowN p j + 1); omega)
          cases i with
          | zero => exact .inr m
          | succ i => have := ih (j + 1) _ _ (he.same hn) hr i (by omega); rwa [show j + 1 + i = j + (i + 1) by omega] at this
        · rw [if_neg d] at hr; exact absurd hr (by simp)

/-- One rounding makes the ratio of the ends at most (X + 3) / X as great. -/
theorem wid_round {X Z c B A U V b a : Nat} (hX : 3 ≤ X) (hZ : Z + 1 = X) (hc : 0 < c) (h : B * U ≤ A * V) (hb : b * c ≤ B * (X + 1)) (ha : A * Z ≤ a * c) : b * (U * X) ≤ a * (V * (X + 3)) := by
  refine Nat.le_of_mul_le_mul_right (c := c) ?_ hc
  have q : (X + 1) * X ≤ Z * (X + 3) := by
    subst hZ
    have e1 : (Z + 1 + 1) * (Z + 1) = Z * Z + 3 * Z + 2 := by simp only [Nat.add_mul, Nat.mul_add]; omega
    have e2 : Z * (Z + 1 + 3) = Z * Z + 4 * Z := by simp only [Nat.mul_add]; omega
    omega
  calc b * (U * X) * c = (b * c) * (U * X) := by ac_rfl
    _ ≤ (B * (X + 1)) * (U * X) := Nat.mul_le_mul_right _ hb
    _ = (B * U) * ((X + 1) * X) := by ac_rfl
    _ ≤ (A * V) * (Z * (X + 3)) := Nat.mul_le_mul h q
    _ = (A * Z) * (V * (X + 3)) := by ac_rfl
    _ ≤ (a * c) * (V * (X + 3)) := Nat.mul_le_mul_right _ ha
    _ = a * (V * (X + 3)) * c := by ac_rfl
/-- The errors' weight after j squares. -/
def wei (j : Nat) : Nat := 2 ^ (j + 1) - 2
theorem wei_succ {j : Nat} : wei (j + 1) = wei j + wei j + 1 + 1 := by
  unfold wei; have : 2 ≤ 2 ^ (j + 1) := by rw [Nat.pow_succ]; have := Nat.two_pow_pos j; omega
  rw [Nat.pow_succ 2 (j + 1)]; omega
theorem bern {X : Nat} : ∀ E, 3 * E ≤ X → (X + 3) ^ E * (X - 3 * E) ≤ X ^ E * X
  | 0, _ => by simp
  | E + 1, h => by
    have ih := bern (X := X) E (by omega)
    obtain ⟨y, rfl⟩ : ∃ y, X = y + 3 * (E + 1) := ⟨X - 3 * (E + 1), by omega⟩
    rw [show y + 3 * (E + 1) - 3 * E = y + 3 by omega] at ih
    rw [Nat.add_sub_cancel, Nat.pow_succ, Nat.pow_succ]
    generalize hX : y + 3 * (E + 1) = X at *
    have q : (X + 3) * y ≤ (y + 3) * X := by
      rw [Nat.add_mul, Nat.add_mul, Nat.mul_comm X y]; exact Nat.add_le_add_left (Nat.mul_le_mul_left _ (by omega)) _
    calc (X + 3) ^ E * (X + 3) * y = (X + 3) ^ E * ((X + 3) * y) := by ac_rfl
      _ ≤ (X + 3) ^ E * ((y + 3) * X) := Nat.mul_le_mul_left _ q
      _ = ((X + 3) ^ E * (y + 3)) * X := by ac_rfl
      _ ≤ (X ^ E * X) * X := Nat.mul_le_mul_right _ ih
/-- The state of the squares: the enclosure, between 1 and 2, and how narrow it is. -/
structure Mant (p P j lo hi : Nat) : Prop where
  enc : Enc p P j lo hi
  one : 2 ^ P ≤ lo
  two : lo < 2 ^ (P + 1)
  ord : lo ≤ hi
  wid : hi * (2 ^ P) ^ wei j ≤ lo * (2 ^ P + 3) ^ wei j
theorem Mant.first {p P : Nat} (hp : 0 < p) (hk : p.log2 ≤ P) : Mant p P 0 (p * 2 ^ (P - p.log2)) (p * 2 ^ (P - p.log2)) := by
  refine ⟨Enc.first hk, ?_, ?_, Nat.le_refl _, by simp [wei]⟩
  · have := Nat.mul_le_mul_right (2 ^ (P - p.log2)) (Nat.log2_self_le (n := p) (by omega))
    rwa [← Nat.pow_add, show p.log2 + (P - p.log2) = P by omega] at this
  · have := Nat.mul_lt_mul_of_pos_right (Nat.lt_log2_self (n := p)) (Nat.two_pow_pos (P - p.log2))
    rwa [← Nat.pow_add, show p.log2 + 1 + (P - p.log2) = P + 1 by omega] at this
/-- The ends are near one another. -/
theorem Mant.near {p P j lo hi : Nat} (h : Mant p P j lo hi) (hj : j + 64 ≤ P) : hi * (2 ^ 61 - 1) ≤ lo * 2 ^ 61 := by
  obtain ⟨d, rfl⟩ : ∃ d, P = j + 64 + d := ⟨P - (j + 64), by omega⟩
  have hw := h.wid
  have hX : 2 ^ (j + 64 + d) = 2 ^ 61 * (2 ^ (j + 3) * 2 ^ d) := by rw [← Nat.pow_add, ← Nat.pow_add]; congr 1; omega
  have hE : 3 * wei j ≤ 2 ^ (j + 3) * 2 ^ d := by
    have h1 : 3 * wei j ≤ 2 ^ (j + 3) := by unfold wei; rw [show j + 3 = (j + 1) + 2 by omega, Nat.pow_add 2 (j + 1) 2]; omega
    exact Nat.le_trans h1 (Nat.le_mul_of_pos_right _ (Nat.two_pow_pos d))
  have h0 : 0 < 2 ^ (j + 3) * 2 ^ d := Nat.mul_pos (Nat.two_pow_pos _) (Nat.two_pow_pos d)
  generalize 2 ^ (j + 3) * 2 ^ d = Y at *
  generalize hE2 : wei j = E at *
  generalize 2 ^ (j + 64 + d) = X at *
  have b := bern (X := X) E (by omega)
  have hXp : 0 < X ^ E := by
    rcases Nat.eq_zero_or_pos X with h0 | h0
    · have : E = 0 := by omega
      subst this; simp
    · exact Nat.pow_pos h0
  have h1 : hi * (X - 3 * E) ≤ lo * X := by
    refine Nat.le_of_mul_le_mul_right (c := X ^ E) ?_ hXp
    calc hi * (X - 3 * E) * X ^ E = hi * X ^ E * (X - 3 * E) := by ac_rfl
      _ ≤ lo * (X + 3) ^ E * (X - 3 * E) := Nat.mul_le_mul_right _ hw
      _ = lo * ((X + 3) ^ E * (X - 3 * E)) := by ac_rfl
      _ ≤ lo * (X ^ E * X) := Nat.mul_le_mul_left _ b
      _ = lo * X * X ^ E := by ac_rfl
  refine Nat.le_of_mul_le_mul_right (c := Y) ?_ h0
  have h2 : hi * ((2 ^ 61 - 1) * Y) ≤ hi * (X - 3 * E) := Nat.mul_le_mul_left _ (by omega)
  rw [hX, show lo * (2 ^ 61 * Y) = lo * 2 ^ 61 * Y by ac_rfl] at h1
  rw [Nat.mul_assoc]
  exact Nat.le_trans h2 (hX ▸ h1)
/-- One square: the next digit is certain. -/
theorem Mant.step {p P j lo hi : Nat} (hp : 0 < p) (h : Mant p P j lo hi) (hm : margin p j) (hj : j + 64 ≤ P) :
    (lowN p (j + 1) = 2 * lowN p j + 1 ∧ 2 ^ (P + 1) ≤ lo * lo / 2 ^ P ∧ 2 ^ (P + 1) ≤ hi * hi / 2 ^ P + 1 ∧ Mant p P (j + 1) (lo * lo / 2 ^ P / 2) ((hi * hi / 2 ^ P + 1) / 2 + 1)) ∨
    (lowN p (j + 1) = 2 * lowN p j ∧ lo * lo / 2 ^ P < 2 ^ (P + 1) ∧ hi * hi / 2 ^ P + 1 < 2 ^ (P + 1) ∧ Mant p P (j + 1) (lo * lo / 2 ^ P) (hi * hi / 2 ^ P + 1)) := by
  have near := h.near hj
  obtain ⟨s1, s2⟩ := h.enc.sq
  have hX0 : 2 ^ 64 ≤ 2 ^ P := Nat.pow_le_pow_right (by omega) (by omega)
  have sqn : hi * hi * ((2 ^ 61 - 1) * (2 ^ 61 - 1)) ≤ lo * lo * (2 ^ 61 * 2 ^ 61) := by
    have := Nat.mul_le_mul near near
    calc _ = hi * (2 ^ 61 - 1) * (hi * (2 ^ 61 - 1)) := by ac_rfl
      _ ≤ lo * 2 ^ 61 * (lo * 2 ^ 61) := this
      _ = _ := by ac_rfl
  have A1 : 2 ^ P * 2 ^ P ≤ lo * lo := Nat.mul_le_mul h.one h.one
  have A2 : lo * lo ≤ hi * hi := Nat.mul_le_mul h.ord h.ord
  have A3 : lo * lo < 2 ^ (P + 1) * 2 ^ (P + 1) := Nat.mul_lt_mul_of_lt_of_lt h.two h.two
  have B1 := floor_le (lo * lo) P
  have B2 := lt_floor (lo * lo) P
  have C1 := floor_le (hi * hi) P
  have C2 := lt_floor (hi * hi) P
  have hab : lo * lo / 2 ^ P ≤ hi * hi / 2 ^ P := Nat.div_le_div_right A2
  have wid2 : hi * hi * ((2 ^ P) ^ wei j * (2 ^ P) ^ wei j) ≤ lo * lo * ((2 ^ P + 3) ^ wei j * (2 ^ P + 3) ^ wei j) := by
    have := Nat.mul_le_mul h.wid h.wid
    calc _ = hi * (2 ^ P) ^ wei j * (hi * (2 ^ P) ^ wei j) := by ac_rfl
      _ ≤ _ := this
      _ = _ := by ac_rfl
  have hXX : 2 ^ 64 * 2 ^ P ≤ 2 ^ P * 2 ^ P := Nat.mul_le_mul_right _ hX0
  have a1 : 2 ^ P ≤ lo * lo / 2 ^ P := (Nat.le_div_iff_mul_le (Nat.two_pow_pos P)).2 A1
  obtain ⟨Z, hZ⟩ : ∃ Z, Z + 1 = 2 ^ P := ⟨2 ^ P - 1, by omega⟩
  -- the first rounding
  have w1 : (hi * hi / 2 ^ P + 1) * ((2 ^ P) ^ wei j * (2 ^ P) ^ wei j * 2 ^ P) ≤ lo * lo / 2 ^ P * ((2 ^ P + 3) ^ wei j * (2 ^ P + 3) ^ wei j * (2 ^ P + 3)) := by
    refine wid_round (Z := Z) (c := 2 ^ P * 2 ^ P) (by omega) hZ (Nat.mul_pos (Nat.two_pow_pos P) (Nat.two_pow_pos P)) wid2 ?_ ?_
    · generalize 2 ^ P = X at *; generalize hi * hi = B at *; generalize lo * lo = A at *
      generalize B / X = b at *
      have : (b + 1) * X ≤ B + X := by rw [Nat.add_mul, Nat.one_mul]; omega
      calc (b + 1) * (X * X) = (b + 1) * X * X := by ac_rfl
        _ ≤ (B + X) * X := Nat.mul_le_mul_right _ this
        _ = B * X + X * X := by rw [Nat.add_mul]
        _ ≤ B * X + B * 1 := by omega
        _ = B * (X + 1) := by rw [Nat.mul_add]
    · generalize 2 ^ P = X at *; generalize lo * lo = A at *
      generalize A / X = a at *
      rw [Nat.add_mul, Nat.one_mul] at B2
      have h1 := Nat.mul_le_mul_right X (Nat.le_of_lt B2)
      rw [Nat.add_mul] at h1
      have h2 : A * X = A * Z + A := by rw [← hZ, Nat.mul_add, Nat.mul_one]
      rw [show a * (X * X) = a * X * X by ac_rfl]
      omega
  by_cases c : 2 ^ (P + 1) ≤ lo * lo / 2 ^ P
  · left
    have hn : lowN p (j + 1) = 2 * lowN p j + 1 := by
      refine lowN_up hp ?_
      have c1 : 2 ^ (P + 1) * 2 ^ P ≤ lo * lo := Nat.le_trans (Nat.mul_le_mul_right _ c) B1
      refine Nat.le_of_mul_le_mul_right (c := 2 ^ (2 * P)) ?_ (Nat.two_pow_pos _)
      refine Nat.le_trans ?_ s1
      rw [show 2 ^ (2 * lowN p j + 1) * 2 ^ (2 * P) = 2 ^ (P + 1) * 2 ^ P * 2 ^ (2 * lowN p j) by rw [← Nat.pow_add, ← Nat.pow_add, ← Nat.pow_add]; congr 1; omega]
      exact Nat.mul_le_mul_right _ c1
    refine ⟨hn, c, by omega, (h.enc.up hn).1, ?_, ?_, ?_, ?_⟩
    · rw [Nat.pow_succ] at c; omega
    · have : lo * lo / 2 ^ P < 2 ^ (P + 1) * 2 := by
        refine Nat.div_lt_of_lt_mul ?_
        rw [show 2 ^ P * (2 ^ (P + 1) * 2) = 2 ^ (P + 1) * 2 ^ (P + 1) by rw [← Nat.pow_succ, ← Nat.pow_add, ← Nat.pow_add]; congr 1; omega]
        exact A3
      omega
    · omega
    · rw [wei_succ, Nat.pow_succ, Nat.pow_succ, Nat.pow_add, Nat.pow_succ, Nat.pow_succ, Nat.pow_add]
      refine wid_round (Z := Z) (c := 2 * 2 ^ P) (by omega) hZ (by omega) w1 ?_ ?_
      · rw [Nat.pow_succ] at c
        generalize 2 ^ P = X at *; generalize hi * hi / X = b at *; generalize lo * lo / X = a at *
        have : ((b + 1) / 2 + 1) * 2 ≤ b + 1 + 2 := by omega
        calc ((b + 1) / 2 + 1) * (2 * X) = ((b + 1) / 2 + 1) * 2 * X := by ac_rfl
          _ ≤ (b + 1 + 2) * X := Nat.mul_le_mul_right _ this
          _ = (b + 1) * X + 2 * X := by rw [Nat.add_mul _ 2]
          _ ≤ (b + 1) * X + (b + 1) * 1 := by omega
          _ = (b + 1) * (X + 1) := by rw [Nat.mul_add]
      · generalize lo * lo / 2 ^ P = a at *
        generalize 2 ^ P = X at *
        have h1 : a ≤ a / 2 * 2 + 1 := by omega
        have h2 := Nat.mul_le_mul_right X h1
        rw [Nat.add_mul, Nat.one_mul] at h2
        have h3 : a * X = a * Z + a := by rw [← hZ, Nat.mul_add, Nat.mul_one]
        rw [show a / 2 * (2 * X) = a / 2 * 2 * X by ac_rfl]
        omega
  · right
    have c' : lo * lo / 2 ^ P < 2 ^ (P + 1) := by omega
    have c1 : lo * lo < 2 ^ (P + 1) * 2 ^ P := by
      refine Nat.lt_of_lt_of_le B2 (Nat.mul_le_mul_right _ c')
    rw [Nat.pow_succ] at c1
    have d : hi * hi / 2 ^ P + 1 < 2 ^ (P + 1) := by
      rcases Nat.lt_or_ge (hi * hi / 2 ^ P + 1) (2 ^ (P + 1)) with d | d
      · exact d
      exfalso
      have d1 : 2 ^ (P + 1) * 2 ^ P ≤ hi * hi + 2 ^ P := by
        refine Nat.le_trans (Nat.mul_le_mul_right _ d) ?_
        rw [Nat.add_mul, Nat.one_mul]; omega
      rw [Nat.pow_succ] at d1
      have t1 : ∀ V : Nat, 2 ^ (2 * lowN p j + 1) = 2 * 2 ^ (2 * lowN p j) := fun _ => by rw [Nat.pow_succ, Nat.mul_comm]
      have t2 : 2 ^ (2 * P) = 2 ^ P * 2 ^ P := by rw [← Nat.pow_add]; congr 1; omega
      rw [t2] at s1 s2
      have hV := Nat.two_pow_pos (2 * lowN p j)
      unfold margin at hm
      rw [t1 0] at hm
      generalize 2 ^ (2 * lowN p j) = V at *
      generalize tw p (j + 1) = t at *
      have e5 : 2 ^ P * 2 * 2 ^ P = 2 * (2 ^ P * 2 ^ P) := by ac_rfl
      rw [e5] at c1 d1
      clear w1 wid2 hab C1 C2 B1 B2 a1 near e5
      generalize 2 ^ P * 2 ^ P = S at *
      generalize hi * hi = B at *
      generalize lo * lo = A at *
      generalize 2 ^ P = X at *
      rcases hm with hm | hm
      · -- t S ≤ B V and (K + 1) 2 V ≤ t K
        have k1 := Nat.mul_le_mul_right S hm
        have k2 := Nat.mul_le_mul_right (2 ^ 50) s2
        have k3 : (2 ^ 50 + 1) * (2 * S) * V ≤ B * 2 ^ 50 * V := by
          calc _ = (2 ^ 50 + 1) * (2 * V) * S := by ac_rfl
            _ ≤ t * 2 ^ 50 * S := k1
            _ = t * S * 2 ^ 50 := by ac_rfl
            _ ≤ B * V * 2 ^ 50 := k2
            _ = _ := by ac_rfl
        have k4 := Nat.le_of_mul_le_mul_right k3 hV
        omega
      · have k1 := Nat.mul_le_mul_right S hm
        have k2 := Nat.mul_le_mul_right (2 ^ 50 + 1) s1
        have k3 : A * (2 ^ 50 + 1) * V ≤ 2 ^ 50 * (2 * S) * V := by
          calc _ = A * V * (2 ^ 50 + 1) := by ac_rfl
            _ ≤ t * S * (2 ^ 50 + 1) := k2
            _ = t * (2 ^ 50 + 1) * S := by ac_rfl
            _ ≤ 2 ^ 50 * (2 * V) * S := k1
            _ = _ := by ac_rfl
        have k4 := Nat.le_of_mul_le_mul_right k3 hV
        omega
    have hn : lowN p (j + 1) = 2 * lowN p j := by
      refine lowN_same hp ?_
      have d1 : hi * hi < 2 ^ (P + 1) * 2 ^ P := Nat.lt_of_lt_of_le C2 (Nat.mul_le_mul_right _ (by omega))
      refine Nat.lt_of_mul_lt_mul_right (a := 2 ^ (2 * P)) ?_
      refine Nat.lt_of_le_of_lt s2 ?_
      rw [show 2 ^ (2 * lowN p j + 1) * 2 ^ (2 * P) = 2 ^ (P + 1) * 2 ^ P * 2 ^ (2 * lowN p j) by rw [← Nat.pow_add, ← Nat.pow_add, ← Nat.pow_add]; congr 1; omega]
      exact Nat.mul_lt_mul_of_pos_right d1 (Nat.two_pow_pos _)
    refine ⟨hn, c', d, h.enc.same hn, a1, c', by omega, ?_⟩
    rw [wei_succ, Nat.pow_succ, Nat.pow_succ, Nat.pow_add, Nat.pow_succ, Nat.pow_succ, Nat.pow_add]
    generalize (2 ^ P + 3) ^ wei j * (2 ^ P + 3) ^ wei j = V at *
    generalize (2 ^ P) ^ wei j * (2 ^ P) ^ wei j = U at *
    rw [← Nat.mul_assoc _ (U * 2 ^ P), ← Nat.mul_assoc _ (V * (2 ^ P + 3))]
    exact Nat.mul_le_mul w1 (by omega)
theorem Mant.top {p P j lo hi : Nat} (h : Mant p P j lo hi) (hj : j + 64 ≤ P) : hi < 2 ^ (P + 2) := by
  have := h.near hj; have h2 := h.two
  rw [Nat.pow_succ] at h2 ⊢
  rw [Nat.pow_succ]; omega
end Go.Proofs.YtbihoedcbmnccaaGreatDoor
/- Plain: the powers of the odd primes keep away from the powers of 2. -/
namespace Go.Proofs.YtbihoedcbmnccaaGreatDoor
def odd24 : List Nat := [3, 5, 7, 11, 13, 17, 19, 23, 29, 31, 37, 41, 43, 47, 53, 59, 61, 67, 71, 73, 79, 83, 89, 97]
theorem runs : odd24.all (fun p => runM 2200 2100 (p * 2 ^ (2200 - p.log2)) (p * 2 ^ (2200 - p.log2))) = true := by decide +kernel
theorem margins {p j : Nat} (hp : p ∈ odd24) (hj : j < 2100) : margin p j := by
  have h := List.all_eq_true.1 runs p hp
  have h0 : 0 < p ∧ p.log2 ≤ 2200 := by
    have : odd24.all (fun p => decide (0 < p ∧ p.log2 ≤ 2200)) = true := by decide +kernel
    simpa using List.all_eq_true.1 this p hp
  have := runM_margin h0.1 2100 0 _ _ (Enc.first h0.2) h j hj
  rwa [Nat.zero_add] at this
end Go.Proofs.YtbihoedcbmnccaaGreatDoor
