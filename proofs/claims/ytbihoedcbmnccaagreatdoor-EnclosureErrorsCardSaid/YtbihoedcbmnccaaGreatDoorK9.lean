/- enclosure: bit. -/
import Derived.Test.YtbihoedcbmnccaaGreatDoorK8
import Derived.Test.YtbihoedcbmnccaaGreatDoorK7
import Derived.Deep.RegionHeld3
import Derived.Deep.DrawnRows
namespace Go.Proofs.YtbihoedcbmnccaaGreatDoor
open Go.RowKit
attribute [local go_sem ↓] Go.wp_at_zero Go.wp_at_succ

theorem square_at (P g cap : Nat) (zl : List Nat) (W : World) (hl : Lim w64 zl) (hn : zl.length = P / 64 + 2) (hr : Rd W g 0 zl) (hP : P ≤ 1000000) :
    Calls Tryz.prog 189 #[sv g zl.length cap] W fun e w' =>
      ∃ g' cap' zs, e = .returned (sv g' zs.length cap') ∧ Ow w' W.heap.size (sv g' zs.length cap') zs ∧ Lim w64 zs ∧ zs.length = 2 * (P / 64) + 5 ∧ val w64 zs = val w64 zl * val w64 zl ∧ Below W.heap.size W w' :=
  (square_any g 0 cap zl W hl hr (by omega)).mono fun e w' ⟨cap', zs, h1, h2, h3, h4, h5, h6⟩ => ⟨_, cap', zs, h1, h2, h3, by omega, h5, h6⟩
theorem shift_at (P g cap : Nat) (zl : List Nat) (W : World) (hl : Lim w64 zl) (hn : zl.length = 2 * (P / 64) + 5) (hr : Rd W g 0 zl) (hP : P ≤ 1000000) :
    Calls Tryz.prog 190 #[sv g zl.length cap, .int .i64 (P : Int)] W fun e w' =>
      ∃ g' cap' zs, e = .returned (sv g' zs.length cap') ∧ Ow w' W.heap.size (sv g' zs.length cap') zs ∧ Lim w64 zs ∧ zs.length = P / 64 + 5 ∧ val w64 zs = val w64 zl / 2 ^ P ∧ Below W.heap.size W w' := by
  have := shift_any g 0 cap zl (P / 64) (P % 64) W hl hr (by omega) (Nat.mod_lt _ (by decide)) (by omega)
  rw [Nat.div_add_mod] at this
  exact this.mono fun e w' ⟨cap', zs, h1, h2, h3, h4, h5, h6⟩ => ⟨_, cap', zs, h1, h2, h3, by omega, h5, h6⟩
theorem shift_one (g cap : Nat) (zl : List Nat) (W : World) (hl : Lim w64 zl) (hr : Rd W g 0 zl) (hn : zl.length ≤ 100000000) :
    Calls Tryz.prog 190 #[sv g zl.length cap, .int .i64 1] W fun e w' =>
      ∃ g' cap' zs, e = .returned (sv g' zs.length cap') ∧ Ow w' W.heap.size (sv g' zs.length cap') zs ∧ Lim w64 zs ∧ zs.length = zl.length ∧ val w64 zs = val w64 zl / 2 ∧ Below W.heap.size W w' := by
  have := shift_any g 0 cap zl 0 1 W hl hr hn (by decide) (by decide)
  exact this.mono fun e w' ⟨cap', zs, h1, h2, h3, h4, h5, h6⟩ => ⟨_, cap', zs, h1, h2, h3, by omega, h5, h6⟩
theorem next_at (g cap : Nat) (zl : List Nat) (W : World) (hl : Lim w64 zl) (hn : zl.length ≤ 100000000) (h0 : 0 < zl.length) (hr : Rd W g 0 zl) :
    Calls Tryz.prog 191 #[sv g zl.length cap] W fun e w' =>
      ∃ g' cap' zs, e = .returned (sv g' zs.length cap') ∧ Ow w' W.heap.size (sv g' zs.length cap') zs ∧ Lim w64 zs ∧ zs.length = zl.length + 1 ∧ val w64 zs = val w64 zl + 1 ∧ Below W.heap.size W w' :=
  next_any g 0 cap zl W hl hr h0 hn
theorem reaches_at (P g cap : Nat) (zl : List Nat) (W : World) (hl : Lim w64 zl) (hn : zl.length ≤ 100000000) (hr : Rd W g 0 zl) (hP : P ≤ 1000000) :
    Calls Tryz.prog 192 #[sv g zl.length cap, .int .i64 ((P : Int) + 1)] W fun e w' =>
      e = .returned (.bool (decide (2 ^ (P + 1) ≤ val w64 zl))) ∧ Below W.heap.size W w' := by
  have := reaches_any g 0 cap zl ((P + 1) / 64) ((P + 1) % 64) W hl hr hn (Nat.mod_lt _ (by decide)) (by omega)
  rw [Nat.div_add_mod] at this
  exact this
theorem Rd.b {w w' : World} {g o : Nat} {xs : List Nat} (h : Rd w g o xs) (hb : Below w.heap.size w w') : Rd w' g o xs := h.grown (gOfB hb none) (by simp)
theorem Ow.rd' {w : World} {B g cap : Nat} {xs : List Nat} (h : Ow w B (sv g xs.length cap) xs) : Rd w g 0 xs := ⟨h.rd.1, h.rd.2⟩

/-- What the walk knows of the mantissa's block and rows in a world. -/
structure KB (w : World) (B b P gl capl : Nat) (zl : List Nat) (gh caph : Nat) (zh : List Nat) : Prop where
  bo : Bo w B b 227 [sv gl zl.length capl, sv gh zh.length caph, .int .i64 (P : Int)]
  rl : Rd w gl 0 zl
  rh : Rd w gh 0 zh
theorem KB.below {w w' : World} {B b P gl capl : Nat} {zl : List Nat} {gh caph : Nat} {zh : List Nat} (h : KB w B b P gl capl zl gh caph zh) (hb : Below w.heap.size w w') : KB w' B b P gl capl zl gh caph zh :=
  ⟨h.bo.below hb, h.rl.b hb, h.rh.b hb⟩
theorem KB.cells {w : World} {B b P gl capl : Nat} {zl : List Nat} {gh caph : Nat} {zh : List Nat} (h : KB w B b P gl capl zl gh caph zh) :
    w.cell? ⟨b, 0, none⟩ = some (sv gl zl.length capl) ∧ w.cell? ⟨b, 1, none⟩ = some (sv gh zh.length caph) ∧ w.cell? ⟨b, 2, none⟩ = some (.int .i64 (P : Int)) ∧ w.frozen? ⟨b, 0, none⟩ = false ∧ w.frozen? ⟨b, 1, none⟩ = false ∧ b < w.heap.size :=
  ⟨h.bo.cell 0 (by simp), h.bo.cell 1 (by simp), h.bo.cell 2 (by simp), h.bo.fz 0, h.bo.fz 1, h.bo.lt.2⟩

theorem bo_two {w : World} {B b : Nat} {ty : TypeId} {x y z : Value} (h : Bo w B b ty [x, y, z]) (u v : Value) :
    (w.setCell ⟨b, 0, none⟩ u).cell? ⟨b, 1, none⟩ = some y ∧ (w.setCell ⟨b, 0, none⟩ u).cell? ⟨b, 2, none⟩ = some z ∧ (w.setCell ⟨b, 0, none⟩ u).frozen? ⟨b, 1, none⟩ = false ∧ b < (w.setCell ⟨b, 0, none⟩ u).heap.size ∧
    ((w.setCell ⟨b, 0, none⟩ u).setCell ⟨b, 1, none⟩ v).cell? ⟨b, 2, none⟩ = some z ∧ Hid (Bo ((w.setCell ⟨b, 0, none⟩ u).setCell ⟨b, 1, none⟩ v) B b ty [u, v, z]) ∧ Hid (w.grownBy ((w.setCell ⟨b, 0, none⟩ u).setCell ⟨b, 1, none⟩ v) (some b)) := by
  have h1 := h.put 0 u
  have h2 := h1.put 1 v
  exact ⟨h1.cell 1 (by simp), h1.cell 2 (by simp), h1.fz 1, h1.lt.2, h2.cell 2 (by simp), h2, gtrans (h.putg 0 u) (h1.putg 1 v)⟩

/-- The frame between the regions: only the pointer and the results stand fast. -/
def Fr (b : Nat) (a' : Act) : Prop := ∃ f : Nat → Value, a' = { tmps := #[.pointer (some ⟨b, 0, none⟩), f 1, .bool false, .bool false, f 4, f 5, f 6, f 7, f 8, f 9, f 10, f 11, f 12, f 13, f 14, f 15, f 16, f 17, f 18, f 19, f 20, f 21, f 22, f 23, f 24, f 25, f 26, f 27, f 28, f 29, f 30, f 31, f 32, f 33, f 34, f 35, f 36, f 37, f 38, f 39, f 40, f 41, f 42, f 43, f 44, f 45, f 46, f 47, f 48, f 49, f 50, f 51, f 52, f 53, f 54, f 55, f 56, f 57, f 58, f 59, f 60, f 61, f 62, f 63, f 64, f 65, f 66, f 67, f 68, f 69, f 70, f 71, f 72, f 73, f 74, f 75, f 76, f 77, f 78, f 79, f 80, f 81, f 82, f 83, f 84, f 85, f 86, f 87, f 88, f 89, f 90, f 91, f 92, f 93, f 94, f 95, f 96, f 97, f 98, f 99, f 100, f 101, f 102, f 103, f 104, f 105, f 106, f 107, f 108, f 109, f 110, f 111], defers := [] }
theorem Fr.of {b : Nat} {a' : Act} (h : a' = { tmps := #[.pointer (some ⟨b, 0, none⟩), a'.tmps.getD 1 undef, .bool false, .bool false, a'.tmps.getD 4 undef, a'.tmps.getD 5 undef, a'.tmps.getD 6 undef, a'.tmps.getD 7 undef, a'.tmps.getD 8 undef, a'.tmps.getD 9 undef, a'.tmps.getD 10 undef, a'.tmps.getD 11 undef, a'.tmps.getD 12 undef, a'.tmps.getD 13 undef, a'.tmps.getD 14 undef, a'.tmps.getD 15 undef, a'.tmps.getD 16 undef, a'.tmps.getD 17 undef, a'.tmps.getD 18 undef, a'.tmps.getD 19 undef, a'.tmps.getD 20 undef, a'.tmps.getD 21 undef, a'.tmps.getD 22 undef, a'.tmps.getD 23 undef, a'.tmps.getD 24 undef, a'.tmps.getD 25 undef, a'.tmps.getD 26 undef, a'.tmps.getD 27 undef, a'.tmps.getD 28 undef, a'.tmps.getD 29 undef, a'.tmps.getD 30 undef, a'.tmps.getD 31 undef, a'.tmps.getD 32 undef, a'.tmps.getD 33 undef, a'.tmps.getD 34 undef, a'.tmps.getD 35 undef, a'.tmps.getD 36 undef, a'.tmps.getD 37 undef, a'.tmps.getD 38 undef, a'.tmps.getD 39 undef, a'.tmps.getD 40 undef, a'.tmps.getD 41 undef, a'.tmps.getD 42 undef, a'.tmps.getD 43 undef, a'.tmps.getD 44 undef, a'.tmps.getD 45 undef, a'.tmps.getD 46 undef, a'.tmps.getD 47 undef, a'.tmps.getD 48 undef, a'.tmps.getD 49 undef, a'.tmps.getD 50 undef, a'.tmps.getD 51 undef, a'.tmps.getD 52 undef, a'.tmps.getD 53 undef, a'.tmps.getD 54 undef, a'.tmps.getD 55 undef, a'.tmps.getD 56 undef, a'.tmps.getD 57 undef, a'.tmps.getD 58 undef, a'.tmps.getD 59 undef, a'.tmps.getD 60 undef, a'.tmps.getD 61 undef, a'.tmps.getD 62 undef, a'.tmps.getD 63 undef, a'.tmps.getD 64 undef, a'.tmps.getD 65 undef, a'.tmps.getD 66 undef, a'.tmps.getD 67 undef, a'.tmps.getD 68 undef, a'.tmps.getD 69 undef, a'.tmps.getD 70 undef, a'.tmps.getD 71 undef, a'.tmps.getD 72 undef, a'.tmps.getD 73 undef, a'.tmps.getD 74 undef, a'.tmps.getD 75 undef, a'.tmps.getD 76 undef, a'.tmps.getD 77 undef, a'.tmps.getD 78 undef, a'.tmps.getD 79 undef, a'.tmps.getD 80 undef, a'.tmps.getD 81 undef, a'.tmps.getD 82 undef, a'.tmps.getD 83 undef, a'.tmps.getD 84 undef, a'.tmps.getD 85 undef, a'.tmps.getD 86 undef, a'.tmps.getD 87 undef, a'.tmps.getD 88 undef, a'.tmps.getD 89 undef, a'.tmps.getD 90 undef, a'.tmps.getD 91 undef, a'.tmps.getD 92 undef, a'.tmps.getD 93 undef, a'.tmps.getD 94 undef, a'.tmps.getD 95 undef, a'.tmps.getD 96 undef, a'.tmps.getD 97 undef, a'.tmps.getD 98 undef, a'.tmps.getD 99 undef, a'.tmps.getD 100 undef, a'.tmps.getD 101 undef, a'.tmps.getD 102 undef, a'.tmps.getD 103 undef, a'.tmps.getD 104 undef, a'.tmps.getD 105 undef, a'.tmps.getD 106 undef, a'.tmps.getD 107 undef, a'.tmps.getD 108 undef, a'.tmps.getD 109 undef, a'.tmps.getD 110 undef, a'.tmps.getD 111 undef], defers := [] }) : Fr b a' := ⟨fun i => a'.tmps.getD i undef, h⟩
/-- Between the first two regions. -/
def Mid1 (B b P : Nat) (lv hv : Nat) (w : World) (a' : Act) (W : World) : Prop :=
  Fr b a' ∧ ∃ g1 c1 z1 g2 c2 z2, Hid (KB W B b P g1 c1 z1 g2 c2 z2) ∧ Hid (Lim w64 z1 ∧ Lim w64 z2 ∧ z1.length = P / 64 + 5 ∧ z2.length = P / 64 + 6 ∧ val w64 z1 = lv ∧ val w64 z2 = hv ∧ g1 ≠ b ∧ g2 ≠ b ∧ z1.length ≤ c1 ∧ z2.length ≤ c2 ∧ w.heap.size ≤ g1 ∧ w.heap.size ≤ g2) ∧ Hid (w.grownBy W (some b))
/-- The frame behind the halving. -/
def Fr2 (b : Nat) (a' : Act) : Prop := ∃ f : Nat → Value, a' = { tmps := #[.pointer (some ⟨b, 0, none⟩), f 1, .bool false, .bool false, .bool true, f 5, f 6, f 7, f 8, f 9, f 10, f 11, f 12, f 13, f 14, f 15, f 16, f 17, f 18, f 19, f 20, f 21, f 22, f 23, f 24, f 25, f 26, f 27, f 28, f 29, f 30, f 31, f 32, f 33, f 34, f 35, f 36, f 37, f 38, f 39, f 40, f 41, f 42, f 43, f 44, f 45, f 46, f 47, f 48, f 49, f 50, f 51, f 52, f 53, f 54, f 55, f 56, f 57, f 58, f 59, f 60, f 61, f 62, f 63, f 64, f 65, f 66, f 67, f 68, f 69, f 70, f 71, f 72, f 73, f 74, f 75, f 76, f 77, f 78, f 79, f 80, f 81, f 82, f 83, f 84, f 85, f 86, f 87, f 88, f 89, f 90, f 91, f 92, f 93, f 94, f 95, f 96, f 97, f 98, f 99, f 100, f 101, f 102, f 103, f 104, f 105, f 106, f 107, f 108, f 109, f 110, f 111], defers := [] }
theorem Fr2.of {b : Nat} {a' : Act} (h : a' = { tmps := #[.pointer (some ⟨b, 0, none⟩), a'.tmps.getD 1 undef, .bool false, .bool false, .bool true, a'.tmps.getD 5 undef, a'.tmps.getD 6 undef, a'.tmps.getD 7 undef, a'.tmps.getD 8 undef, a'.tmps.getD 9 undef, a'.tmps.getD 10 undef, a'.tmps.getD 11 undef, a'.tmps.getD 12 undef, a'.tmps.getD 13 undef, a'.tmps.getD 14 undef, a'.tmps.getD 15 undef, a'.tmps.getD 16 undef, a'.tmps.getD 17 undef, a'.tmps.getD 18 undef, a'.tmps.getD 19 undef, a'.tmps.getD 20 undef, a'.tmps.getD 21 undef, a'.tmps.getD 22 undef, a'.tmps.getD 23 undef, a'.tmps.getD 24 undef, a'.tmps.getD 25 undef, a'.tmps.getD 26 undef, a'.tmps.getD 27 undef, a'.tmps.getD 28 undef, a'.tmps.getD 29 undef, a'.tmps.getD 30 undef, a'.tmps.getD 31 undef, a'.tmps.getD 32 undef, a'.tmps.getD 33 undef, a'.tmps.getD 34 undef, a'.tmps.getD 35 undef, a'.tmps.getD 36 undef, a'.tmps.getD 37 undef, a'.tmps.getD 38 undef, a'.tmps.getD 39 undef, a'.tmps.getD 40 undef, a'.tmps.getD 41 undef, a'.tmps.getD 42 undef, a'.tmps.getD 43 undef, a'.tmps.getD 44 undef, a'.tmps.getD 45 undef, a'.tmps.getD 46 undef, a'.tmps.getD 47 undef, a'.tmps.getD 48 undef, a'.tmps.getD 49 undef, a'.tmps.getD 50 undef, a'.tmps.getD 51 undef, a'.tmps.getD 52 undef, a'.tmps.getD 53 undef, a'.tmps.getD 54 undef, a'.tmps.getD 55 undef, a'.tmps.getD 56 undef, a'.tmps.getD 57 undef, a'.tmps.getD 58 undef, a'.tmps.getD 59 undef, a'.tmps.getD 60 undef, a'.tmps.getD 61 undef, a'.tmps.getD 62 undef, a'.tmps.getD 63 undef, a'.tmps.getD 64 undef, a'.tmps.getD 65 undef, a'.tmps.getD 66 undef, a'.tmps.getD 67 undef, a'.tmps.getD 68 undef, a'.tmps.getD 69 undef, a'.tmps.getD 70 undef, a'.tmps.getD 71 undef, a'.tmps.getD 72 undef, a'.tmps.getD 73 undef, a'.tmps.getD 74 undef, a'.tmps.getD 75 undef, a'.tmps.getD 76 undef, a'.tmps.getD 77 undef, a'.tmps.getD 78 undef, a'.tmps.getD 79 undef, a'.tmps.getD 80 undef, a'.tmps.getD 81 undef, a'.tmps.getD 82 undef, a'.tmps.getD 83 undef, a'.tmps.getD 84 undef, a'.tmps.getD 85 undef, a'.tmps.getD 86 undef, a'.tmps.getD 87 undef, a'.tmps.getD 88 undef, a'.tmps.getD 89 undef, a'.tmps.getD 90 undef, a'.tmps.getD 91 undef, a'.tmps.getD 92 undef, a'.tmps.getD 93 undef, a'.tmps.getD 94 undef, a'.tmps.getD 95 undef, a'.tmps.getD 96 undef, a'.tmps.getD 97 undef, a'.tmps.getD 98 undef, a'.tmps.getD 99 undef, a'.tmps.getD 100 undef, a'.tmps.getD 101 undef, a'.tmps.getD 102 undef, a'.tmps.getD 103 undef, a'.tmps.getD 104 undef, a'.tmps.getD 105 undef, a'.tmps.getD 106 undef, a'.tmps.getD 107 undef, a'.tmps.getD 108 undef, a'.tmps.getD 109 undef, a'.tmps.getD 110 undef, a'.tmps.getD 111 undef], defers := [] }) : Fr2 b a' := ⟨fun i => a'.tmps.getD i undef, h⟩
/-- Behind the halving. -/
def Mid2 (B b P : Nat) (lv hv : Nat) (w : World) (a' : Act) (W : World) : Prop :=
  Fr2 b a' ∧ ∃ g1 c1 z1 g2 c2 z2, Hid (KB W B b P g1 c1 z1 g2 c2 z2) ∧ Hid (Lim w64 z1 ∧ Lim w64 z2 ∧ z1.length = P / 64 + 5 ∧ z2.length = P / 64 + 7 ∧ val w64 z1 = lv ∧ val w64 z2 = hv ∧ g1 ≠ b ∧ g2 ≠ b ∧ z1.length ≤ c1 ∧ z2.length ≤ c2 ∧ w.heap.size ≤ g1 ∧ w.heap.size ≤ g2) ∧ Hid (w.grownBy W (some b))
theorem val_take_fit {l : List Nat} {k : Nat} (hl : Lim w64 l) (hk : k ≤ l.length) (h : val w64 l < w64 ^ k) : val w64 (l.take k) = val w64 l := by
  have h1 := val_take_drop w64 l k hk
  have h2 : val w64 (l.drop k) = 0 := by rw [val_drop_div w64_pos hl]; exact Nat.div_eq_of_lt h
  rw [h2, Nat.mul_zero] at h1; omega
theorem Rd.pre {w : World} {g o : Nat} {xs : List Nat} (h : Rd w g o xs) (n : Nat) : Rd w g o (xs.take n) := by
  refine ⟨h.1, fun j hj => ?_⟩
  rw [List.length_take] at hj
  rw [h.2 j (by omega)]
  congr 3
  rw [List.getD_eq_getElem?_getD, List.getD_eq_getElem?_getD, List.getElem?_take_of_lt (by omega)]
/-- The end: both rows are cut to the words of the precision. -/
theorem ms_end {w W : World} {B C b P g1 c1 g2 c2 lv hv : Nat} {z1 z2 : List Nat} (hk : KB w B b P g1 c1 z1 g2 c2 z2) (hb : Bo W B b 227 [sv g1 (P / 64 + 2) c1, sv g2 (P / 64 + 2) c2, .int .i64 (P : Int)])
    (hg : w.grownBy W (some b)) (hi : Lim w64 z1 ∧ Lim w64 z2 ∧ P / 64 + 2 ≤ z1.length ∧ P / 64 + 2 ≤ z2.length ∧ val w64 z1 = lv ∧ val w64 z2 = hv ∧ g1 ≠ b ∧ g2 ≠ b ∧ C ≤ g1 ∧ C ≤ g2) (hf1 : lv < w64 ^ (P / 64 + 2)) (hf2 : hv < w64 ^ (P / 64 + 2)) : MS W B C b P lv hv := by
  obtain ⟨l1, l2, n1, n2, v1, v2, d1, d2, e1, e2⟩ := hi
  have t1 : (z1.take (P / 64 + 2)).length = P / 64 + 2 := by rw [List.length_take]; omega
  have t2 : (z2.take (P / 64 + 2)).length = P / 64 + 2 := by rw [List.length_take]; omega
  refine ⟨g1, c1, z1.take (P / 64 + 2), g2, c2, z2.take (P / 64 + 2), by rw [t1, t2]; exact hb, (hk.rl.pre _).grown hg (by simpa using d1), (hk.rh.pre _).grown hg (by simpa using d2), d1, d2, l1.take _, l2.take _, t1, t2, ?_, ?_, e1, e2⟩
  · rw [val_take_fit l1 n1 (by rw [v1]; exact hf1), v1]
  · rw [val_take_fit l2 n2 (by rw [v2]; exact hf2), v2]
/-- Shown without a print: the tactics of a region tell of each load that they branch over; a build takes every word for a fault. -/
def Quietly (p : Prop) : Prop := p
theorem Quietly.eq {p : Prop} (h : p) : Quietly p = True := eq_true h
def nrm (M : Act → World → Prop) (e : Exit) (a : Act) (w : World) : Prop := match e with | .normal => M a w | _ => False
theorem nrm_mono {M : Act → World → Prop} {Q : Exit → Act → World → Prop} (h : ∀ a w, M a w → Q .normal a w) : ∀ e a w, nrm M e a w → Q e a w := fun e a w k => by
  cases e <;> first | exact h a w k | exact (k : False).elim

set_option linter.unusedSimpArgs false in
set_option maxHeartbeats 3200000 in
set_option maxRecDepth 100000 in
theorem bit_any (B b P lo hi : Nat) (d : Bool) (w : World) (C : Nat) (hM : MS w B C b P lo hi) (hP : P ≤ 1000000)
    (hd1 : decide (2 ^ (P + 1) ≤ lo * lo / 2 ^ P) = d) (hd2 : decide (2 ^ (P + 1) ≤ hi * hi / 2 ^ P + 1) = d)
    (hf1 : (if d then lo * lo / 2 ^ P / 2 else lo * lo / 2 ^ P) < w64 ^ (P / 64 + 2)) (hf2 : (if d then (hi * hi / 2 ^ P + 1) / 2 + 1 else hi * hi / 2 ^ P + 1) < w64 ^ (P / 64 + 2)) :
    Calls Tryz.prog 162 #[.pointer (some ⟨b, 0, none⟩)] w fun e w' =>
      e = .returned (.tuple #[.bool d, .bool true]) ∧ MS w' B w.heap.size b P (if d then lo * lo / 2 ^ P / 2 else lo * lo / 2 ^ P) (if d then (hi * hi / 2 ^ P + 1) / 2 + 1 else hi * hi / 2 ^ P + 1) ∧ w.grownBy w' (some b) := by
  obtain ⟨gl, capl, zl, gh, caph, zh, hBo, hrl, hrh, hnl, hnh, hll, hlh, hzl, hzh, hvl, hvh, hcl, hch⟩ := hM.ex
  have hk0 : KB w B b P gl capl zl gh caph zh := ⟨hBo, hrl, hrh⟩
  have hk := hk0.below (Below.refl _ _).drew
  obtain ⟨c0, c1, c2, f0, f1, hbs⟩ := hk.cells
  have K0 := Lib.hid hk
  have HLL := Lib.hid hll
  have HLH := Lib.hid hlh
  have HZL := Lib.hid hzl
  have HZH := Lib.hid hzh
  have HV := Lib.hid (And.intro hvl hvh)
  have HD := Lib.hid (And.intro hd1 hd2)
  have HF := Lib.hid (And.intro hf1 hf2)
  clear hBo hrl hrh hll hlh hzl hzh hvl hvh hd1 hd2 hf1 hf2 hM hk0 hk hcl hch
  go_enter Tryz.func162, Tryz.ntmps162
  go_wp2
  refine Code.wp_mono (nrm_mono (M := Mid1 B b P (lo * lo / 2 ^ P) (hi * hi / 2 ^ P + 1) w) ?_) ?_
  rotate_left
  · have hT0 : w.drew.cell? ⟨b, 0, none⟩ = some (sv gl zl.length capl) ∧ w.drew.cell? ⟨b, 1, none⟩ = some (sv gh zh.length caph) ∧ w.drew.cell? ⟨b, 2, none⟩ = some (.int .i64 (P : Int)) := ⟨c0, c1, c2⟩
    refine AnyT.region (T := fun V => V.cell? ⟨b, 0, none⟩ = some (sv gl zl.length capl) ∧ V.cell? ⟨b, 1, none⟩ = some (sv gh zh.length caph) ∧ V.cell? ⟨b, 2, none⟩ = some (.int .i64 (P : Int))) (late := fun j => [1, 12, 13, 14, 17, 18, 19, 23, 24, 25, 26, 27, 28].contains j) (by kernel_rfl) ?_
    refine AnyT.take0 (i := 1) (v := ?_) rfl (by kernel_rfl) (by kernel_rfl) (by kernel_rfl) rfl (fun _ _ _ h => h) (Or.inl ⟨by rfl, ?_⟩) ?_
    rotate_left 1
    · intro V; go_simp; first | done | with_reducible rfl
    try simp only [Act.put, List.setIfInBounds_toArray, List.set_cons_zero, List.set_cons_succ]
    refine AnyT.take0 (i := 12) (v := ?_) rfl (by kernel_rfl) (by kernel_rfl) (by kernel_rfl) rfl (fun _ _ _ h => h) (Or.inl ⟨by rfl, ?_⟩) ?_
    rotate_left 1
    · intro V; go_simp; first | done | with_reducible rfl
    try simp only [Act.put, List.setIfInBounds_toArray, List.set_cons_zero, List.set_cons_succ]
    refine AnyT.take0 (i := 13) (v := ?_) rfl (by kernel_rfl) (by kernel_rfl) (by kernel_rfl) rfl (fun _ _ _ h => h) (Or.inl ⟨by rfl, ?_⟩) ?_
    rotate_left 1
    · intro V; go_simp; first | done | with_reducible rfl
    try simp only [Act.put, List.setIfInBounds_toArray, List.set_cons_zero, List.set_cons_succ]
    refine AnyT.take0 (i := 14) (v := ?_) rfl (by kernel_rfl) (by kernel_rfl) (by kernel_rfl) rfl (fun _ _ _ h => h) (Or.inl ⟨by rfl, ?_⟩) ?_
    rotate_left 1
    · intro V; go_simp; first | done | with_reducible rfl
    try simp only [Act.put, List.setIfInBounds_toArray, List.set_cons_zero, List.set_cons_succ]
    refine AnyT.take0 (i := 17) (v := ?_) rfl (by kernel_rfl) (by kernel_rfl) (by kernel_rfl) rfl (fun _ _ _ h => h) (Or.inl ⟨by rfl, ?_⟩) ?_
    rotate_left 1
    · intro V; go_simp; first | done | with_reducible rfl
    try simp only [Act.put, List.setIfInBounds_toArray, List.set_cons_zero, List.set_cons_succ]
    refine AnyT.take0 (i := 18) (v := ?_) rfl (by kernel_rfl) (by kernel_rfl) (by kernel_rfl) rfl (fun _ _ _ h => h) (Or.inl ⟨by rfl, ?_⟩) ?_
    rotate_left 1
    · intro V; go_simp; first | done | with_reducible rfl
    try simp only [Act.put, List.setIfInBounds_toArray, List.set_cons_zero, List.set_cons_succ]
    refine AnyT.take0 (i := 19) (v := ?_) rfl (by kernel_rfl) (by kernel_rfl) (by kernel_rfl) rfl (fun _ _ _ h => h) (Or.inl ⟨by rfl, ?_⟩) ?_
    rotate_left 1
    · intro V; go_simp; first | done | with_reducible rfl
    try simp only [Act.put, List.setIfInBounds_toArray, List.set_cons_zero, List.set_cons_succ]
    refine AnyT.take (i := 0) (v := ?_) rfl (by kernel_rfl) (by kernel_rfl) (by kernel_rfl) rfl (by kernel_rfl) (fun _ _ _ h => h) (Or.inl ⟨by rfl, ?_⟩) hT0 ?_
    rotate_left 1
    · intro V hV; obtain ⟨k0, k1, k2⟩ := hV; go_simp; first | done | with_reducible rfl
    try simp only [Act.put, List.setIfInBounds_toArray, List.set_cons_zero, List.set_cons_succ]
    refine AnyT.take (i := 2) (v := ?_) rfl (by kernel_rfl) (by kernel_rfl) (by kernel_rfl) rfl (by kernel_rfl) (fun _ _ _ h => h) (Or.inl ⟨by rfl, ?_⟩) hT0 ?_
    rotate_left 1
    · intro V hV; obtain ⟨k0, k1, k2⟩ := hV; go_simp; first | done | with_reducible rfl
    try simp only [Act.put, List.setIfInBounds_toArray, List.set_cons_zero, List.set_cons_succ]
    refine AnyT.take (i := 3) (v := ?_) rfl (by kernel_rfl) (by kernel_rfl) (by kernel_rfl) rfl (by kernel_rfl) (fun _ _ _ h => h) (Or.inl ⟨by rfl, ?_⟩) hT0 ?_
    rotate_left 1
    · intro V hV; obtain ⟨k0, k1, k2⟩ := hV; go_simp; first | done | with_reducible rfl
    try simp only [Act.put, List.setIfInBounds_toArray, List.set_cons_zero, List.set_cons_succ]
    refine AnyT.take (i := 4) (v := ?_) rfl (by kernel_rfl) (by kernel_rfl) (by kernel_rfl) rfl (by kernel_rfl) (fun _ _ _ h => h) (Or.inl ⟨by rfl, ?_⟩) hT0 ?_
    rotate_left 1
    · intro V hV; obtain ⟨k0, k1, k2⟩ := hV; go_simp; first | done | with_reducible rfl
    try simp only [Act.put, List.setIfInBounds_toArray, List.set_cons_zero, List.set_cons_succ]
    refine AnyT.take (i := 7) (v := ?_) rfl (by kernel_rfl) (by kernel_rfl) (by kernel_rfl) rfl (by kernel_rfl) (fun _ _ _ h => h) (Or.inl ⟨by rfl, ?_⟩) hT0 ?_
    rotate_left 1
    · intro V hV; obtain ⟨k0, k1, k2⟩ := hV; go_simp; first | done | with_reducible rfl
    try simp only [Act.put, List.setIfInBounds_toArray, List.set_cons_zero, List.set_cons_succ]
    refine AnyT.take (i := 8) (v := ?_) rfl (by kernel_rfl) (by kernel_rfl) (by kernel_rfl) rfl (by kernel_rfl) (fun _ _ _ h => h) (Or.inl ⟨by rfl, ?_⟩) hT0 ?_
    rotate_left 1
    · intro V hV; obtain ⟨k0, k1, k2⟩ := hV; go_simp; first | done | with_reducible rfl
    try simp only [Act.put, List.setIfInBounds_toArray, List.set_cons_zero, List.set_cons_succ]
    refine AnyT.take (i := 9) (v := ?_) rfl (by kernel_rfl) (by kernel_rfl) (by kernel_rfl) rfl (by kernel_rfl) (fun _ _ _ h => h) (Or.inl ⟨by rfl, ?_⟩) hT0 ?_
    rotate_left 1
    · intro V hV; obtain ⟨k0, k1, k2⟩ := hV; go_simp; first | done | with_reducible rfl
    try simp only [Act.put, List.setIfInBounds_toArray, List.set_cons_zero, List.set_cons_succ]
    refine AnyT.take (i := 5) (v := ?_) rfl (by kernel_rfl) (by kernel_rfl) (by kernel_rfl) rfl (by kernel_rfl) (fun _ _ _ h => h) (Or.inl ⟨by rfl, ?_⟩) hT0 ?_
    rotate_left 1
    · intro V hV; obtain ⟨k0, k1, k2⟩ := hV; go_simp; first | done | with_reducible rfl
    try simp only [Act.put, List.setIfInBounds_toArray, List.set_cons_zero, List.set_cons_succ]
    refine AnyT.take (i := 10) (v := ?_) rfl (by kernel_rfl) (by kernel_rfl) (by kernel_rfl) rfl (by kernel_rfl) (fun _ _ _ h => h) (Or.inl ⟨by rfl, ?_⟩) hT0 ?_
    rotate_left 1
    · intro V hV; obtain ⟨k0, k1, k2⟩ := hV; go_simp; first | done | with_reducible rfl
    try simp only [Act.put, List.setIfInBounds_toArray, List.set_cons_zero, List.set_cons_succ]
    refine AnyT.take (i := 15) (v := ?_) rfl (by kernel_rfl) (by kernel_rfl) (by kernel_rfl) rfl (by kernel_rfl) (fun _ _ _ h => h) (Or.inl ⟨by rfl, ?_⟩) hT0 ?_
    rotate_left 1
    · intro V hV; obtain ⟨k0, k1, k2⟩ := hV; go_simp; first | done | with_reducible rfl
    try simp only [Act.put, List.setIfInBounds_toArray, List.set_cons_zero, List.set_cons_succ]
    refine AnyT.take (i := 20) (v := ?_) rfl (by kernel_rfl) (by kernel_rfl) (by kernel_rfl) rfl (by kernel_rfl) (fun _ _ _ h => h) (Or.inl ⟨by rfl, ?_⟩) hT0 ?_
    rotate_left 1
    · intro V hV; obtain ⟨k0, k1, k2⟩ := hV; go_simp; first | done | with_reducible rfl
    try simp only [Act.put, List.setIfInBounds_toArray, List.set_cons_zero, List.set_cons_succ]
    refine AnyT.one (i := 6) (by kernel_rfl) rfl (by rfl) (fun K hK => ?_)
    go_simp
    (go_at_call 189; with_reducible refine Calls.mono (square_at P gl capl zl _ HLL.out HZL.out K0.out.rl hP) ?_; rintro e w1 ⟨g1, cap1, zs1, rfl, ho1, hl1, hn1, hv1, hb1⟩; have hk := K0.out.below hb1; obtain ⟨c10, c11, c12, f10, f11, hbs1⟩ := hk.cells; have K1 := Lib.hid hk; have HO1 := Lib.hid ho1; have HL1 := Lib.hid hl1; have HN1 := Lib.hid hn1; have HV1 := Lib.hid hv1; have HB1 := Lib.hid hb1; clear hk ho1 hl1 hn1 hv1 hb1)
    go_wp2_with fail
    refine hK.out _ _ (fun _ => ⟨c10, c11, c12⟩) ?_
    clear hK K
    try simp only [Act.put, List.setIfInBounds_toArray, List.set_cons_zero, List.set_cons_succ]
    refine AnyT.one (i := 11) (by kernel_rfl) rfl (by rfl) (fun K hK => ?_)
    go_simp
    (go_at_call 190; with_reducible refine Calls.mono (shift_at P _ _ zs1 _ HL1.out HN1.out HO1.out.rd' hP) ?_; rintro e w2 ⟨g2, cap2, zs2, rfl, ho2, hl2, hn2, hv2, hb2⟩; have hk := K1.out.below hb2; obtain ⟨c20, c21, c22, f20, f21, hbs2⟩ := hk.cells; have K2 := Lib.hid hk; have HO2 := Lib.hid ho2; have HL2 := Lib.hid hl2; have HN2 := Lib.hid hn2; have HV2 := Lib.hid hv2; have HB2 := Lib.hid hb2; clear hk ho2 hl2 hn2 hv2 hb2)
    go_wp2_with fail
    refine hK.out _ _ (fun _ => ⟨c20, c21, c22⟩) ?_
    clear hK K
    try simp only [Act.put, List.setIfInBounds_toArray, List.set_cons_zero, List.set_cons_succ]
    refine AnyT.one (i := 16) (by kernel_rfl) rfl (by rfl) (fun K hK => ?_)
    go_simp
    (go_at_call 189; with_reducible refine Calls.mono (square_at P gh caph zh _ HLH.out HZH.out K2.out.rh hP) ?_; rintro e w3 ⟨g3, cap3, zs3, rfl, ho3, hl3, hn3, hv3, hb3⟩; have hk := K2.out.below hb3; obtain ⟨c30, c31, c32, f30, f31, hbs3⟩ := hk.cells; have K3 := Lib.hid hk; have HO3 := Lib.hid ho3; have HL3 := Lib.hid hl3; have HN3 := Lib.hid hn3; have HV3 := Lib.hid hv3; have HB3 := Lib.hid hb3; clear hk ho3 hl3 hn3 hv3 hb3)
    go_wp2_with fail
    refine hK.out _ _ (fun _ => ⟨c30, c31, c32⟩) ?_
    clear hK K
    try simp only [Act.put, List.setIfInBounds_toArray, List.set_cons_zero, List.set_cons_succ]
    refine AnyT.one (i := 21) (by kernel_rfl) rfl (by rfl) (fun K hK => ?_)
    go_simp
    (go_at_call 190; with_reducible refine Calls.mono (shift_at P _ _ zs3 _ HL3.out HN3.out HO3.out.rd' hP) ?_; rintro e w4 ⟨g4, cap4, zs4, rfl, ho4, hl4, hn4, hv4, hb4⟩; have hk := K3.out.below hb4; obtain ⟨c40, c41, c42, f40, f41, hbs4⟩ := hk.cells; have K4 := Lib.hid hk; have HO4 := Lib.hid ho4; have HL4 := Lib.hid hl4; have HN4 := Lib.hid hn4; have HV4 := Lib.hid hv4; have HB4 := Lib.hid hb4; clear hk ho4 hl4 hn4 hv4 hb4)
    go_wp2_with fail
    refine hK.out _ _ (fun _ => ⟨c40, c41, c42⟩) ?_
    clear hK K
    try simp only [Act.put, List.setIfInBounds_toArray, List.set_cons_zero, List.set_cons_succ]
    refine AnyT.one (i := 22) (by kernel_rfl) rfl (by rfl) (fun K hK => ?_)
    go_simp
    (go_at_call 191; with_reducible refine Calls.mono (next_at _ _ zs4 _ HL4.out (by rw [HN4.out]; omega) (by rw [HN4.out]; omega) HO4.out.rd') ?_; rintro e w5 ⟨g5, cap5, zs5, rfl, ho5, hl5, hn5, hv5, hb5⟩; have hk := K4.out.below hb5; obtain ⟨c50, c51, c52, f50, f51, hbs5⟩ := hk.cells; obtain ⟨q1, q2, q3, q4, q5, Q6, Q7⟩ := bo_two hk.bo (sv g2 zs2.length cap2) (sv g5 zs5.length cap5); have K5 := Lib.hid hk; have HO5 := Lib.hid ho5; have HL5 := Lib.hid hl5; have HN5 := Lib.hid hn5; have HV5 := Lib.hid hv5; have HB5 := Lib.hid hb5; clear hk ho5 hl5 hn5 hv5 hb5)
    go_wp2_with fail
    refine hK.out _ _ (fun _ => ⟨c50, c51, c52⟩) ?_
    clear hK K
    try simp only [Act.put, List.setIfInBounds_toArray, List.set_cons_zero, List.set_cons_succ]
    refine AnyT.take0 (i := 23) (v := ?_) rfl (by kernel_rfl) (by kernel_rfl) (by kernel_rfl) rfl (fun _ _ _ h => h) (Or.inl ⟨by rfl, ?_⟩) ?_
    rotate_left 1
    · intro V; go_simp; first | done | with_reducible rfl
    try simp only [Act.put, List.setIfInBounds_toArray, List.set_cons_zero, List.set_cons_succ]
    refine AnyT.take0 (i := 24) (v := ?_) rfl (by kernel_rfl) (by kernel_rfl) (by kernel_rfl) rfl (fun _ _ _ h => h) (Or.inl ⟨by rfl, ?_⟩) ?_
    rotate_left 1
    · intro V; go_simp; first | done | with_reducible rfl
    try simp only [Act.put, List.setIfInBounds_toArray, List.set_cons_zero, List.set_cons_succ]
    refine AnyT.one (i := 25) (by kernel_rfl) rfl (by rfl) (fun K hK => ?_)
    go_simp
    refine hK.out _ _ (fun h => by cases h) ?_
    clear hK K
    try simp only [Act.put, List.setIfInBounds_toArray, List.set_cons_zero, List.set_cons_succ]
    refine AnyT.take0 (i := 26) (v := ?_) rfl (by kernel_rfl) (by kernel_rfl) (by kernel_rfl) rfl (fun _ _ _ h => h) (Or.inl ⟨by rfl, ?_⟩) ?_
    rotate_left 1
    · intro V; go_simp; first | done | with_reducible rfl
    try simp only [Act.put, List.setIfInBounds_toArray, List.set_cons_zero, List.set_cons_succ]
    refine AnyT.take0 (i := 27) (v := ?_) rfl (by kernel_rfl) (by kernel_rfl) (by kernel_rfl) rfl (fun _ _ _ h => h) (Or.inl ⟨by rfl, ?_⟩) ?_
    rotate_left 1
    · intro V; go_simp; first | done | with_reducible rfl
    try simp only [Act.put, List.setIfInBounds_toArray, List.set_cons_zero, List.set_cons_succ]
    refine AnyT.one (i := 28) (by kernel_rfl) rfl (by rfl) (fun K hK => ?_)
    go_simp
    refine hK.out _ _ (fun h => by cases h) ?_
    clear hK K
    try simp only [Act.put, List.setIfInBounds_toArray, List.set_cons_zero, List.set_cons_succ]
    refine AnyT.done (by kernel_rfl) ?_ _
    all_goals (
      have n2 : g2 ≠ b := by have := HO2.out.capb.2.2.2; omega
      have s1 : w.heap.size ≤ w1.heap.size := HB1.out.size
      have s2 : w.heap.size ≤ g2 := by have := HO2.out.capb.2.2.2; omega
      have s5 : w.heap.size ≤ g5 := by have := HO5.out.capb.2.2.2; have := HB2.out.size; have := HB3.out.size; have := HB4.out.size; omega
      have n5 : g5 ≠ b := by have := HO5.out.capb.2.2.2; omega
      have kW : Hid (KB ((w5.setCell ⟨b, 0, none⟩ (sv g2 zs2.length cap2)).setCell ⟨b, 1, none⟩ (sv g5 zs5.length cap5)) B b P g2 cap2 zs2 g5 cap5 zs5) := ⟨Q6.out, (((HO2.out.below HB3.out).below HB4.out).below HB5.out).rd'.grown Q7.out (by simpa using n2), HO5.out.rd'.grown Q7.out (by simpa using n5)⟩
      have gW : Hid (w.grownBy ((w5.setCell ⟨b, 0, none⟩ (sv g2 zs2.length cap2)).setCell ⟨b, 1, none⟩ (sv g5 zs5.length cap5)) (some b)) := gtrans (gOfB (bT (Below.refl _ _).drew (bT HB1.out (bT HB2.out (bT HB3.out (bT HB4.out HB5.out))))) _) Q7.out
      exact ⟨Fr.of rfl, g2, cap2, zs2, g5, cap5, zs5, kW, ⟨HL2.out, HL5.out, HN2.out, by rw [HN5.out, HN4.out], by rw [HV2.out, HV1.out, HV.out.1], by rw [HV5.out, HV4.out, HV3.out, HV.out.2], n2, n5, HO2.out.capb.1, HO5.out.capb.1, s2, s5⟩, gW⟩)
  clear c0 c1 c2 f0 f1 hbs K0 HLL HLH HZL HZH HV hnl hnh
  rintro a W ⟨⟨f, rfl⟩, g1, cap1, z1, g2, cap2, z2, K0, HI, HG⟩
  have hk0 := K0.out.below (Below.refl _ _).drew
  have hkc := hk0.cells
  have K1 := Lib.hid hk0
  have HC := Lib.hid hkc
  have hwrap : IntKind.i64.wrap ((P : Int) + 1) = (P : Int) + 1 := by rw [IntKind.wrap_i64]; omega
  have hr1 : ∀ V, KB V B b P g1 cap1 z1 g2 cap2 z2 → Calls Tryz.prog 192 #[sv g1 z1.length cap1, .int .i64 (IntKind.i64.wrap ((P : Int) + 1))] V fun e w' => e = .returned (.bool d) ∧ Below V.heap.size V w' := by
    intro V hV
    have := reaches_at P g1 cap1 z1 V HI.out.1 (by rw [HI.out.2.2.1]; omega) hV.rl hP
    rw [HI.out.2.2.2.2.1, HD.out.1] at this; rw [hwrap]; exact this
  have hr2 : ∀ V, KB V B b P g1 cap1 z1 g2 cap2 z2 → Calls Tryz.prog 192 #[sv g2 z2.length cap2, .int .i64 (IntKind.i64.wrap ((P : Int) + 1))] V fun e w' => e = .returned (.bool d) ∧ Below V.heap.size V w' := by
    intro V hV
    have := reaches_at P g2 cap2 z2 V HI.out.2.1 (by rw [HI.out.2.2.2.1]; omega) hV.rh hP
    rw [HI.out.2.2.2.2.2.1, HD.out.2] at this; rw [hwrap]; exact this
  have hlen1 : z1.length = P / 64 + 5 := HI.out.2.2.1
  have hlen2 : z2.length = P / 64 + 6 := HI.out.2.2.2.1
  have HN1 := Lib.hid hlen1
  have HN2 := Lib.hid hlen2
  have HR1 := Lib.hid hr1
  have HR2 := Lib.hid hr2
  clear hwrap hkc hk0 hr1 hr2 hlen1 hlen2
  go_wp2
  obtain ⟨c0, c1, c2, f0, f1, hbs⟩ := HC.out
  go_region_held3 (fun V => KB V B b P g1 cap1 z1 g2 cap2 z2 ∧ V.cell? ⟨b, 0, none⟩ = some (sv g1 z1.length cap1) ∧ V.cell? ⟨b, 1, none⟩ = some (sv g2 z2.length cap2) ∧ V.cell? ⟨b, 2, none⟩ = some (.int .i64 (P : Int)))
    (first | assumption | exact ⟨K1.out, c0, c1, c2⟩ | exact hkx)
    (first
    | (go_at_call 192; with_reducible refine Calls.mono (HR1.out _ (And.left (by assumption))) ?_; rintro e w1 ⟨rfl, hb1⟩; have HB1 := Lib.hid hb1; have hk1 := KB.below (And.left (by assumption)) hb1; have hkx := And.intro hk1 (And.intro hk1.cells.1 (And.intro hk1.cells.2.1 hk1.cells.2.2.1)); clear hb1)
    | (go_at_call 192; with_reducible refine Calls.mono (HR2.out _ (And.left (by assumption))) ?_; rintro e w2 ⟨rfl, hb2⟩; have HB2 := Lib.hid hb2; have hk2 := KB.below (And.left (by assumption)) hb2; have hkx := And.intro hk2 (And.intro hk2.cells.1 (And.intro hk2.cells.2.1 hk2.cells.2.2.1)); clear hb2))
  clear c0 c1 c2 f0 f1 hbs
  have HGR := Lib.hid (gtrans HG.out (gOfB (bT (Below.refl _ _).drew (bT HB1.out HB2.out)) (some b)))
  have HK := Lib.hid hk2
  clear hkx hk1 hk2
  cases d
  · have hk3 := HK.out
    obtain ⟨c0, c1, c2, f0, f1, hbs⟩ := hk3.cells
    have hm1 : min (z1.length : Int) ((P : Int) / 64 + 2) = ((P / 64 + 2 : Nat) : Int) := by rw [HN1.out]; omega
    have hm2 : min (z2.length : Int) ((P : Int) / 64 + 2) = ((P / 64 + 2 : Nat) : Int) := by rw [HN2.out]; omega
    have hcp1 : P / 64 + 2 ≤ cap1 := by have := HN1.out; have := HI.out.2.2.2.2.2.2.2.2.1; omega
    have hcp2 : P / 64 + 2 ≤ cap2 := by have := HN2.out; have := HI.out.2.2.2.2.2.2.2.2.2.1; omega
    have hp3 := bo_two hk3.bo (sv g1 (P / 64 + 2) cap1) (sv g2 (P / 64 + 2) cap2)
    obtain ⟨q1, q2, q3, q4, q5, Q6, Q7⟩ := hp3
    have r1 : (w2.setCell ⟨b, 0, none⟩ (sv g1 (P / 64 + 2) cap1)).drew.cell? ⟨b, 1, none⟩ = some (sv g2 z2.length cap2) := q1
    have r3 : (w2.setCell ⟨b, 0, none⟩ (sv g1 (P / 64 + 2) cap1)).drew.frozen? ⟨b, 1, none⟩ = false := q3
    have r4 : b < (w2.setCell ⟨b, 0, none⟩ (sv g1 (P / 64 + 2) cap1)).drew.heap.size := q4
    clear hk3
    go_wp2
    go_region
    go_wp2
    go_ret2
    refine ⟨rfl, ms_end HK.out ?_ (gdrew Q7.out) ⟨HI.out.1, HI.out.2.1, by rw [HN1.out]; omega, by rw [HN2.out]; omega, HI.out.2.2.2.2.1, HI.out.2.2.2.2.2.1, HI.out.2.2.2.2.2.2.1, HI.out.2.2.2.2.2.2.2.1, HI.out.2.2.2.2.2.2.2.2.2.2.1, HI.out.2.2.2.2.2.2.2.2.2.2.2⟩ HF.out.1 HF.out.2, gdrew (gtrans HGR.out Q7.out)⟩
    exact Q6.out.below (Below.refl _ _).drew
  · have HK9 := Lib.hid (HK.out.below (Below.refl _ _).drew)
    go_wp2
    refine Code.wp_mono (nrm_mono (M := Mid2 B b P (lo * lo / 2 ^ P / 2) ((hi * hi / 2 ^ P + 1) / 2 + 1) w) ?_) ?_
    rotate_left
    · obtain ⟨c0, c1, c2, f0, f1, hbs⟩ := HK9.out.cells
      go_region_with (first
      | (go_at_call 190; with_reducible refine Calls.mono (shift_one _ _ z1 _ HI.out.1 HK9.out.rl (by rw [HN1.out]; omega)) ?_; rintro e w3 ⟨g3, cap3, zs3, rfl, ho3, hl3, hn3, hv3, hb3⟩; have hk := HK9.out.below hb3; obtain ⟨c30, c31, c32, f30, f31, hbs3⟩ := hk.cells; have K3 := Lib.hid hk; have HO3 := Lib.hid ho3; have HL3 := Lib.hid hl3; have HN3 := Lib.hid hn3; have HV3 := Lib.hid hv3; have HB3 := Lib.hid hb3; clear hk ho3 hl3 hn3 hv3 hb3)
      | (go_at_call 190; with_reducible refine Calls.mono (shift_one _ _ z2 _ HI.out.2.1 K3.out.rh (by rw [HN2.out]; omega)) ?_; rintro e w4 ⟨g4, cap4, zs4, rfl, ho4, hl4, hn4, hv4, hb4⟩; have hk := K3.out.below hb4; obtain ⟨c40, c41, c42, f40, f41, hbs4⟩ := hk.cells; have K4 := Lib.hid hk; have HO4 := Lib.hid ho4; have HL4 := Lib.hid hl4; have HN4 := Lib.hid hn4; have HV4 := Lib.hid hv4; have HB4 := Lib.hid hb4; clear hk ho4 hl4 hn4 hv4 hb4)
      | (go_at_call 191; with_reducible refine Calls.mono (next_at _ _ zs4 _ HL4.out (by rw [HN4.out, HN2.out]; omega) (by rw [HN4.out, HN2.out]; omega) HO4.out.rd') ?_; rintro e w5 ⟨g5, cap5, zs5, rfl, ho5, hl5, hn5, hv5, hb5⟩; have hk := K4.out.below hb5; obtain ⟨c50, c51, c52, f50, f51, hbs5⟩ := hk.cells; obtain ⟨q1, q2, q3, q4, q5, Q6, Q7⟩ := bo_two hk.bo (sv g3 zs3.length cap3) (sv g5 zs5.length cap5); have K5 := Lib.hid hk; have HO5 := Lib.hid ho5; have HL5 := Lib.hid hl5; have HN5 := Lib.hid hn5; have HV5 := Lib.hid hv5; have HB5 := Lib.hid hb5; clear hk ho5 hl5 hn5 hv5 hb5))
      all_goals (
        have n3 : g3 ≠ b := by have := HO3.out.capb.2.2.2; omega
        have s1 : w.heap.size ≤ w2.heap.size := HGR.out.size
        have s3 : w.heap.size ≤ g3 := by have := HO3.out.capb.2.2.2; have h9 : w2.heap.size ≤ g3 := this.1; omega
        have s5 : w.heap.size ≤ g5 := by have := HO5.out.capb.2.2.2; have h9 : w2.heap.size ≤ w3.heap.size := HB3.out.size; have := HB4.out.size; omega
        have n5 : g5 ≠ b := by have := HO5.out.capb.2.2.2; omega
        have kW : Hid (KB ((w5.setCell ⟨b, 0, none⟩ (sv g3 zs3.length cap3)).setCell ⟨b, 1, none⟩ (sv g5 zs5.length cap5)) B b P g3 cap3 zs3 g5 cap5 zs5) := ⟨Q6.out, ((HO3.out.below HB4.out).below HB5.out).rd'.grown Q7.out (by simpa using n3), HO5.out.rd'.grown Q7.out (by simpa using n5)⟩
        have gW : Hid (w.grownBy ((w5.setCell ⟨b, 0, none⟩ (sv g3 zs3.length cap3)).setCell ⟨b, 1, none⟩ (sv g5 zs5.length cap5)) (some b)) := gtrans HGR.out (gtrans (gOfB (bT (Below.refl _ _).drew (bT HB3.out (bT HB4.out HB5.out))) _) Q7.out)
        exact ⟨Fr2.of rfl, g3, cap3, zs3, g5, cap5, zs5, kW, ⟨HL3.out, HL5.out, by rw [HN3.out, HN1.out], by rw [HN5.out, HN4.out, HN2.out], by rw [HV3.out, HI.out.2.2.2.2.1], by rw [HV5.out, HV4.out, HI.out.2.2.2.2.2.1], n3, n5, HO3.out.capb.1, HO5.out.capb.1, s3, s5⟩, gW⟩)
    clear HK9 HK HGR HN1 HN2 HI HG K0 K1 HC HR1 HR2 HB1 HB2
    rintro a w2 ⟨⟨f2, rfl⟩, g1, cap1, z1, g2, cap2, z2, HK, HI, HGR⟩
    have HN1 := Lib.hid HI.out.2.2.1
    have HN2 := Lib.hid HI.out.2.2.2.1
    have hk3 := HK.out
    obtain ⟨c0, c1, c2, f0, f1, hbs⟩ := hk3.cells
    have hm1 : min (z1.length : Int) ((P : Int) / 64 + 2) = ((P / 64 + 2 : Nat) : Int) := by rw [HN1.out]; omega
    have hm2 : min (z2.length : Int) ((P : Int) / 64 + 2) = ((P / 64 + 2 : Nat) : Int) := by rw [HN2.out]; omega
    have hcp1 : P / 64 + 2 ≤ cap1 := by have := HN1.out; have := HI.out.2.2.2.2.2.2.2.2.1; omega
    have hcp2 : P / 64 + 2 ≤ cap2 := by have := HN2.out; have := HI.out.2.2.2.2.2.2.2.2.2.1; omega
    have hp3 := bo_two hk3.bo (sv g1 (P / 64 + 2) cap1) (sv g2 (P / 64 + 2) cap2)
    obtain ⟨q1, q2, q3, q4, q5, Q6, Q7⟩ := hp3
    have r1 : (w2.setCell ⟨b, 0, none⟩ (sv g1 (P / 64 + 2) cap1)).drew.cell? ⟨b, 1, none⟩ = some (sv g2 z2.length cap2) := q1
    have r3 : (w2.setCell ⟨b, 0, none⟩ (sv g1 (P / 64 + 2) cap1)).drew.frozen? ⟨b, 1, none⟩ = false := q3
    have r4 : b < (w2.setCell ⟨b, 0, none⟩ (sv g1 (P / 64 + 2) cap1)).drew.heap.size := q4
    clear hk3
    go_wp2
    go_region
    go_wp2
    go_ret2
    refine ⟨rfl, ms_end HK.out ?_ (gdrew Q7.out) ⟨HI.out.1, HI.out.2.1, by rw [HN1.out]; omega, by rw [HN2.out]; omega, HI.out.2.2.2.2.1, HI.out.2.2.2.2.2.1, HI.out.2.2.2.2.2.2.1, HI.out.2.2.2.2.2.2.2.1, HI.out.2.2.2.2.2.2.2.2.2.2.1, HI.out.2.2.2.2.2.2.2.2.2.2.2⟩ HF.out.1 HF.out.2, gdrew (gtrans HGR.out Q7.out)⟩
    exact Q6.out.below (Below.refl _ _).drew
end Go.Proofs.YtbihoedcbmnccaaGreatDoor
/- enclosure: digits. -/
namespace Go.Proofs.YtbihoedcbmnccaaGreatDoor
open Go.RowKit

/-- The binary digit behind the point. -/
def bitN (p i : Nat) : Bool := decide (lowN p (i + 1) = 2 * lowN p i + 1)
def boolsN (p n : Nat) : List Value := (List.range n).map fun i => Value.bool (bitN p i)
theorem boolsN_length (p n : Nat) : (boolsN p n).length = n := by simp [boolsN]
theorem boolsN_succ (p n : Nat) : boolsN p (n + 1) = boolsN p n ++ [.bool (bitN p n)] := by
  unfold boolsN; rw [List.range_succ, List.map_append]; rfl
theorem mant_go {p P j lo hi : Nat} (hp : 0 < p) (h : Mant p P j lo hi) (hm : margin p j) (hj : j + 64 ≤ P) :
    ∃ d : Bool, decide (2 ^ (P + 1) ≤ lo * lo / 2 ^ P) = d ∧ decide (2 ^ (P + 1) ≤ hi * hi / 2 ^ P + 1) = d ∧ bitN p j = d ∧
      Mant p P (j + 1) (if d then lo * lo / 2 ^ P / 2 else lo * lo / 2 ^ P) (if d then (hi * hi / 2 ^ P + 1) / 2 + 1 else hi * hi / 2 ^ P + 1) := by
  rcases h.step hp hm hj with ⟨h1, h2, h3, h4⟩ | ⟨h1, h2, h3, h4⟩
  · exact ⟨true, decide_eq_true h2, decide_eq_true h3, decide_eq_true h1, h4⟩
  · exact ⟨false, decide_eq_false (Nat.not_le.2 h2), decide_eq_false (Nat.not_le.2 h3), decide_eq_false (by omega), h4⟩
theorem fit_words {P x : Nat} (h : x < 2 ^ (P + 2)) : x < w64 ^ (P / 64 + 2) := by
  rw [w64_pow, ← Nat.pow_mul]
  exact Nat.lt_of_lt_of_le h (Nat.pow_le_pow_right (by omega) (by omega))
theorem info_bool : (Tryz.prog.info? 4).map (fun i => (i.zero, i.size, i.bytes)) = some (some (.bool false), 1, 1) := by kernel_rfl
theorem oneb (d : Bool) : ∀ u ∈ [Value.bool d], u.oneCell' = true := by intro u hu; simp at hu; subst hu; rfl
theorem MS.blk {w : World} {B C b P lo hi : Nat} (h : MS w B C b P lo hi) : B ≤ b ∧ b < w.heap.size := by
  obtain ⟨gl, capl, zl, gh, caph, zh, h1, _⟩ := h.ex; exact h1.lt

set_option maxHeartbeats 1600000 in
set_option maxRecDepth 100000 in
theorem digits_any (p n : Nat) (w : World) (hp : p ∈ odd24) (hp0 : 0 < p) (hp1 : p < 128) (hk : p.log2 ≤ 6) (hn : n ≤ 2000) :
    Calls Tryz.prog 111 #[.int .i64 (p : Int), .int .i64 (p.log2 : Int), .int .i64 (n : Int), .int .i64 ((n + 64 : Nat) : Int)] w fun e w' =>
      ∃ v, e = .returned (.tuple #[v, .bool true]) ∧ w'.ownsRow w.heap.size 4 1 v n (boolsN p n) ∧ Below w.heap.size w w' := by
  obtain ⟨i0, hi, hz0, hz1, hz2⟩ := info_parts info_bool
  have hbeg := begin_any p p.log2 (n + 64) w hp1 (by omega) (by omega)
  have HM0 := Lib.hid (Mant.first (p := p) (P := n + 64) hp0 (by omega))
  generalize hP : n + 64 = P at *
  generalize p.log2 = k at *
  have hPn : n + 64 ≤ P := by omega
  have hPm : P ≤ 1000000 := by omega
  clear hP
  go_enter Tryz.func111, Tryz.ntmps111
  go_wp2_with fail
  refine hbeg.mono ?_
  rintro e w1 ⟨b, rfl, hM, hb1⟩
  have HM := Lib.hid hM
  have HB := Lib.hid hb1
  clear hM hb1 hbeg
  go_wp2
  go_loopw [11, 19] (fun o i wr => ∃ (m lo hi : Nat), i = .int .i64 (m : Int) ∧ m ≤ n ∧ Hid (Mant p P m lo hi) ∧ Hid (MS wr w.heap.size 0 b P lo hi) ∧ Hid (wr.ownsRow w.heap.size 4 1 o m (boolsN p m)) ∧ Hid (o.ownBlock ≠ some b) ∧ Hid (Below w.heap.size w wr)) (fun _ i _ => n - (intOf i).toNat)
  case atStart =>
    refine ⟨0, _, _, rfl, by omega, HM0.out, ?_, World.ownsRow_nil _ _ _ _, by show _ ≠ _; simp [Value.ownBlock], HB.out⟩
    exact HM.out.kept (World.grownBy.refl _ _ : w1.grownBy w1 none) (fun g h => by cases h)
  case round =>
    obtain ⟨m, lo, hi', rfl, hm, HI, HS, HO, HN, HBB⟩ := hrel
    rename World => w2
    by_cases hlt : m < n
    · obtain ⟨d, hd1, hd2, hbit, hM1⟩ := mant_go hp0 HI.out (margins hp (by omega)) (by omega)
      have ht1 : (if d then lo * lo / 2 ^ P / 2 else lo * lo / 2 ^ P) < 2 ^ (P + 2) := Nat.lt_trans hM1.two (Nat.pow_lt_pow_right (by omega) (by omega))
      have ht2 := hM1.top (by omega)
      have hbitc := bit_any w.heap.size b P lo hi' d w2 0 HS.out (by omega) hd1 hd2 (fit_words ht1) (fit_words ht2)
      have HM1 := Lib.hid hM1
      have HBIT := Lib.hid hbit
      clear hd1 hd2 hbit hM1 ht1 ht2
      generalize hlo : (if d then lo * lo / 2 ^ P / 2 else lo * lo / 2 ^ P) = lo1 at *
      generalize hhi : (if d then (hi' * hi' / 2 ^ P + 1) / 2 + 1 else hi' * hi' / 2 ^ P + 1) = hi1 at *
      clear hlo hhi
      go_wp2_with fail
      refine hbitc.mono ?_
      rintro e w3 ⟨rfl, hM3, hg3⟩
      have HM3 := Lib.hid hM3
      have HG3 := Lib.hid hg3
      clear hM3 hg3 hbitc
      have hs2 := HO.out.1
      have hblk := HM3.out.blk
      have hb2 := HS.out.blk
      have hlt2 : ∀ g, u11.ownBlock = some g → w.heap.size ≤ g ∧ g < w2.heap.size := fun g hg => World.ownsRow.lt HO.out g hg
      have HLT2 := Lib.hid hlt2
      have hsz3 : w.heap.size ≤ w3.heap.size := by have := HG3.out.size; have := HBB.out.size; omega
      clear hlt2
      have hown2 : Hid (w3.ownsRow w.heap.size 4 1 u11 m (boolsN p m)) := HO.out.kept HG3.out (.inr HN.out)
      go_wp2_with (at_builtin; refine wpList_append_own_at _ rfl _ _ 148 rfl w.heap.size 4 i0 (.bool false) 1 1 Tryz.underlying148 hi hz0 hz1 hz2 rfl (by omega) u11 m (boolsN p m) rfl (hown2.out.alloc _) ⟨w3.heap.size, 0, none⟩ 1 1 [.bool d] rfl rfl (news1 _ _ _) (oneb d) (by unfold maxLen; omega) (by omega) (by simp; omega) ?_; intro v4 w4 hown4 hg4 hn4 hat4)
      have HOWN4 := Lib.hid hown4
      have HG4 := Lib.hid (gtrans (gOfB ((Below.refl _ _).alloc (Nat.le_refl _) (.cells #[.bool d] 4)) _) hg4)
      have HAT := Lib.hid hat4
      clear hown4 hg4 hn4 hat4
      go_roundw
      case rel =>
        refine ⟨m + 1, lo1, hi1, by go_num, by omega, HM1.out, ?_, ?_, ?_, ?_⟩
        · exact HM3.out.kept HG4.out (fun g hg => ⟨(HLT2.out g hg).2, fun e => HN.out (by rw [hg, e])⟩)
        · show World.ownsRow _ _ _ _ _ _ _; rw [boolsN_succ, HBIT.out]; exact HOWN4.out
        · show _ ≠ _
          rcases HAT.out with e | e
          · rw [e]; exact HN.out
          · rw [e]; intro h; simp at h; omega
        · refine belowG (belowG HBB.out HG3.out HBB.out.size (fun g hg => by cases hg; exact hblk.1)) HG4.out hsz3 (fun g hg => (HLT2.out g hg).1)
      case measure => simp [intOf]; omega
    · obtain rfl : m = n := by omega
      go_wp2
      go_ret2
      exact ⟨_, rfl, HO.out, HBB.out⟩
end Go.Proofs.YtbihoedcbmnccaaGreatDoor
