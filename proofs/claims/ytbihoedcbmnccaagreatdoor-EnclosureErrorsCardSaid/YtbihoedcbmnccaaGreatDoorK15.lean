/- size: number, CheckAll, Combine, Sub where the list or a size is wrong. -/
import Derived.Test.YtbihoedcbmnccaaGreatDoorK11
import Derived.Test.YtbihoedcbmnccaaGreatDoorK7
import Derived.Test.YtbihoedcbmnccaaGreatDoorK13
import Derived.Test.YtbihoedcbmnccaaGreatDoorK14
import Derived.Deep.RegionHeld3
import Derived.Deep.DrawnRows
import Derived.ChangeSlices
import Derived.Deep.SlicePairs
namespace Go.Proofs.YtbihoedcbmnccaaGreatDoor
attribute [local go_sem ↓] Go.wp_at_zero Go.wp_at_succ
open Go.RowKit

theorem IntsAt.form {w : World} {v : Value} {xs : List Int} (h : IntsAt w v xs) : ∃ a c, v = .slice a xs.length c := by
  rcases h with ⟨rfl, a, c, rfl⟩ | ⟨_, g, o, c, rfl, _⟩
  · exact ⟨a, c, rfl⟩
  · exact ⟨_, c, rfl⟩
theorem SizeAt.form {w : World} {v : Value} {xs : List (ByteArray × ByteArray)} (h : SizeAt w v xs) : ∃ a c, v = .slice a xs.length c := by
  rcases h with ⟨rfl, a, c, rfl⟩ | ⟨_, g, o, c, rfl, _⟩
  · exact ⟨a, c, rfl⟩
  · exact ⟨_, c, rfl⟩
/-- The error of a size over a right list. -/
noncomputable def errC (n : Nat) (xs : List (ByteArray × ByteArray)) : Int := if xs.length ≠ n then 5 else chkS xs
/-- What is right to be asked: a list and a size as they lie in memory. -/
structure Asked (w : World) (vp vs : Value) (ps : List Int) (xs : List (ByteArray × ByteArray)) : Prop where
  pr : IntsAt w vp ps
  sz : SizeAt w vs xs
  st : ∀ x ∈ xs, x.1.size ≤ 1000000 ∧ x.2.size ≤ 1000000
  lx : xs.length ≤ 1000000
  lp : ps.length ≤ 1000000
theorem Asked.b {w w' : World} {vp vs : Value} {ps : List Int} {xs : List (ByteArray × ByteArray)} (h : Asked w vp vs ps xs) (hb : Below w.heap.size w w') : Asked w' vp vs ps xs := ⟨h.pr.b hb, h.sz.b hb, h.st, h.lx, h.lp⟩
theorem Asked.check {w : World} {vp vs : Value} {ps : List Int} {xs : List (ByteArray × ByteArray)} (h : Asked w vp vs ps xs) (hS : St w) :
    Calls Tryz.prog 20 #[vp, vs] w fun e w' => e = .returned (.int .i64 (errSize ps xs)) ∧ Below w.heap.size w w' := size_Check vp vs ps xs w hS h.pr h.sz h.st h.lx h.lp
theorem Asked.low {w : World} {vp vs : Value} {ps : List Int} {xs : List (ByteArray × ByteArray)} (h : Asked w vp vs ps xs) (hS : St w) :
    Calls Tryz.prog 62 #[vp, vs] w fun e w' => e = .returned (.int .i64 (errC ps.length xs)) ∧ Below w.heap.size w w' := by
  obtain ⟨a, c, hv⟩ := h.pr.form
  exact size_check vp vs ps.length c a hv xs w hS h.sz h.st h.lx h.lp
theorem below_one (W : World) (o : Obj) : Below W.heap.size W (W.alloc o) := (Below.refl _ _).alloc (Nat.le_refl _) _

set_option maxHeartbeats 1600000 in
set_option maxRecDepth 100000 in
theorem size_number (n : Int) (h0 : -9223372036854775808 ≤ n) (h1 : n ≤ 9223372036854775807) (w : World) (hS : St w) :
    Calls Tryz.prog 78 #[.int .i64 n] w fun e w' => e = .returned (.agg #[.string (I n), .string ⟨#[49]⟩]) ∧ Below w.heap.size w w' := by
  have hof := fun W hW => whole_Of n h0 h1 W hW
  have HA := Lib.hid (box1 w ⟨#[]⟩ ⟨#[]⟩)
  go_enter Tryz.func78, Tryz.ntmps78
  go_wp2_with fail
  generalize w.alloc (.cells #[.string ⟨#[]⟩, .string ⟨#[]⟩] 42) = W at HA ⊢
  refine (hof _ (hS.b HA.out.2)).mono ?_
  rintro e w1 ⟨rfl, hb1⟩
  have ho := HA.out.1.below hb1
  have c0 := ho.cell 0 (by simp)
  have c1 := ho.cell 1 (by simp)
  have f0 := ho.fz 0
  have f1 := ho.fz 1
  have hlt := ho.lt.2
  have HE := Lib.hid (low_end (x := I n) (y := ⟨#[49]⟩) ho (bT HA.out.2 hb1))
  clear ho hb1
  go_wp2
  refine box_ret rfl rfl HE.out.1 Tryz.underlying42 rfl sizeRat rfl ?_
  exact ⟨rfl, HE.out.2⟩

/-- A list of two sizes in memory. -/
def Pair2 (w : World) (l : Nat) (vs vs' : Value) : Prop := l < w.heap.size ∧ w.cell? ⟨l, 0, none⟩ = some vs ∧ w.cell? ⟨l, 1, none⟩ = some vs'
theorem Pair2.b {w w' : World} {l : Nat} {vs vs' : Value} (h : Pair2 w l vs vs') (hb : Below w.heap.size w w') : Pair2 w' l vs vs' :=
  ⟨Nat.lt_of_lt_of_le h.1 hb.size, (gOfB hb none).cell h.2.1 (by simp), (gOfB hb none).cell h.2.2 (by simp)⟩

set_option maxHeartbeats 1600000 in
set_option maxRecDepth 100000 in
theorem check_All (l : Nat) (vp vs vs' : Value) (ps : List Int) (xs xs' : List (ByteArray × ByteArray)) (w : World) (hS : St w) (h1 : Asked w vp vs ps xs) (h2 : Asked w vp vs' ps xs') (hl : Pair2 w l vs vs') (E : Int)
    (hE : E = if errP ps ≠ 0 then errP ps else if errC ps.length xs ≠ 0 then errC ps.length xs else errC ps.length xs') :
    Calls Tryz.prog 79 #[vp, .slice (some ⟨l, 0, none⟩) 2 2] w fun e w' => e = .returned (.int .i64 E) ∧ Below w.heap.size w w' := by
  have HP := Lib.hid (fun W (hW : Below w.heap.size w W) => prime_Check vp ps W (h1.b hW).pr)
  have HC1 := Lib.hid (fun W (hW : Below w.heap.size w W) => (h1.b hW).low (hS.b hW))
  have HC2 := Lib.hid (fun W (hW : Below w.heap.size w W) => (h2.b hW).low (hS.b hW))
  have HL := Lib.hid hl
  clear hl h1 h2
  generalize errC ps.length xs = e1 at *
  generalize errC ps.length xs' = e2 at *
  generalize errP ps = e0 at *
  go_enter Tryz.func79, Tryz.ntmps79
  go_wp2_with fail
  refine (HP.out _ (Below.refl _ _)).mono ?_
  rintro e w1 ⟨rfl, rfl⟩
  by_cases h0 : e0 = 0
  · subst h0
    rw [if_neg (by simp)] at hE
    have HE := Lib.hid hE
    clear hE
    go_wp2
    go_loopw [16] (fun i wr => ∃ m : Nat, i = .int .i64 (m : Int) ∧ m ≤ 2 ∧ Hid (1 ≤ m → e1 = 0) ∧ Hid (2 ≤ m → e2 = 0) ∧ Hid (Below w1.heap.size w1 wr)) (fun i _ => 2 - (intOf i).toNat)
    case atStart => exact ⟨0, rfl, by omega, fun h => by omega, fun h => by omega, Below.refl _ _⟩
    case round =>
      obtain ⟨m, rfl, hm, H1, H2, HB⟩ := hrel
      rename World => wr
      obtain ⟨hl0, hl1, hl2⟩ := HL.out.b HB.out
      rcases (show m = 0 ∨ m = 1 ∨ m = 2 by omega) with rfl | rfl | rfl
      · clear hl2
        go_wp2_with fail
        refine (HC1.out _ HB.out).mono ?_
        rintro e w2 ⟨rfl, hb2⟩
        by_cases hz : e1 = 0
        · have hnf : (e1 != 0) = false := by rw [hz]; rfl
          have HZ := Lib.hid hz
          clear hz
          have HB2 := Lib.hid (bT HB.out hb2)
          clear hb2
          go_wp2
          go_roundw
          case rel => exact ⟨1, by go_num, by omega, fun _ => HZ.out, fun h => by omega, HB2.out⟩
          case measure => simp [intOf]
        · have hne : (e1 != 0) = true := by rw [bne_iff_ne]; exact hz
          have HE2 := Lib.hid (HE.out.trans (if_pos hz))
          clear hz
          go_wp2
          go_ret; exact ⟨by rw [HE2.out]; rfl, bT HB.out hb2⟩
      · clear hl1
        have h10 := H1.out (by omega)
        have HE2 := Lib.hid (HE.out.trans (if_neg (fun h => h h10)))
        clear h10
        go_wp2_with fail
        refine (HC2.out _ HB.out).mono ?_
        rintro e w2 ⟨rfl, hb2⟩
        by_cases hz : e2 = 0
        · have hnf : (e2 != 0) = false := by rw [hz]; rfl
          have HZ := Lib.hid hz
          clear hz
          have HB2 := Lib.hid (bT HB.out hb2)
          clear hb2
          go_wp2
          go_roundw
          case rel => exact ⟨2, by go_num, by omega, fun _ => H1.out (by omega), fun _ => HZ.out, HB2.out⟩
          case measure => simp [intOf]
        · have hne : (e2 != 0) = true := by rw [bne_iff_ne]; exact hz
          clear hz
          go_wp2
          go_ret; exact ⟨by rw [HE2.out]; rfl, bT HB.out hb2⟩
      · have h10 := H1.out (by omega)
        have h20 := H2.out (by omega)
        have HE2 := Lib.hid ((HE.out.trans (if_neg (fun h => h h10))).trans h20)
        clear h10 h20 hl1 hl2
        go_wp2
        go_ret; exact ⟨by rw [HE2.out]; rfl, HB.out⟩
  · have hne : (e0 != 0) = true := by rw [bne_iff_ne]; exact h0
    rw [if_pos h0] at hE
    subst hE
    clear h0
    go_wp2
    go_ret; exact ⟨rfl, Below.refl _ _⟩

set_option maxHeartbeats 1600000 in
set_option maxRecDepth 100000 in
theorem sub_err (vp vs vs' : Value) (ps : List Int) (xs xs' : List (ByteArray × ByteArray)) (w : World) (hS : St w) (h1 : Asked w vp vs ps xs) (h2 : Asked w vp vs' ps xs') (E : Int)
    (hE : E = if errP ps ≠ 0 then errP ps else if errC ps.length xs ≠ 0 then errC ps.length xs else errC ps.length xs') (hne : (E != 0) = true) :
    Calls Tryz.prog 30 #[vp, vs, vs'] w fun e w' => e = .returned (.tuple #[.slice none 0 0, .int .i64 E]) ∧ Below w.heap.size w w' := by
  have HCA := Lib.hid (fun l W (hW : Below w.heap.size w W) hl => check_All l vp vs vs' ps xs xs' W (hS.b hW) (h1.b hW) (h2.b hW) hl E hE)
  clear hE
  have HCO : Hid (∀ l v2 W, Below w.heap.size w W → Pair2 W l vs vs' → Calls Tryz.prog 77 #[vp, .slice (some ⟨l, 0, none⟩) 2 2, v2] W fun e w' => e = .returned (.tuple #[.slice none 0 0, .int .i64 E]) ∧ Below W.heap.size W w') := by
    intro l v2 W hW hl
    have HW := Lib.hid hW
    have HL := Lib.hid hl
    clear hW hl
    go_enter Tryz.func77, Tryz.ntmps77
    go_wp2_with fail
    refine (HCA.out l _ HW.out HL.out).mono ?_
    rintro e w1 ⟨rfl, hb1⟩
    go_wp2
    go_ret2; exact ⟨rfl, hb1⟩
  obtain ⟨sa, cs, hvs⟩ := h1.sz.form
  obtain ⟨sa', cs', hvs'⟩ := h2.sz.form
  generalize xs.length = lx at hvs
  generalize xs'.length = lx' at hvs'
  subst hvs hvs'
  have HN1 := Lib.hid (fun W hW => size_number 1 (by omega) (by omega) W hW)
  have HN2 := Lib.hid (fun W hW => size_number (-1) (by omega) (by omega) W hW)
  have hp2 : Pair2 (w.alloc (.cells #[.slice sa lx cs, .slice sa' lx' cs'] 38)) w.heap.size (.slice sa lx cs) (.slice sa' lx' cs') := by
    have b1 := Bo.new w 38 #[.slice sa lx cs, .slice sa' lx' cs'] (by show 2 ≤ maxLen; decide)
    exact ⟨b1.lt.2, b1.cell 0 (by simp), b1.cell 1 (by simp)⟩
  have HP2 := Lib.hid hp2
  have HB0 := Lib.hid (below_one w (.cells #[.slice sa lx cs, .slice sa' lx' cs'] 38))
  clear hp2
  obtain ⟨s1, hs1⟩ : ∃ s, I 1 = s := ⟨_, rfl⟩
  obtain ⟨s2, hs2⟩ : ∃ s, I (-1) = s := ⟨_, rfl⟩
  rw [hs1] at HN1
  rw [hs2] at HN2
  clear hs1 hs2
  go_enter Tryz.func30, Tryz.ntmps30
  go_wp2_with fail
  generalize w.alloc (.cells #[.slice sa lx cs, .slice sa' lx' cs'] 38) = W0 at HP2 HB0 ⊢
  refine (HN1.out _ (hS.b HB0.out)).mono ?_
  rintro e w1 ⟨rfl, hb1⟩
  have HB1 := Lib.hid (bT HB0.out hb1)
  have HP3 := Lib.hid (HP2.out.b hb1)
  clear hb1 HP2
  go_wp2_with fail
  refine (HN2.out _ (hS.b HB1.out)).mono ?_
  rintro e w2 ⟨rfl, hb2⟩
  have HB2 := Lib.hid (bT HB1.out hb2)
  have HP4 := Lib.hid (HP3.out.b hb2)
  have HB3 := Lib.hid (bT HB2.out (below_one w2 (.cells #[.string s1, .string ⟨#[49]⟩, .string s2, .string ⟨#[49]⟩] 42)))
  have HP5 := Lib.hid (HP4.out.b (below_one w2 (.cells #[.string s1, .string ⟨#[49]⟩, .string s2, .string ⟨#[49]⟩] 42)))
  clear hb2 HP3 HP4
  go_wp2_with fail
  refine (HCO.out _ _ _ HB3.out HP5.out).mono ?_
  rintro e w3 ⟨rfl, hb3⟩
  go_wp2
  go_ret2; exact ⟨rfl, bT HB3.out hb3⟩
end Go.Proofs.YtbihoedcbmnccaaGreatDoor
/- enclosure: what is returned where a list or a size is wrong, or a number out of range. -/
namespace Go.Proofs.YtbihoedcbmnccaaGreatDoor
attribute [local go_sem ↓] Go.wp_at_zero Go.wp_at_succ
open Go.RowKit

/-- A comparison that says nothing. -/
abbrev noCmp : Value := .agg #[.int .i64 0, .int .i64 0, .slice none 0 0]
abbrev noRat : Value := .agg #[.string ⟨#[]⟩, .string ⟨#[]⟩]
/-- The error that is found first: of the size, else of a number out of range. -/
def badE (E c : Int) (out : Bool) : Prop := (E ≠ 0 ∧ c = E) ∨ (E = 0 ∧ out = true ∧ c = 3)

set_option maxHeartbeats 1600000 in
set_option maxRecDepth 100000 in
theorem enclose_bad (vp vs : Value) (ps : List Int) (xs : List (ByteArray × ByteArray)) (b c : Int) (w : World) (hS : St w) (h : Asked w vp vs ps xs) (hb : badE (errSize ps xs) c (decide (b < 0))) :
    Calls Tryz.prog 21 #[vp, vs, .int .i64 b] w fun e w' => e = .returned (.tuple #[noRat, noRat, .int .i64 c]) ∧ Below w.heap.size w w' := by
  have hck := fun W (hW : Below w.heap.size w W) => (h.b hW).check (hS.b hW)
  have HK := Lib.hid (K2.new w hS ⟨#[]⟩ ⟨#[]⟩ ⟨#[]⟩ ⟨#[]⟩)
  generalize errSize ps xs = E at *
  have hend : ∀ w3, K2 w w3 ⟨#[]⟩ ⟨#[]⟩ ⟨#[]⟩ ⟨#[]⟩ → K2 w w3 ⟨#[]⟩ ⟨#[]⟩ ⟨#[]⟩ ⟨#[]⟩ := fun _ h => h
  clear hend
  rcases hb with ⟨hE, rfl⟩ | ⟨rfl, hlt, rfl⟩
  · have hne : (c != 0) = true := by rw [bne_iff_ne]; exact hE
    clear hE
    go_enter Tryz.func21, Tryz.ntmps21
    go_wp2_with fail
    generalize (w.alloc (.cells #[.string ⟨#[]⟩, .string ⟨#[]⟩] 42)).alloc (.cells #[.string ⟨#[]⟩, .string ⟨#[]⟩] 42) = W at HK ⊢
    refine (hck _ HK.out.be).mono ?_
    rintro e w1 ⟨rfl, hb1⟩
    have HK1 := Lib.hid (HK.out.below hb1)
    clear hb1 hck HK
    obtain ⟨⟨a0, a1, a2, a3⟩, a4, a5, a6, a7, a8, a9, ⟨a10, a11⟩, ⟨a12, a13⟩, a14⟩ := two_facts HK1.out.one HK1.out.two (by omega) ⟨#[]⟩ ⟨#[]⟩
    have HPUT := Lib.hid (two_put HK1.out.one HK1.out.two (by omega) ⟨#[]⟩ ⟨#[]⟩ ⟨#[]⟩ ⟨#[]⟩)
    go_wp2
    refine box_ret3 rfl rfl rfl HPUT.out.1 HPUT.out.2.1 Tryz.underlying42 rfl sizeRat rfl rfl ?_
    exact ⟨rfl, HPUT.out.2.2 w HK1.out.be⟩
  · have hb0 : b < 0 := by simpa using hlt
    clear hlt
    go_enter Tryz.func21, Tryz.ntmps21
    go_wp2_with fail
    generalize (w.alloc (.cells #[.string ⟨#[]⟩, .string ⟨#[]⟩] 42)).alloc (.cells #[.string ⟨#[]⟩, .string ⟨#[]⟩] 42) = W at HK ⊢
    refine (hck _ HK.out.be).mono ?_
    rintro e w1 ⟨rfl, hb1⟩
    have HK1 := Lib.hid (HK.out.below hb1)
    clear hb1 hck HK
    obtain ⟨⟨a0, a1, a2, a3⟩, a4, a5, a6, a7, a8, a9, ⟨a10, a11⟩, ⟨a12, a13⟩, a14⟩ := two_facts HK1.out.one HK1.out.two (by omega) ⟨#[]⟩ ⟨#[]⟩
    have HPUT := Lib.hid (two_put HK1.out.one HK1.out.two (by omega) ⟨#[]⟩ ⟨#[]⟩ ⟨#[]⟩ ⟨#[]⟩)
    go_wp2
    refine box_ret3 rfl rfl rfl HPUT.out.1 HPUT.out.2.1 Tryz.underlying42 rfl sizeRat rfl rfl ?_
    exact ⟨rfl, HPUT.out.2.2 w HK1.out.be⟩

theorem cmp_new (w : World) : Bo (w.alloc (.cells #[.int .i64 0, .int .i64 0, .slice none 0 0] 51)) w.heap.size w.heap.size 51 [.int .i64 0, .int .i64 0, .slice none 0 0] ∧ Below w.heap.size w (w.alloc (.cells #[.int .i64 0, .int .i64 0, .slice none 0 0] 51)) :=
  ⟨Bo.new w _ _ (by show 3 ≤ maxLen; decide), below_one _ _⟩

set_option maxHeartbeats 1600000 in
set_option maxRecDepth 100000 in
theorem decide_bad (vp vs : Value) (ps : List Int) (xs : List (ByteArray × ByteArray)) (w : World) (hS : St w) (h : Asked w vp vs ps xs) (hE : (errSize ps xs != 0) = true) :
    Calls Tryz.prog 24 #[vp, vs] w fun e w' => e = .returned (.tuple #[noCmp, .int .i64 (errSize ps xs)]) ∧ Below w.heap.size w w' := by
  have hck := fun W (hW : Below w.heap.size w W) => (h.b hW).check (hS.b hW)
  have HA := Lib.hid (cmp_new w)
  generalize errSize ps xs = E at *
  go_enter Tryz.func24, Tryz.ntmps24
  go_wp2_with fail
  generalize w.alloc (.cells #[.int .i64 0, .int .i64 0, .slice none 0 0] 51) = W at HA ⊢
  refine (hck _ HA.out.2).mono ?_
  rintro e w1 ⟨rfl, hb1⟩
  have hr := HA.out.1.below hb1
  have r0 := hr.cell 0 (by simp)
  have r1 := hr.cell 1 (by simp)
  have r2 := hr.cell 2 (by simp)
  have f0 := hr.fz 0
  have f1 := hr.fz 1
  have f2 := hr.fz 2
  have l0 := hr.lt.2
  have HP := Lib.hid (three_put hr (.int .i64 0) (.int .i64 0) (.slice none 0 0))
  have HB1 := Lib.hid (bT HA.out.2 hb1)
  clear hr hb1
  go_wp2
  refine box_ret1 rfl rfl HP.out.1 Tryz.underlying51 rfl sizeComp rfl ?_
  exact ⟨rfl, belowG HB1.out HP.out.2 HB1.out.size (fun g hg => by cases hg; exact Nat.le_refl _)⟩

set_option maxHeartbeats 1600000 in
set_option maxRecDepth 100000 in
theorem order_bad (vp vs vs' : Value) (ps : List Int) (xs xs' : List (ByteArray × ByteArray)) (w : World) (hS : St w) (h1 : Asked w vp vs ps xs) (h2 : Asked w vp vs' ps xs') (E : Int)
    (hE : E = if errP ps ≠ 0 then errP ps else if errC ps.length xs ≠ 0 then errC ps.length xs else errC ps.length xs') (hne : (E != 0) = true) :
    Calls Tryz.prog 25 #[vp, vs, vs'] w fun e w' => e = .returned (.tuple #[noCmp, .int .i64 E]) ∧ Below w.heap.size w w' := by
  have hsb := fun W (hW : Below w.heap.size w W) => sub_err vp vs vs' ps xs xs' W (hS.b hW) (h1.b hW) (h2.b hW) E hE hne
  have HA := Lib.hid (cmp_new w)
  clear hE
  go_enter Tryz.func25, Tryz.ntmps25
  go_wp2_with fail
  generalize w.alloc (.cells #[.int .i64 0, .int .i64 0, .slice none 0 0] 51) = W at HA ⊢
  refine (hsb _ HA.out.2).mono ?_
  rintro e w1 ⟨rfl, hb1⟩
  have hr := HA.out.1.below hb1
  have r0 := hr.cell 0 (by simp)
  have r1 := hr.cell 1 (by simp)
  have r2 := hr.cell 2 (by simp)
  have f0 := hr.fz 0
  have f1 := hr.fz 1
  have f2 := hr.fz 2
  have l0 := hr.lt.2
  have HP := Lib.hid (three_put hr (.int .i64 0) (.int .i64 0) (.slice none 0 0))
  have HB1 := Lib.hid (bT HA.out.2 hb1)
  clear hr hb1
  go_wp2
  refine box_ret1 rfl rfl HP.out.1 Tryz.underlying51 rfl sizeComp rfl ?_
  exact ⟨rfl, belowG HB1.out HP.out.2 HB1.out.size (fun g hg => by cases hg; exact Nat.le_refl _)⟩

set_option maxHeartbeats 1600000 in
set_option maxRecDepth 100000 in
theorem verify_bad (vp vs : Value) (ps : List Int) (xs : List (ByteArray × ByteArray)) (a b : Int) (v : Value) (w : World) (hS : St w) (h : Asked w vp vs ps xs) (hE : (errSize ps xs != 0) = true) :
    Calls Tryz.prog 27 #[vp, vs, .agg #[.int .i64 a, .int .i64 b, v]] w fun e w' => e = .returned (.int .i64 (errSize ps xs)) ∧ Below w.heap.size w w' := by
  have hck := fun W (hW : Below w.heap.size w W) => (h.b hW).check (hS.b hW)
  have HA := Lib.hid (below_one w (.cells #[.int .i64 a, .int .i64 b, v] 51))
  generalize errSize ps xs = E at *
  go_enter Tryz.func27, Tryz.ntmps27
  go_wp2_with fail
  refine (hck _ HA.out).mono ?_
  rintro e w1 ⟨rfl, hb1⟩
  go_wp2
  go_ret; exact ⟨rfl, bT HA.out hb1⟩

set_option maxHeartbeats 1600000 in
set_option maxRecDepth 100000 in
theorem certain_bad (vp vs : Value) (ps : List Int) (xs : List (ByteArray × ByteArray)) (k c : Int) (w : World) (hS : St w) (h : Asked w vp vs ps xs) (hb : badE (errSize ps xs) c (decide (k < 0) || decide (9 < k))) :
    Calls Tryz.prog 65 #[vp, vs, .int .i64 k] w fun e w' => e = .returned (.tuple #[.int .i64 0, .string ⟨#[]⟩, .int .i64 c]) ∧ Below w.heap.size w w' := by
  have hck := fun W (hW : Below w.heap.size w W) => (h.b hW).check (hS.b hW)
  have hbo : Bo (w.alloc (.cells #[.int .i64 k] 3)) w.heap.size w.heap.size 3 [.int .i64 k] := Bo.new w _ _ (by simp [maxLen])
  have HBO := Lib.hid hbo
  have HA := Lib.hid (below_one w (.cells #[.int .i64 k] 3))
  clear hbo
  generalize errSize ps xs = E at *
  rcases hb with ⟨hE, rfl⟩ | ⟨rfl, ho, rfl⟩
  · have hne : (c != 0) = true := by rw [bne_iff_ne]; exact hE
    clear hE
    go_enter Tryz.func65, Tryz.ntmps65
    go_wp2_with fail
    refine (hck _ HA.out).mono ?_
    rintro e w1 ⟨rfl, hb1⟩
    go_wp2
    go_ret3; exact ⟨rfl, bT HA.out hb1⟩
  · have HO : Hid (k < 0 ∨ (0 ≤ k ∧ 9 < k)) := by
      rw [Bool.or_eq_true, decide_eq_true_eq, decide_eq_true_eq] at ho
      show _ ∨ _; omega
    clear ho
    go_enter Tryz.func65, Tryz.ntmps65
    go_wp2_with fail
    generalize w.alloc (.cells #[.int .i64 k] 3) = W at HBO HA ⊢
    refine (hck _ HA.out).mono ?_
    rintro e w1 ⟨rfl, hb1⟩
    have c0 := (HBO.out.below hb1).cell 0 (by simp)
    simp only [List.getElem_cons_zero] at c0
    rcases HO.out with hk | ⟨hk0, hk⟩
    · go_wp2
      go_ret3; exact ⟨rfl, bT HA.out hb1⟩
    · go_wp2
      go_ret3; exact ⟨rfl, bT HA.out hb1⟩

set_option maxHeartbeats 1600000 in
theorem cents_bad (vp vs : Value) (ps : List Int) (xs : List (ByteArray × ByteArray)) (k c : Int) (w : World) (hS : St w) (h : Asked w vp vs ps xs) (hb : badE (errSize ps xs) c (decide (k < 0) || decide (9 < k))) (hc : (c != 0) = true) :
    Calls Tryz.prog 22 #[vp, vs, .int .i64 k] w fun e w' => e = .returned (.tuple #[.string ⟨#[]⟩, .int .i64 c]) ∧ Below w.heap.size w w' := by
  have hce := certain_bad vp vs ps xs k c w hS h hb
  clear hb
  go_enter Tryz.func22, Tryz.ntmps22
  go_wp2_with fail
  refine hce.mono ?_
  rintro e w1 ⟨rfl, hb1⟩
  go_wp2
  go_ret2; exact ⟨rfl, hb1⟩
set_option maxHeartbeats 1600000 in
theorem narrow_bad (vp vs : Value) (ps : List Int) (xs : List (ByteArray × ByteArray)) (k c : Int) (w : World) (hS : St w) (h : Asked w vp vs ps xs) (hb : badE (errSize ps xs) c (decide (k < 0) || decide (9 < k))) :
    Calls Tryz.prog 23 #[vp, vs, .int .i64 k] w fun e w' => e = .returned (.tuple #[.int .i64 0, .int .i64 c]) ∧ Below w.heap.size w w' := by
  have hce := certain_bad vp vs ps xs k c w hS h hb
  clear hb
  go_enter Tryz.func23, Tryz.ntmps23
  go_wp2_with fail
  refine hce.mono ?_
  rintro e w1 ⟨rfl, hb1⟩
  go_wp2
  go_ret2; exact ⟨rfl, hb1⟩
end Go.Proofs.YtbihoedcbmnccaaGreatDoor
/- schismalaw14: few, none of a comparison that says nothing. -/
namespace Go.Proofs.YtbihoedcbmnccaaGreatDoor
attribute [local go_sem ↓] Go.wp_at_zero Go.wp_at_succ
open Go.RowKit

def okLen (s : ByteArray) : Bool := !((decide (5 < s.size) && decide (s.size ≤ 31)) || decide (40 < s.size))
def fewS (xs : List (ByteArray × ByteArray)) : Bool := xs.all fun x => okLen x.1 && okLen x.2
def fewB (n : Nat) (xs : List (ByteArray × ByteArray)) : Bool := fewS xs && (decide (n ≤ 7) && decide (xs.length ≤ 5))
/-- The ways of a length. -/
theorem okLen_ways (s : ByteArray) : ((s.size : Int) ≤ 5 ∧ okLen s = true) ∨ ((5 < (s.size : Int) ∧ (s.size : Int) ≤ 31) ∧ okLen s = false) ∨ ((31 < (s.size : Int) ∧ (s.size : Int) ≤ 40) ∧ okLen s = true) ∨ (40 < (s.size : Int) ∧ okLen s = false) := by
  unfold okLen
  by_cases h1 : s.size ≤ 5
  · exact .inl ⟨by omega, by rw [decide_eq_false (show ¬ 5 < s.size by omega), decide_eq_false (show ¬ 40 < s.size by omega)]; rfl⟩
  · by_cases h2 : s.size ≤ 31
    · exact .inr (.inl ⟨by omega, by rw [decide_eq_true (show 5 < s.size by omega), decide_eq_true h2]; rfl⟩)
    · by_cases h3 : s.size ≤ 40
      · exact .inr (.inr (.inl ⟨by omega, by rw [decide_eq_false h2, decide_eq_false (show ¬ 40 < s.size by omega), Bool.and_false]; rfl⟩))
      · exact .inr (.inr (.inr ⟨by omega, by rw [decide_eq_true (show 40 < s.size by omega), Bool.or_true]; rfl⟩))
theorem fewS_drop {xs : List (ByteArray × ByteArray)} {m : Nat} (hm : m < xs.length) : fewS (xs.drop m) = (okLen xs[m].1 && okLen xs[m].2 && fewS (xs.drop (m + 1))) := by
  unfold fewS
  rw [List.drop_eq_getElem_cons hm, List.all_cons]
theorem fewS_end {xs : List (ByteArray × ByteArray)} : fewS (xs.drop xs.length) = true := by unfold fewS; rw [List.drop_length]; rfl
theorem few_len {xs : List (ByteArray × ByteArray)} (h : fewS xs = true) : ∀ x ∈ xs, x.1.size ≤ 40 ∧ x.2.size ≤ 40 := by
  intro x hx
  have := List.all_eq_true.1 h x hx
  simp only [Bool.and_eq_true] at this
  have h1 := okLen_ways x.1
  have h2 := okLen_ways x.2
  rw [this.1] at h1
  rw [this.2] at h2
  simp only [Bool.true_eq_false, and_false, false_or, or_false] at h1 h2
  omega

/-- The end of few. -/
def FewEnd (w : World) (b : Bool) (e : Ending) (w' : World) : Prop := e = .returned (.bool b) ∧ Below w.heap.size w w'

set_option maxHeartbeats 3200000 in
set_option maxRecDepth 100000 in
theorem few_any (vp vs : Value) (ps : List Int) (xs : List (ByteArray × ByteArray)) (w : World) (hp : IntsAt w vp ps) (hx : SizeAt w vs xs) (hl : xs.length ≤ 9223372036854775807) (hlp : ps.length ≤ 9223372036854775807) :
    Calls Tryz.prog 19 #[vp, vs] w (FewEnd w (fewB ps.length xs)) := by
  obtain ⟨ap, cp, rfl⟩ := hp.form
  clear hp
  generalize ps.length = n at *
  have hvs : ∃ sa cs, vs = .slice sa xs.length cs := by
    rcases hx with ⟨rfl, a, c, rfl⟩ | ⟨_, g, o, c, rfl, _⟩
    · exact ⟨a, c, rfl⟩
    · exact ⟨_, c, rfl⟩
  obtain ⟨sa, cs, rfl⟩ := hvs
  have HX : Hid (∀ m, (h : m < xs.length) → ∃ g o, sa = some ⟨g, o, none⟩ ∧ RdS w g o xs) := by
    intro m h
    rcases hx with ⟨rfl, _⟩ | ⟨_, g, o, c, e, hr⟩
    · simp at h
    · injection e with e1; exact ⟨g, o, e1, hr⟩
  clear hx
  go_enter Tryz.func19, Tryz.ntmps19
  go_wp2
  go_loopw [5] (fun i wr => ∃ m : Nat, i = .int .i64 (m : Int) ∧ m ≤ xs.length ∧ Hid (fewS xs = fewS (xs.drop m)) ∧ Hid (Below w.heap.size w wr)) (fun i _ => xs.length - (intOf i).toNat)
  case atStart => exact ⟨0, rfl, by omega, rfl, Below.refl _ _⟩
  case round =>
    obtain ⟨m, rfl, hm, HF, HB⟩ := hrel
    rename World => wr
    by_cases hlt : m < xs.length
    · obtain ⟨g, o, rfl, hr⟩ := HX.out m hlt
      obtain ⟨k1, k2⟩ := (hr.b HB.out).2 m hlt
      have hfd := fewS_drop hlt
      have HFD := Lib.hid (HF.out.trans hfd)
      have hw1 := okLen_ways xs[m].1
      have hw2 := okLen_ways xs[m].2
      clear hr hfd HF
      generalize xs[m].1 = s at *
      generalize xs[m].2 = t at *
      have HW1 := Lib.hid hw1
      have HW2 := Lib.hid hw2
      have k1d : wr.drew.cell? ⟨g, o + m * 2, none⟩ = some (.string s) := (gOfB (Below.refl wr.heap.size wr).drew none).cell k1 (by simp)
      have k2d : wr.drew.cell? ⟨g, o + m * 2 + 1, none⟩ = some (.string t) := (gOfB (Below.refl wr.heap.size wr).drew none).cell k2 (by simp)
      have hbd := bT HB.out (Below.refl wr.heap.size wr).drew
      have HBD := Lib.hid hbd
      have hnb := below_one wr.drew (.cells #[.string s, .string t] 25)
      have k1a := (gOfB hnb none).cell k1d (by simp)
      have k2a := (gOfB hnb none).cell k2d (by simp)
      have HBA := Lib.hid (bT hbd hnb)
      have bo := Bo.new wr.drew 25 #[.string s, .string t] (by show 2 ≤ maxLen; decide)
      have n0 := bo.cell 0 (by simp)
      have n1 := bo.cell 1 (by simp)
      have HN := Lib.hid (And.intro n0 n1)
      clear hw1 hw2 hbd hnb bo n0 n1
      go_wp2
      go_region_held3 (fun V => V.cell? ⟨g, o + m * 2, none⟩ = some (.string s) ∧ V.cell? ⟨g, o + m * 2 + 1, none⟩ = some (.string t) ∧ Hid (Below w.heap.size w V))
        (first | assumption | exact ⟨k1d, k2d, HBD.out⟩ | exact ⟨k1a, k2a, HBA.out⟩) (fail)
      clear k1 k2 k1d k2d k1a k2a HBD
      go_wp2
      generalize hW1 : (wr.alloc (.cells #[.string s, .string t] 25)).drew = W1
      have HN2 : Hid (W1.cell? ⟨wr.heap.size, 0, none⟩ = some (.string s) ∧ W1.cell? ⟨wr.heap.size, 1, none⟩ = some (.string t)) := by rw [← hW1]; exact HN.out
      have HBW : Hid (Below w.heap.size w W1) := by rw [← hW1]; exact HBA.out
      clear HN HBA hW1
      go_loopw [26] (fun j wi => ∃ q : Nat, j = .int .i64 (q : Int) ∧ q ≤ 2 ∧ Hid (1 ≤ q → okLen s = true) ∧ Hid (2 ≤ q → okLen t = true) ∧ wi = W1) (fun j _ => 2 - (intOf j).toNat)
      case atStart => exact ⟨0, rfl, by omega, fun h => by omega, fun h => by omega, by trivial⟩
      case round =>
        obtain ⟨q, rfl, hq, Q1, Q2, rfl⟩ := hrel
        rename World => W1
        obtain ⟨n0, n1⟩ := HN2.out
        rcases (show q = 0 ∨ q = 1 ∨ q = 2 by omega) with rfl | rfl | rfl
        · clear n1
          rcases HW1.out with ⟨h, ho⟩ | ⟨⟨h, h'⟩, ho⟩ | ⟨⟨h, h'⟩, ho⟩ | ⟨h, ho⟩
          · have HO := Lib.hid ho
            clear ho
            go_wp2
            go_roundw
            case rel => exact ⟨1, by go_num, by omega, fun _ => HO.out, fun h => by omega, by trivial⟩
            case measure => simp [intOf]
          · have HO := Lib.hid ho
            clear ho
            go_wp2
            go_ret
            have e := HFD.out
            rw [HO.out] at e
            exact ⟨by unfold fewB; rw [e]; rfl, HBW.out⟩
          · have HO := Lib.hid ho
            clear ho
            go_wp2
            go_roundw
            case rel => exact ⟨1, by go_num, by omega, fun _ => HO.out, fun h => by omega, by trivial⟩
            case measure => simp [intOf]
          · have HO := Lib.hid ho
            clear ho
            go_wp2
            go_ret
            have e := HFD.out
            rw [HO.out] at e
            exact ⟨by unfold fewB; rw [e]; rfl, HBW.out⟩
        · clear n0
          rcases HW2.out with ⟨h, ho⟩ | ⟨⟨h, h'⟩, ho⟩ | ⟨⟨h, h'⟩, ho⟩ | ⟨h, ho⟩
          · have HO := Lib.hid ho
            clear ho
            go_wp2
            go_roundw
            case rel => exact ⟨2, by go_num, by omega, fun _ => Q1.out (by omega), fun _ => HO.out, by trivial⟩
            case measure => simp [intOf]
          · have HO := Lib.hid ho
            clear ho
            go_wp2
            go_ret
            have e := HFD.out
            rw [HO.out, Bool.and_false] at e
            exact ⟨by unfold fewB; rw [e]; rfl, HBW.out⟩
          · have HO := Lib.hid ho
            clear ho
            go_wp2
            go_roundw
            case rel => exact ⟨2, by go_num, by omega, fun _ => Q1.out (by omega), fun _ => HO.out, by trivial⟩
            case measure => simp [intOf]
          · have HO := Lib.hid ho
            clear ho
            go_wp2
            go_ret
            have e := HFD.out
            rw [HO.out, Bool.and_false] at e
            exact ⟨by unfold fewB; rw [e]; rfl, HBW.out⟩
        · clear n0 n1
          have e := HFD.out
          rw [Q1.out (by omega), Q2.out (by omega), Bool.true_and, Bool.true_and] at e
          have HE := Lib.hid e
          clear e
          go_wp2
          go_roundw
          case rel => exact ⟨m + 1, by go_num, by omega, HE.out, HBW.out⟩
          case measure => simp [intOf]; omega
    · obtain rfl : m = xs.length := by omega
      have e := HF.out
      rw [fewS_end] at e
      have HE := Lib.hid e
      clear e HF
      by_cases h1 : (n : Int) ≤ 7
      · have d1 : decide (n ≤ 7) = true := decide_eq_true (by omega)
        by_cases h2 : (xs.length : Int) ≤ 5
        · have d2 : decide (xs.length ≤ 5) = true := decide_eq_true (by omega)
          have HD := Lib.hid (And.intro d1 d2)
          clear d1 d2
          go_wp2
          go_ret
          exact ⟨by unfold fewB; rw [HE.out, HD.out.1, HD.out.2]; rfl, HB.out⟩
        · have d2 : decide (xs.length ≤ 5) = false := decide_eq_false (by omega)
          have HD := Lib.hid (And.intro d1 d2)
          clear d1 d2
          go_wp2
          go_ret
          exact ⟨by unfold fewB; rw [HE.out, HD.out.1, HD.out.2]; rfl, HB.out⟩
      · have d1 : decide (n ≤ 7) = false := decide_eq_false (by omega)
        have HD := Lib.hid d1
        clear d1
        go_wp2
        go_ret
        exact ⟨by unfold fewB; rw [HE.out, HD.out]; rfl, HB.out⟩

set_option maxHeartbeats 1600000 in
set_option maxRecDepth 100000 in
theorem same_none (w : World) : Calls Tryz.prog 32 #[noCmp, noCmp] w fun e w' => e = .returned (.bool true) ∧ Below w.heap.size w w' := by
  have h1 := cmp_new w
  generalize hW : w.alloc (.cells #[.int .i64 0, .int .i64 0, .slice none 0 0] 51) = W at h1
  have hs : W.heap.size = w.heap.size + 1 := by rw [← hW]; simp
  have h2 := cmp_new W
  rw [hs] at h2
  have hb2 := h2.2
  rw [← hs] at hb2
  have a := h1.1.below hb2
  have a0 := a.cell 0 (by simp)
  have a1 := a.cell 1 (by simp)
  have a2 := a.cell 2 (by simp)
  have b0 := h2.1.cell 0 (by simp)
  have b1 := h2.1.cell 1 (by simp)
  have b2 := h2.1.cell 2 (by simp)
  simp only [List.getElem_cons_succ, List.getElem_cons_zero] at a0 a1 a2 b0 b1 b2
  have HB := Lib.hid (bT h1.2 hb2)
  rw [← hW] at a0 a1 a2 b0 b1 b2 HB
  clear h1 h2 hb2 a hs hW
  go_enter Tryz.func32, Tryz.ntmps32
  go_wp2
  generalize (w.alloc (.cells #[.int .i64 0, .int .i64 0, .slice none 0 0] 51)).alloc (.cells #[.int .i64 0, .int .i64 0, .slice none 0 0] 51) = V at *
  go_loopw [5] (fun i wr => i = .int .i64 0 ∧ wr = V) (fun _ _ => 0)
  case atStart => exact ⟨rfl, rfl⟩
  case round =>
    obtain ⟨rfl, rfl⟩ := hrel
    go_wp2
    go_ret; exact ⟨rfl, HB.out⟩
set_option maxHeartbeats 1600000 in
set_option maxRecDepth 100000 in
theorem none_yes (w : World) : Calls Tryz.prog 26 #[noCmp] w fun e w' => e = .returned (.bool true) ∧ Below w.heap.size w w' := by
  have h1 := cmp_new w
  have a0 := h1.1.cell 0 (by simp)
  have a1 := h1.1.cell 1 (by simp)
  have a2 := h1.1.cell 2 (by simp)
  simp only [List.getElem_cons_succ, List.getElem_cons_zero] at a0 a1 a2
  have HB := Lib.hid h1.2
  have HS := Lib.hid (fun W => same_none W)
  clear h1
  go_enter Tryz.func26, Tryz.ntmps26
  go_wp2_with fail
  refine (HS.out _).mono ?_
  rintro e w1 ⟨rfl, hb1⟩
  go_wp2
  go_ret; exact ⟨rfl, bT HB.out hb1⟩
end Go.Proofs.YtbihoedcbmnccaaGreatDoor
/- schismalaw14.EnclosureErrors: the walk. -/
namespace Go.Proofs.YtbihoedcbmnccaaGreatDoor
attribute [local go_sem ↓] Go.wp_at_zero Go.wp_at_succ
open Go.RowKit

/-- Results that lie in memory: two fractions, then two comparisons that say nothing. -/
structure E1 (w W : World) (r s : Nat) : Prop where
  r : Bo W 0 r 42 [.string ⟨#[]⟩, .string ⟨#[]⟩]
  s : Bo W 0 s 42 [.string ⟨#[]⟩, .string ⟨#[]⟩]
  be : Below w.heap.size w W
structure E2 (w W : World) (r s c : Nat) : Prop extends E1 w W r s where
  c : Bo W 0 c 51 [.int .i64 0, .int .i64 0, .slice none 0 0]
structure E3 (w W : World) (r s c d : Nat) : Prop extends E2 w W r s c where
  d : Bo W 0 d 51 [.int .i64 0, .int .i64 0, .slice none 0 0]
theorem E1.below {w W V : World} {r s : Nat} (h : E1 w W r s) (hb : Below W.heap.size W V) : E1 w V r s := ⟨h.r.below hb, h.s.below hb, bT h.be hb⟩
theorem E2.below {w W V : World} {r s c : Nat} (h : E2 w W r s c) (hb : Below W.heap.size W V) : E2 w V r s c := ⟨h.toE1.below hb, h.c.below hb⟩
theorem E3.below {w W V : World} {r s c d : Nat} (h : E3 w W r s c d) (hb : Below W.heap.size W V) : E3 w V r s c d := ⟨h.toE2.below hb, h.d.below hb⟩
theorem E1.new {w W : World} (hb : Below w.heap.size w W) : E1 w ((W.alloc (.cells #[.string ⟨#[]⟩, .string ⟨#[]⟩] 42)).alloc (.cells #[.string ⟨#[]⟩, .string ⟨#[]⟩] 42)) W.heap.size (W.heap.size + 1) := by
  have h := box1 W ⟨#[]⟩ ⟨#[]⟩
  generalize hV : W.alloc (.cells #[.string ⟨#[]⟩, .string ⟨#[]⟩] 42) = V at h ⊢
  have hs : V.heap.size = W.heap.size + 1 := by rw [← hV]; simp
  have k := box1 V ⟨#[]⟩ ⟨#[]⟩
  exact ⟨(h.1.below k.2).mono (Nat.zero_le _), by rw [← hs]; exact k.1.mono (Nat.zero_le _), bT (bT hb h.2) k.2⟩
theorem E2.new {w W : World} {r s : Nat} (h : E1 w W r s) : E2 w (W.alloc (.cells #[.int .i64 0, .int .i64 0, .slice none 0 0] 51)) r s W.heap.size :=
  ⟨h.below (cmp_new W).2, (cmp_new W).1.mono (Nat.zero_le _)⟩
theorem E3.new {w W : World} {r s c : Nat} (h : E2 w W r s c) : E3 w (W.alloc (.cells #[.int .i64 0, .int .i64 0, .slice none 0 0] 51)) r s c W.heap.size :=
  ⟨h.below (cmp_new W).2, (cmp_new W).1.mono (Nat.zero_le _)⟩
theorem errSize_C (ps : List Int) (xs : List (ByteArray × ByteArray)) : errSize ps xs = if errP ps ≠ 0 then errP ps else if errC ps.length xs ≠ 0 then errC ps.length xs else errC ps.length xs := by
  unfold errSize errC
  by_cases h : errP ps ≠ 0
  · rw [if_pos h, if_pos h]
  · rw [if_neg h, if_neg h, ite_self]

set_option maxHeartbeats 6400000 in
set_option maxRecDepth 100000 in
theorem errors_law (vp vs : Value) (ps : List Int) (xs : List (ByteArray × ByteArray)) (w : World) (hS : St w) (hp : IntsAt w vp ps) (hx : SizeAt w vs xs) (hl : xs.length ≤ 9223372036854775807) (hlp : ps.length ≤ 9223372036854775807) :
    Calls Tryz.prog 4 #[vp, vs] w fun e w' => e = .returned (.bool true) ∧ Below w.heap.size w w' := by
  have HK := Lib.hid (fun W (hW : Below w.heap.size w W) => known_true W (hS.b hW))
  have hfw := fun W (hW : Below w.heap.size w W) => few_any vp vs ps xs W (hp.b hW) (hx.b hW) hl hlp
  cases hf : fewB ps.length xs with
  | false =>
    rw [hf] at hfw
    have HF := Lib.hid hfw
    clear hfw hf hp hx hl hlp hS
    go_enter Tryz.func4, Tryz.ntmps4
    go_wp2_with fail
    refine (HK.out _ (Below.refl _ _)).mono ?_
    rintro e w1 ⟨rfl, hb1⟩
    have B1 := Lib.hid hb1
    clear hb1
    go_wp2_with fail
    refine (HF.out _ B1.out).mono ?_
    rintro e w2 ⟨rfl, hb2⟩
    have B2 := Lib.hid (bT B1.out hb2)
    clear hb2
    go_wp2_with fail
    refine (HK.out _ B2.out).mono ?_
    rintro e w3 ⟨rfl, hb3⟩
    have B3 := Lib.hid (bT B2.out hb3)
    clear hb3
    go_wp2
    go_ret; exact ⟨rfl, B3.out⟩
  | true =>
    rw [hf] at hfw
    have hfs : fewS xs = true ∧ ps.length ≤ 7 ∧ xs.length ≤ 5 := by
      unfold fewB at hf
      simp only [Bool.and_eq_true, decide_eq_true_eq] at hf
      exact hf
    have hA : Asked w vp vs ps xs := ⟨hp, hx, fun x hx => by have := few_len hfs.1 x hx; omega, by omega, by omega⟩
    have HF := Lib.hid hfw
    have HC := Lib.hid (fun W (hW : Below w.heap.size w W) => (hA.b hW).check (hS.b hW))
    have HEN := Lib.hid (fun b c W (hW : Below w.heap.size w W) h => enclose_bad vp vs ps xs b c W (hS.b hW) (hA.b hW) h)
    have HDE := Lib.hid (fun W (hW : Below w.heap.size w W) h => decide_bad vp vs ps xs W (hS.b hW) (hA.b hW) h)
    have HOR := Lib.hid (fun W (hW : Below w.heap.size w W) h => order_bad vp vs vs ps xs xs W (hS.b hW) (hA.b hW) (hA.b hW) (errSize ps xs) (errSize_C ps xs) h)
    have HVE := Lib.hid (fun W (hW : Below w.heap.size w W) h => verify_bad vp vs ps xs 0 0 (.slice none 0 0) W (hS.b hW) (hA.b hW) h)
    have HCE := Lib.hid (fun k c W (hW : Below w.heap.size w W) h h0 => cents_bad vp vs ps xs k c W (hS.b hW) (hA.b hW) h h0)
    have HNA := Lib.hid (fun k c W (hW : Below w.heap.size w W) h => narrow_bad vp vs ps xs k c W (hS.b hW) (hA.b hW) h)
    have HNO := Lib.hid (fun W => none_yes W)
    clear hfw hf hp hx hl hlp hfs hA hS
    generalize errSize ps xs = E at *
    go_enter Tryz.func4, Tryz.ntmps4
    go_wp2_with fail
    refine (HK.out _ (Below.refl _ _)).mono ?_
    rintro e w1 ⟨rfl, hb1⟩
    have B1 := Lib.hid hb1
    clear hb1
    go_wp2_with fail
    refine (HF.out _ B1.out).mono ?_
    rintro e w2 ⟨rfl, hb2⟩
    have B2 := Lib.hid (bT B1.out hb2)
    clear hb2
    go_wp2_with fail
    refine (HC.out _ B2.out).mono ?_
    rintro e w3 ⟨rfl, hb3⟩
    have B3 := Lib.hid (bT B2.out hb3)
    clear hb3
    by_cases hE : E = 0
    · subst hE
      go_wp2_with fail
      refine (HEN.out (-1) 3 _ B3.out (.inr ⟨rfl, by decide, rfl⟩)).mono ?_
      rintro e w4 ⟨rfl, hb4⟩
      have E4 := Lib.hid (E1.new (bT B3.out hb4))
      clear hb4
      go_wp2_with fail
      generalize (w4.alloc (.cells #[.string ⟨#[]⟩, .string ⟨#[]⟩] 42)).alloc (.cells #[.string ⟨#[]⟩, .string ⟨#[]⟩] 42) = W4 at E4 ⊢
      refine (HCE.out 10 3 _ E4.out.be (.inr ⟨rfl, by decide, rfl⟩) rfl).mono ?_
      rintro e w5 ⟨rfl, hb5⟩
      have B5 := Lib.hid (bT E4.out.be hb5)
      clear hb5
      go_wp2_with fail
      refine (HNA.out (-1) 3 _ B5.out (.inr ⟨rfl, by decide, rfl⟩)).mono ?_
      rintro e w6 ⟨rfl, hb6⟩
      have B6 := Lib.hid (bT B5.out hb6)
      clear hb6
      go_wp2
      go_ret; exact ⟨rfl, B6.out⟩
    · have hne : (E != 0) = true := by rw [bne_iff_ne]; exact hE
      have heq : (E == 0) = false := by rw [beq_eq_false_iff_ne]; exact hE
      have HBD : Hid (∀ b, badE E E b) := fun b => .inl ⟨hE, rfl⟩
      have HNE := Lib.hid hne
      clear hE
      go_wp2_with fail
      refine (HEN.out 5 E _ B3.out (HBD.out _)).mono ?_
      rintro e w4 ⟨rfl, hb4⟩
      have E4 := Lib.hid (E1.new (bT B3.out hb4))
      clear hb4
      go_wp2_with fail
      generalize (w4.alloc (.cells #[.string ⟨#[]⟩, .string ⟨#[]⟩] 42)).alloc (.cells #[.string ⟨#[]⟩, .string ⟨#[]⟩] 42) = W4 at E4 ⊢
      generalize hs : w4.heap.size + 1 = bs at E4 ⊢
      generalize w4.heap.size = br at E4 hs ⊢
      clear hs
      refine (HDE.out _ E4.out.be HNE.out).mono ?_
      rintro e w5 ⟨rfl, hb5⟩
      have E5 := Lib.hid (E2.new (E4.out.below hb5))
      clear hb5 E4
      go_wp2_with fail
      generalize w5.alloc (.cells #[.int .i64 0, .int .i64 0, .slice none 0 0] 51) = W5 at E5 ⊢
      generalize w5.heap.size = bc at E5 ⊢
      refine (HOR.out _ E5.out.be HNE.out).mono ?_
      rintro e w6 ⟨rfl, hb6⟩
      have E6 := Lib.hid (E3.new (E5.out.below hb6))
      clear hb6 E5
      go_wp2_with fail
      generalize w6.alloc (.cells #[.int .i64 0, .int .i64 0, .slice none 0 0] 51) = W6 at E6 ⊢
      generalize w6.heap.size = bd at E6 ⊢
      refine (HCE.out 1 E _ E6.out.be (HBD.out _) HNE.out).mono ?_
      rintro e w7 ⟨rfl, hb7⟩
      have E7 := Lib.hid (E6.out.below hb7)
      clear hb7 E6
      go_wp2_with fail
      refine (HNA.out 1 E _ E7.out.be (HBD.out _)).mono ?_
      rintro e w8 ⟨rfl, hb8⟩
      have E8 := Lib.hid (E7.out.below hb8)
      clear hb8 E7
      have r0 := E8.out.r.cell 0 (by simp)
      have r1 := E8.out.r.cell 1 (by simp)
      have s0 := E8.out.s.cell 0 (by simp)
      have s1 := E8.out.s.cell 1 (by simp)
      have c0 := E8.out.c.cell 0 (by simp)
      have c1 := E8.out.c.cell 1 (by simp)
      have c2 := E8.out.c.cell 2 (by simp)
      simp only [List.getElem_cons_succ, List.getElem_cons_zero] at r0 r1 s0 s1 c0 c1 c2
      go_wp2_with fail
      refine (HNO.out _).mono ?_
      rintro e w9 ⟨rfl, hb9⟩
      have E9 := Lib.hid (E8.out.below hb9)
      clear hb9 E8 r0 r1 s0 s1 c0 c1 c2
      have d0 := E9.out.d.cell 0 (by simp)
      have d1 := E9.out.d.cell 1 (by simp)
      have d2 := E9.out.d.cell 2 (by simp)
      simp only [List.getElem_cons_succ, List.getElem_cons_zero] at d0 d1 d2
      go_wp2_with fail
      refine (HNO.out _).mono ?_
      rintro e w10 ⟨rfl, hb10⟩
      have E10 := Lib.hid (E9.out.below hb10)
      clear hb10 E9 d0 d1 d2
      go_wp2_with fail
      refine (HVE.out _ E10.out.be HNE.out).mono ?_
      rintro e w11 ⟨rfl, hb11⟩
      have B11 := Lib.hid (bT E10.out.be hb11)
      clear hb11 E10
      go_wp2
      go_ret; exact ⟨rfl, B11.out⟩
end Go.Proofs.YtbihoedcbmnccaaGreatDoor
/- Arguments that are lists of numbers and sizes, opened to what the walks read. -/
namespace Go.Proofs.YtbihoedcbmnccaaGreatDoor
open Go.ChangeShapes Go.WideShapes Go.ChangeAt Go.RowKit

theorem addr_ok {w : World} {a : Addr} {v : Value} (h : w.cell? a = some v) : a = ⟨a.block, a.off, none⟩ := by
  obtain ⟨b, o, s⟩ := a
  cases s with
  | none => rfl
  | some s =>
    exfalso
    unfold World.cell? at h
    split at h
    · simp at h
    · cases h
theorem addr_add (g o i : Nat) : (⟨g, o, none⟩ : Addr).add i = ⟨g, o + i, none⟩ := by
  unfold Addr.add
  split
  · rename_i h; subst h; rfl
  · rfl
theorem block_lt {w : World} {a : Addr} {v : Value} (h : w.cell? a = some v) : a.block < w.heap.size := by
  rcases Nat.lt_or_ge a.block w.heap.size with hlt | hge
  · exact hlt
  · exfalso
    unfold World.cell? at h
    simp only [Array.getElem?_eq_none hge] at h
    cases h
section
variable {H : Type} {enc : TypeId × Value → H}
theorem ints_of_trod {W : World} {t : TypeId} {a0 : Option Addr} {len cap : Nat} {d : DataW H} {p : List MemPlace} (ht : Tryz.prog.underlying t = some (.slice 3)) (h : DataW.Trod enc Tryz.prog W 0 (fun _ => true) true t (.slice a0 len cap) d p) :
    ∃ ps : List Int, IntsAt W (.slice a0 len cap) ps ∧ ps.length ≤ 9223372036854775807 := by
  obtain ⟨fuel, hf⟩ := h
  rcases open_ints ht Tryz.underlying3 (by kernel_rfl) hf with ⟨hcs, _⟩ | ⟨a, len', cap', zs, hcs, _, hl, hm, hz, _, hcell, _⟩
  · simp [Value.cells] at hcs
    obtain ⟨rfl, rfl, rfl⟩ := hcs
    exact ⟨[], .inl ⟨rfl, _, _, rfl⟩, by simp⟩
  · simp [Value.cells] at hcs
    obtain ⟨rfl, rfl, rfl⟩ := hcs
    have hz2 : zs.length = cap := hz
    clear hz
    have hlz : (zs.take len).length = len := by rw [List.length_take]; omega
    refine ⟨zs.take len, ?_, by rw [hlz]; unfold maxLen at hm; omega⟩
    by_cases h0 : len = 0
    · subst h0; exact .inl ⟨rfl, _, _, rfl⟩
    · have hc0 := hcell 0 (by omega)
      rw [show a.add 0 = a from rfl] at hc0
      have ha := addr_ok hc0
      refine .inr ⟨fun e => by rw [e] at hlz; simp at hlz; omega, a.block, a.off, cap, by rw [hlz, ← ha], block_lt hc0, fun j hj => ?_⟩
      rw [hlz] at hj
      have hcj := hcell j (by omega)
      rw [ha, addr_add] at hcj
      have e : (zs.take len).getD j 0 = zs.getD j 0 := by rw [List.getD_eq_getElem?_getD, List.getD_eq_getElem?_getD, List.getElem?_take, if_pos hj]
      rw [e]; exact hcj
def strV : Value → ByteArray
  | .string s => s
  | _ => ⟨#[]⟩
theorem size_of_trod {W : World} {t : TypeId} {a0 : Option Addr} {len cap : Nat} {d : DataW H} {p : List MemPlace} (ht : Tryz.prog.underlying t = some (.slice 42)) (h : DataW.Trod enc Tryz.prog W 0 (fun _ => true) true t (.slice a0 len cap) d p) :
    ∃ xs : List (ByteArray × ByteArray), SizeAt W (.slice a0 len cap) xs ∧ xs.length ≤ 9223372036854775807 := by
  obtain ⟨fuel, hf⟩ := h
  rcases Deep.open_slice_pairs ht Tryz.underlying42 (by kernel_rfl) rfl rfl (by kernel_rfl) (by kernel_rfl) hf with ⟨hcs, _⟩ | ⟨a, len', cap', m, n, V0, V1, D0, D1, P0, P1, hcs, _, hl, hm, hmm, _, hx⟩
  · simp [Value.cells] at hcs
    obtain ⟨rfl, rfl, rfl⟩ := hcs
    exact ⟨[], .inl ⟨rfl, _, _, rfl⟩, by simp⟩
  · simp [Value.cells] at hcs
    obtain ⟨rfl, rfl, rfl⟩ := hcs
    have hmm2 : m = cap := hmm
    clear hmm
    have hcell : ∀ j, j < len → W.cell? (a.add (j * 2)) = some (.string (strV (V0 j))) ∧ W.cell? (a.add (j * 2 + 1)) = some (.string (strV (V1 j))) := by
      intro j hj
      obtain ⟨h1, h2, h3, h4⟩ := hx j (by omega)
      obtain ⟨s, e1, _, _⟩ := DataW.trod_string Tryz.underlying25 h3
      obtain ⟨s', e2, _, _⟩ := DataW.trod_string Tryz.underlying25 h4
      injection e1 with e1
      injection e2 with e2
      rw [h1, h2, e1, e2]; exact ⟨rfl, rfl⟩
    refine ⟨(List.range len).map fun j => (strV (V0 j), strV (V1 j)), ?_, by rw [List.length_map, List.length_range]; unfold maxLen at hm; omega⟩
    by_cases h0 : len = 0
    · subst h0; exact .inl ⟨rfl, _, _, rfl⟩
    · have hc0 := (hcell 0 (by omega)).1
      rw [show a.add (0 * 2) = a from rfl] at hc0
      have ha := addr_ok hc0
      refine .inr ⟨fun e => by have := congrArg List.length e; rw [List.length_map, List.length_range] at this; simp at this; omega, a.block, a.off, cap, by rw [List.length_map, List.length_range, ← ha], block_lt hc0, fun j hj => ?_⟩
      rw [List.length_map, List.length_range] at hj
      have hcj := hcell j hj
      rw [ha, addr_add, addr_add, ← Nat.add_assoc] at hcj
      simpa using hcj
end
end Go.Proofs.YtbihoedcbmnccaaGreatDoor
