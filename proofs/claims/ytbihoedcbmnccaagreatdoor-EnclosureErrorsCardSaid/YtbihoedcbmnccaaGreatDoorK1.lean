/- What every walk uses: the variables of the library that the program's calls read (a table and two errors), and what stays of them behind a call that makes new memory alone. -/
import Derived.Test.YtbihoedcbmnccaaGreatDoorK0
import Derived.WalkKit
import Derived.WalkSpells
import Derived.WalkSmall
import Derived.RegionTactic
import Derived.ChangeAlike
import Derived.Deep.QuietTactic
import Derived.BigQuiet
import Derived.Deep.RegionWith
import Derived.Deep.DeepCutAuto
import Derived.Deep.LoopGhost
import Derived.RowKit3
import Derived.Lib.Hide
import Derived.Deep.DeepFit
import Derived.Lib.ItoaWalk
import Derived.Lib.ItoaMem
import Derived.BigCall
import Derived.BigGuard
import Derived.CellFam
import Derived.OwnWalk
import Derived.Laws.OwnMore
import Derived.Deep.AppendLies
namespace Go.Proofs.YtbihoedcbmnccaaGreatDoor
open Go.RowKit

theorem gPow : Tryz.prog.globalNamed "internal/strconv.uint64pow10" = some 3 := by kernel_rfl
theorem gSyn : Tryz.prog.globalNamed "strconv.ErrSyntax" = some 0 := by kernel_rfl
theorem gRng : Tryz.prog.globalNamed "strconv.ErrRange" = some 1 := by kernel_rfl

/-- What the calls read of the library's variables. -/
structure St (w : World) : Prop where
  big : 4 ≤ w.heap.size
  pow : Lib.TabIs Tryz.prog w "internal/strconv.uint64pow10" .u64 Lib.pow10Tab
  syn : ∃ tp p, w.var? Tryz.prog "strconv.ErrSyntax" = some #[.iface tp p]
  rng : ∃ tp p, w.var? Tryz.prog "strconv.ErrRange" = some #[.iface tp p]

theorem St.below {w w' : World} (h : St w) {B : Nat} (hB : 4 ≤ B) (hb : Below B w w') : St w' := by
  obtain ⟨h0, h1, ⟨t2, p2, h2⟩, ⟨t3, p3, h3⟩⟩ := h
  refine ⟨Nat.le_trans h0 hb.size, var?_below hb gPow (by omega) h1, ⟨t2, p2, var?_below hb gSyn (by omega) h2⟩, ⟨t3, p3, var?_below hb gRng (by omega) h3⟩⟩
theorem St.b {w w' : World} (h : St w) (hb : Below w.heap.size w w') : St w' := h.below h.big hb
theorem St.drew {w : World} (h : St w) : St w.drew := h.b (Below.refl _ _).drew
theorem St.drewN {w : World} (h : St w) (n : Nat) : St (w.drewN n) := h.b (below_drewN (Below.refl _ _) n)
theorem St.alloc {w : World} (h : St w) (o : Obj) : St (w.alloc o) := h.b ((Below.refl _ _).alloc (Nat.le_refl _) o)

theorem bcell {W w1 : World} {B : Nat} (hb : Below B W w1) : (∀ b o, b < B → w1.cell? ⟨b, o, none⟩ = W.cell? ⟨b, o, none⟩) ∧ (∀ b o, b < B → w1.frozen? ⟨b, o, none⟩ = W.frozen? ⟨b, o, none⟩) :=
  ⟨fun b o h => hb.cell (p := ⟨b, o, none⟩) h, fun b o h => hb.frozen (p := ⟨b, o, none⟩) h⟩
theorem bT {a b c : World} (h : Below a.heap.size a b) (k : Below b.heap.size b c) : Below a.heap.size a c := h.trans (k.mono h.size)

end Go.Proofs.YtbihoedcbmnccaaGreatDoor
/- Package whole, first part: split, join, Sign, Abs, Neg, Of, little at the texts of integers. -/
namespace Go.Proofs.YtbihoedcbmnccaaGreatDoor
open Go.RowKit

theorem ba_at0 {s : ByteArray} {b : UInt8} (h : s.data.toList.head? = some b) : ∃ h0 : 0 < s.size, s[0] = b := by
  rw [List.head?_eq_getElem?] at h
  obtain ⟨hl, e⟩ := List.getElem?_eq_some_iff.1 h
  exact ⟨by simpa using hl, e⟩
theorem I_at0_neg {n : Int} (hn : n < 0) : ∃ h0 : 0 < (I n).size, (I n)[0] = 45 := ba_at0 (I_head_neg hn)
theorem I_at0_pos {n : Int} (hn : ¬ n < 0) : ∃ h0 : 0 < (I n).size, 48 ≤ (I n)[0].toNat ∧ (I n)[0].toNat ≤ 57 := by
  rw [I_nonneg (show 0 ≤ n by omega)]
  obtain ⟨b, e, h1, h2, _⟩ := D_head n.toNat
  obtain ⟨h0, e0⟩ := ba_at0 e
  exact ⟨h0, by rw [e0]; exact ⟨h1, h2⟩⟩
theorem I_tail {n : Int} (hn : n < 0) : (I n).extract 1 (I n).size = D n.natAbs := by
  apply ba_ext
  rw [D_list]
  have e := I_neg_size hn
  have e2 := I_neg_list hn
  simp only [ByteArray.data_extract, Array.toList_extract, e2, List.extract_eq_take_drop, List.drop_one, List.tail_cons]
  rw [e, D_size, ← Lib.decDigits_length]; simp

set_option maxHeartbeats 400000 in
theorem split_neg (s : ByteArray) (w : World) (h0 : 0 < s.size) (h1 : s[0] = 45) :
    Calls Tryz.prog 52 #[.string s] w fun e w' => e = .returned (.tuple #[.bool true, .string (s.extract 1 s.size)]) ∧ Below w.heap.size w w' := by
  have hs : 1 ≤ s.size := h0
  go_enter Tryz.func52, Tryz.ntmps52
  go_wp2
  go_region
  all_goals (try go_wp2)
  all_goals go_ret2
  all_goals exact ⟨rfl, (Below.refl _ _).drew⟩
set_option maxHeartbeats 400000 in
theorem split_pos (s : ByteArray) (w : World) (h0 : 0 < s.size) (h1 : ((s[0].toNat : Int) == 45) = false) :
    Calls Tryz.prog 52 #[.string s] w fun e w' => e = .returned (.tuple #[.bool false, .string s]) ∧ Below w.heap.size w w' := by
  go_enter Tryz.func52, Tryz.ntmps52
  go_wp2
  go_ret2
  exact ⟨rfl, (Below.refl _ _)⟩
set_option maxHeartbeats 400000 in
theorem split_nil (s : ByteArray) (w : World) (h0 : s.size = 0) :
    Calls Tryz.prog 52 #[.string s] w fun e w' => e = .returned (.tuple #[.bool false, .string s]) ∧ Below w.heap.size w w' := by
  have h : decide (0 < s.size) = false := by simp [h0]
  clear h0
  go_enter Tryz.func52, Tryz.ntmps52
  go_wp2
  go_ret2
  exact ⟨rfl, (Below.refl _ _)⟩
theorem whole_split (n : Int) (w : World) :
    Calls Tryz.prog 52 #[.string (I n)] w fun e w' => e = .returned (.tuple #[.bool (decide (n < 0)), .string (D n.natAbs)]) ∧ Below w.heap.size w w' := by
  by_cases hn : n < 0
  · obtain ⟨h0, h1⟩ := I_at0_neg hn
    have h := split_neg (I n) w h0 h1
    rw [I_tail hn] at h; rw [decide_eq_true hn]; exact h
  · obtain ⟨h0, h1, h2⟩ := I_at0_pos hn
    have h := split_pos (I n) w h0 (by rw [beq_eq_false_iff_ne]; omega)
    rw [decide_eq_false hn]
    have e : I n = D n.natAbs := by rw [I_nonneg (by omega)]; congr 1; omega
    rw [e] at h ⊢; exact h

/-- join. -/
theorem I_of_D (n : Nat) : (⟨#[45]⟩ : ByteArray) ++ D n = ⟨(45 :: Lib.decDigits n).toArray⟩ := by
  apply ba_ext; simp [D_list]
theorem I_negD {n : Nat} (h : 0 < n) : (⟨#[45]⟩ : ByteArray) ++ D n = I (-(n : Int)) := by
  rw [I_of_D]; unfold I Lib.itoa; rw [if_pos (by omega), show (-(n : Int)).natAbs = n by omega]

/-- An integer of a sign and a magnitude; how many digits an integer has. -/
def sgn (b : Bool) (n : Nat) : Int := if b then -(n : Int) else n
def nd (n : Int) : Nat := Lib.nDigits n.natAbs
theorem sgn_abs (n : Int) : sgn (decide (n < 0)) n.natAbs = n := by unfold sgn; split <;> simp_all <;> omega
theorem ba_list (s : ByteArray) : s.toList = s.data.toList := ByteArray.toList_eq s
theorem D_is0 (n : Nat) : ((D n).toList == [48]) = decide (n = 0) := by
  rw [ba_list, D_list, Bool.eq_iff_iff, beq_iff_eq, decide_eq_true_iff]
  constructor
  · intro h; have := congrArg (dval 0) h; rw [dval_dec, dval_one, dv_eq] at this; exact this
  · rintro rfl; rw [dig_small (by decide)]; rfl
theorem I_is0 (n : Int) : ((I n).toList == [48]) = decide (n = 0) := by
  rcases Int.lt_or_le n 0 with h | h
  · rw [ba_list, I_neg_list h, decide_eq_false (by omega)]; rfl
  · rw [I_nonneg h, D_is0]; congr 1; rw [eq_iff_iff]; omega
theorem ndsz (n : Int) : (D n.natAbs).size = nd n := D_size _

set_option maxHeartbeats 400000 in
theorem join_f (s : ByteArray) (w : World) :
    Calls Tryz.prog 54 #[.bool false, .string s] w fun e w' => e = .returned (.string s) ∧ Below w.heap.size w w' := by
  go_enter Tryz.func54, Tryz.ntmps54
  go_wp2
  all_goals (go_ret; exact ⟨rfl, Below.refl _ _⟩)
set_option maxHeartbeats 400000 in
theorem join_t0 (s : ByteArray) (w : World) (h : (s.toList == [48]) = true) :
    Calls Tryz.prog 54 #[.bool true, .string s] w fun e w' => e = .returned (.string s) ∧ Below w.heap.size w w' := by
  go_enter Tryz.func54, Tryz.ntmps54
  go_wp2
  all_goals (go_ret; exact ⟨rfl, Below.refl _ _⟩)
set_option maxHeartbeats 400000 in
theorem join_t1 (s : ByteArray) (w : World) (h : (s.toList == [48]) = false) (hs : ¬ 9223372036854775807 < 1 + s.size) :
    Calls Tryz.prog 54 #[.bool true, .string s] w fun e w' => e = .returned (.string (⟨#[45]⟩ ++ s)) ∧ Below w.heap.size w w' := by
  go_enter Tryz.func54, Tryz.ntmps54
  go_wp2
  all_goals (go_ret; exact ⟨rfl, Below.refl _ _⟩)
theorem whole_join (b : Bool) (n : Nat) (w : World) (hn : Lib.nDigits n ≤ 1000000) :
    Calls Tryz.prog 54 #[.bool b, .string (D n)] w fun e w' => e = .returned (.string (I (sgn b n))) ∧ Below w.heap.size w w' := by
  have hs : ¬ 9223372036854775807 < 1 + (D n).size := by rw [D_size]; omega
  cases b
  · rw [show sgn false n = (n : Int) from rfl, I_nat]; exact join_f _ _
  · by_cases h0 : n = 0
    · subst h0; rw [show sgn true 0 = ((0 : Nat) : Int) from rfl, I_nat]; exact join_t0 _ _ (by rw [D_is0]; rfl)
    · rw [show sgn true n = -(n : Int) from rfl, ← I_negD (by omega)]; exact join_t1 _ _ (by rw [D_is0]; exact decide_eq_false h0) hs

set_option maxHeartbeats 400000 in
theorem whole_Sign (n : Int) (w : World) :
    Calls Tryz.prog 68 #[.string (I n)] w fun e w' => e = .returned (.int .i64 n.sign) ∧ Below w.heap.size w w' := by
  rcases Int.lt_trichotomy n 0 with h | h | h
  · obtain ⟨h0, h1⟩ := I_at0_neg h
    have hz : ((I n).toList == [48]) = false := by rw [I_is0]; exact decide_eq_false (by omega)
    rw [Int.sign_eq_neg_one_of_neg h]
    generalize I n = s at h0 h1 hz ⊢
    go_enter Tryz.func68, Tryz.ntmps68
    go_wp2
    go_ret; exact ⟨rfl, Below.refl _ _⟩
  · subst h
    have hz : ((I 0).toList == [48]) = true := by rw [I_is0]; rfl
    rw [Int.sign_zero]
    generalize I 0 = s at hz ⊢
    go_enter Tryz.func68, Tryz.ntmps68
    go_wp2
    go_ret; exact ⟨rfl, Below.refl _ _⟩
  · obtain ⟨h0, h1, h2⟩ := I_at0_pos (show ¬ n < 0 by omega)
    have hz : ((I n).toList == [48]) = false := by rw [I_is0]; exact decide_eq_false (by omega)
    rw [Int.sign_eq_one_of_pos h]
    have h3 : (((I n)[0].toNat : Int) == 45) = false := by rw [beq_eq_false_iff_ne]; omega
    clear h1 h2
    generalize I n = s at h0 h3 hz ⊢
    go_enter Tryz.func68, Tryz.ntmps68
    go_wp2
    go_ret; exact ⟨rfl, Below.refl _ _⟩

set_option maxHeartbeats 400000 in
theorem whole_Abs (n : Int) (w : World) :
    Calls Tryz.prog 66 #[.string (I n)] w fun e w' => e = .returned (.string (D n.natAbs)) ∧ Below w.heap.size w w' := by
  go_enter Tryz.func66, Tryz.ntmps66
  go_wp2_with fail
  refine (whole_split n _).mono ?_
  rintro e w1 ⟨rfl, hb1⟩
  go_wp2
  go_ret; exact ⟨rfl, hb1⟩
set_option maxHeartbeats 400000 in
theorem whole_Neg (n : Int) (w : World) (hn : nd n ≤ 1000000) :
    Calls Tryz.prog 55 #[.string (I n)] w fun e w' => e = .returned (.string (I (-n))) ∧ Below w.heap.size w w' := by
  have e1 : sgn (!decide (n < 0)) n.natAbs = -n := by unfold sgn; split <;> simp_all <;> omega
  go_enter Tryz.func55, Tryz.ntmps55
  go_wp2_with fail
  refine (whole_split n _).mono ?_
  rintro e w1 ⟨rfl, hb1⟩
  go_wp2_with fail

  refine (whole_join _ _ _ hn).mono ?_
  rintro e w2 ⟨rfl, hb2⟩
  go_wp2
  go_ret; exact ⟨rfl, bT hb1 hb2⟩

end Go.Proofs.YtbihoedcbmnccaaGreatDoor
/- strconv.FormatUint at base 10: the decimal text of every uint64; and the decimal package's Of, Small, both over it. -/
namespace Go.Proofs.YtbihoedcbmnccaaGreatDoor
open Go.RowKit Go.Sort Go.Lib

theorem grow_below (w : World) (k : Nat) (os : Array Obj) : Below w.heap.size w (grow (w.drewN k) os) := by
  refine ⟨rfl, rfl, rfl, by simp [grow], fun i hi => ?_⟩
  simp [grow, Array.getElem?_append, hi]

set_option maxHeartbeats 1600000 in
set_option maxRecDepth 100000 in
theorem formatUint_i (u : Nat) (hu64 : u < 18446744073709551616) (w : World) (htab : Lib.TabIs Tryz.prog w "internal/strconv.uint64pow10" .u64 Lib.pow10Tab) :
    Calls Tryz.prog 199 #[.int .u64 u, .int .i64 10] w fun e w' => e = .returned (.string (D u)) ∧ Below w.heap.size w w' := by
  by_cases hs : u < 100
  · have hlt : decide ((u : Int) < 100) = true := decide_eq_true (by omega)
    have h1 : IntKind.i64.wrap (u : Int) = (u : Int) := IntWalk.i64_in _ (by omega)
    go_enter Tryz.func199, Tryz.ntmps199
    go_wp2_with (go_at_call 215; refine (Tryz.internal_strconv_small u hs _).mono ?_; rintro e w' ⟨rfl, rfl⟩)
    go_ret
    exact ⟨rfl, Below.refl _ _⟩
  · have hlt : decide ((u : Int) < 100) = false := decide_eq_false (by omega)
    have hu1 : 1 ≤ u := by omega
    have hnd20 : Lib.nDigits u ≤ 20 := by have := Lib.numDigits_eq u hu1 hu64; split at this <;> omega
    have hb3 : Lib.nDigits u ≤ 24 := by omega
    have hal : Tryz.prog.arrayLen 255 = 24 := by kernel_rfl
    have hsl1 : ∀ W, (Instr.sliceAt 255 (.pointer (some ⟨w.heap.size, 0, none⟩)) none (some (.int .i64 (Lib.nDigits u : Int))) none).run Tryz.prog W = .ok (.slice (some ⟨w.heap.size, 0, none⟩) (Lib.nDigits u) 24) W := fun W => by
      rw [run_sliceAt_array_h W 255 ⟨w.heap.size, 0, none⟩ (by kernel_rfl) .i64 (Lib.nDigits u : Int) (by omega) (by rw [hal]; omega)]
      go_simp
    have hH0 : Holds (fun (b : UInt8) => Value.int .u8 (b.toNat : Int)) (w.alloc (.cells zeros24 255)) w.heap.size 0 (Array.replicate (Lib.nDigits u) (0 : UInt8)) := fun j hj => by
      have hj' : j < Lib.nDigits u := by simpa using hj
      refine ⟨?_, World.frozen?_alloc_new _ _ _ _⟩
      rw [World.cell?_alloc_new, zeros24_at _ (by omega), getElem!_pos _ j hj]
      simp
    have hfmt := Tryz.internal_strconv_formatBase10 w.heap.size 0 24 u (Array.replicate (Lib.nDigits u) 0) (w.alloc (.cells Lib.zeros24 255)) hH0 (by rw [Array.size_replicate]; exact Lib.lt_pow_nDigits u) hu64 (by rw [Array.size_replicate]; omega)
    rw [Array.size_replicate] at hfmt
    have HH0 := Lib.hid hH0
    clear hH0 hal
    go_enter Tryz.func199, Tryz.ntmps199
    go_wp2_with (go_at_call 216; refine (Tryz.internal_strconv_numDigits u hu1 hu64 _ (Lib.tabIs_alloc htab _)).mono ?_; rintro e w' ⟨rfl, rfl⟩)
    refine hfmt.mono ?_
    rintro e w' ⟨rfl, k, v', dk, rfl, hF⟩
    have hcv : (convert 176 9 (.slice (some ⟨w.heap.size, 0, none⟩) (Lib.nDigits u) 24)).run Tryz.prog ((putRow (fun (b : UInt8) => Value.int .u8 (b.toNat : Int)) (w.alloc (.cells Lib.zeros24 255)) w.heap.size 0 dk).drewN k) = .ok (.string ⟨(Lib.decDigits u).toArray⟩) ((putRow (fun (b : UInt8) => Value.int .u8 (b.toNat : Int)) (w.alloc (.cells Lib.zeros24 255)) w.heap.size 0 dk).drewN k) := by
      have h := run_convert_bytes_back (P := Tryz.prog) ((putRow (fun (b : UInt8) => Value.int .u8 (b.toNat : Int)) (w.alloc (.cells Lib.zeros24 255)) w.heap.size 0 dk).drewN k) 176 9 5 ⟨w.heap.size, 0, none⟩ 24 (Lib.decDigits u) (by kernel_rfl) (by kernel_rfl) (by kernel_rfl) (fun j hj => by
        rw [Lib.row_is_numeral hF j hj, Lib.add_plain, World.cell?_drewN]
        exact cell?_putRow (fun (b : UInt8) => Value.int .u8 (b.toNat : Int)) _ w.heap.size 0 _ dk HH0.out (by rw [hF.size, Array.size_replicate]) j (by rw [hF.size]; rw [Lib.decDigits_length] at hj; exact hj))
      rw [Lib.decDigits_length] at h
      exact h
    go_wp2
    go_ret
    refine ⟨rfl, ?_⟩
    rw [alloc_eq_grow]
    obtain ⟨os', _, e⟩ := putRow_grow_new (fun (b : UInt8) => Value.int .u8 (b.toNat : Int)) w #[.cells Lib.zeros24 255] w.heap.size 0 dk (Nat.le_refl _)
    rw [e]; exact grow_below w k os'
end Go.Proofs.YtbihoedcbmnccaaGreatDoor
/- Package decimal, first part: Of, Small, both; package whole: Of, little, Small. -/
namespace Go.Proofs.YtbihoedcbmnccaaGreatDoor
open Go.RowKit

set_option maxHeartbeats 400000 in
theorem formatUint (u : Nat) (hu : u < 18446744073709551616) (w : World) (hS : St w) :
    Calls Tryz.prog 167 #[.int .u64 u, .int .i64 10] w fun e w' => e = .returned (.string (D u)) ∧ Below w.heap.size w w' := by
  go_enter Tryz.func167, Tryz.ntmps167
  go_wp2_with fail
  refine (formatUint_i u hu w hS.pow).mono ?_
  rintro e w1 ⟨rfl, hb1⟩
  go_wp2
  go_ret; exact ⟨rfl, hb1⟩
set_option maxHeartbeats 400000 in
theorem decimal_Of (u : Nat) (hu : u < 18446744073709551616) (w : World) (hS : St w) :
    Calls Tryz.prog 118 #[.int .u64 u] w fun e w' => e = .returned (.string (D u)) ∧ Below w.heap.size w w' := by
  go_enter Tryz.func118, Tryz.ntmps118
  go_wp2_with fail
  refine (formatUint u hu w hS).mono ?_
  rintro e w1 ⟨rfl, hb1⟩
  go_wp2
  go_ret; exact ⟨rfl, hb1⟩

theorem bytes_b (w : World) (e : TypeId) (s : ByteArray) : Below w.heap.size w (Lib.bytesWorld w e s) :=
  ⟨rfl, rfl, rfl, by rw [Lib.bytesWorld_size]; omega, fun j hj => Lib.bytesWorld_at_old w e s j hj⟩

theorem sz_lim {n k : Nat} (h : Lib.nDigits n ≤ k) : (D n).size ≤ k := by rw [D_size]; exact h

set_option maxHeartbeats 400000 in
theorem decimal_Small (n : Nat) (hn : n < 18446744073709551616) (w : World) :
    Calls Tryz.prog 152 #[.string (D n)] w fun e w' => e = .returned (.tuple #[.int .u64 n, .bool true]) ∧ Below w.heap.size w w' := by
  have hz : (D n).size ≤ 9223372036854775806 := Nat.le_trans (sz_lim (nDigits_le (k := 20) (by omega) (by omega))) (by omega)
  go_enter Tryz.func152, Tryz.ntmps152
  go_wp2_with fail
  refine (Tryz.strconv_ParseUint_10_at64_ok (D n) hz n (parseUintB_D hn) w).mono ?_
  rintro e w1 ⟨rfl, hb⟩
  have hb1 : Below w.heap.size w w1 := by
    rcases hb with rfl | rfl
    · exact Below.refl _ _
    · exact bytes_b _ _ _
  clear hb
  go_wp2
  go_ret2; exact ⟨rfl, hb1⟩
set_option maxHeartbeats 400000 in
theorem decimal_Small_big (n : Nat) (hn : 18446744073709551616 ≤ n) (hz : Lib.nDigits n ≤ 1000000) (w : World) (hS : St w) :
    Calls Tryz.prog 152 #[.string (D n)] w fun e w' => e = .returned (.tuple #[.int .u64 0, .bool false]) ∧ Below w.heap.size w w' := by
  obtain ⟨tp, p, hv⟩ := hS.rng
  have hz := sz_lim hz
  go_enter Tryz.func152, Tryz.ntmps152
  go_wp2_with fail
  refine (Tryz.strconv_ParseUint_10_at64_range_var (D n) (by omega) (parseUintB_D_range hn) tp p w hv).mono ?_
  rintro e w1 ⟨N, rfl, _, _, hb1⟩
  go_wp2
  go_ret2; exact ⟨rfl, hb1⟩

set_option maxHeartbeats 400000 in
theorem decimal_both (a b : Nat) (ha : Lib.nDigits a ≤ 18) (hb : Lib.nDigits b ≤ 18) (w : World) :
    Calls Tryz.prog 117 #[.string (D a), .string (D b)] w fun e w' => e = .returned (.tuple #[.int .u64 a, .int .u64 b, .bool true]) ∧ Below w.heap.size w w' := by
  have h1 : a < 10 ^ 18 := lt_of_nDigits_le ha
  have h2 : b < 10 ^ 18 := lt_of_nDigits_le hb
  have s1 := sz_lim ha
  have s2 := sz_lim hb
  go_enter Tryz.func117, Tryz.ntmps117
  go_wp2_with fail
  refine (decimal_Small a (by omega) _).mono ?_
  rintro e w1 ⟨rfl, hb1⟩
  go_wp2_with fail
  refine (decimal_Small b (by omega) _).mono ?_
  rintro e w2 ⟨rfl, hb2⟩
  go_wp2
  go_ret3; exact ⟨rfl, bT hb1 hb2⟩
set_option maxHeartbeats 400000 in
theorem decimal_both_no (a b : Nat) (h : ¬ (Lib.nDigits a ≤ 18 ∧ Lib.nDigits b ≤ 18)) (w : World) :
    Calls Tryz.prog 117 #[.string (D a), .string (D b)] w fun e w' => e = .returned (.tuple #[.int .u64 0, .int .u64 0, .bool false]) ∧ Below w.heap.size w w' := by
  by_cases s1 : 18 < (D a).size
  · go_enter Tryz.func117, Tryz.ntmps117
    go_wp2
    go_ret3; exact ⟨rfl, Below.refl _ _⟩
  · have s2 : 18 < (D b).size := by rw [D_size] at *; omega
    go_enter Tryz.func117, Tryz.ntmps117
    go_wp2
    go_ret3; exact ⟨rfl, Below.refl _ _⟩
set_option maxHeartbeats 400000 in
theorem whole_Of (n : Int) (h0 : -9223372036854775808 ≤ n) (h1 : n ≤ 9223372036854775807) (w : World) (hS : St w) :
    Calls Tryz.prog 57 #[.int .i64 n] w fun e w' => e = .returned (.string (I n)) ∧ Below w.heap.size w w' := by
  go_enter Tryz.func57, Tryz.ntmps57
  go_wp2_with fail
  refine (Tryz.strconv_Itoa n h0 h1 w hS.pow).mono ?_
  rintro e w1 ⟨rfl, k, os, rfl⟩
  have hb1 := grow_below w k os
  generalize Go.Sort.grow (w.drewN k) os = w1 at hb1 ⊢
  go_wp2
  go_ret; exact ⟨rfl, hb1⟩

theorem I_lim {n : Int} {k : Nat} (h : (I n).size ≤ k) (hk : k ≤ 18) : -1000000000000000000 < n ∧ n < 1000000000000000000 := by
  have h1 := I_size_le h
  have h2 : 10 ^ k ≤ 10 ^ 18 := Nat.pow_le_pow_right (by decide) hk
  have h3 : (10 : Nat) ^ 18 = 1000000000000000000 := by decide
  omega
set_option maxHeartbeats 400000 in
theorem little_yes (n : Int) (m : Int) (hm : m ≤ 18) (h : ((I n).size : Int) ≤ m) (w : World) :
    Calls Tryz.prog 56 #[.string (I n), .int .i64 m] w fun e w' => e = .returned (.tuple #[.int .i64 n, .bool true]) ∧ Below w.heap.size w w' := by
  have hz := I_lim (show (I n).size ≤ m.toNat by omega) (by omega)
  go_enter Tryz.func56, Tryz.ntmps56
  go_wp2_with fail
  refine (Tryz.strconv_Atoi_ok (I n) (by omega) n (atoiAll_I (by omega) (by omega)) w).mono ?_
  rintro e w1 ⟨rfl, hb⟩
  have hb1 : Below w.heap.size w w1 := by
    rcases hb with rfl | ⟨t, rfl⟩
    · exact Below.refl _ _
    · exact bytes_b _ _ _
  clear hb
  go_wp2
  go_region
  all_goals (try go_wp2)
  all_goals (go_ret2; exact ⟨rfl, hb1.drew⟩)
set_option maxHeartbeats 400000 in
theorem little_no (n : Int) (m : Int) (h : m < ((I n).size : Int)) (w : World) :
    Calls Tryz.prog 56 #[.string (I n), .int .i64 m] w fun e w' => e = .returned (.tuple #[.int .i64 0, .bool false]) ∧ Below w.heap.size w w' := by
  go_enter Tryz.func56, Tryz.ntmps56
  go_wp2
  go_ret2; exact ⟨rfl, Below.refl _ _⟩
end Go.Proofs.YtbihoedcbmnccaaGreatDoor
/- Plain facts about numbers as lists of limbs to a base, the least one first. -/
namespace Go.Proofs.YtbihoedcbmnccaaGreatDoor

/-- The number of a list of limbs. -/
def val (b : Nat) : List Nat → Nat
  | [] => 0
  | x :: r => x + b * val b r
theorem val_nil (b : Nat) : val b [] = 0 := rfl
theorem val_cons (b x : Nat) (r : List Nat) : val b (x :: r) = x + b * val b r := rfl
theorem val_append (b : Nat) (l r : List Nat) : val b (l ++ r) = val b l + b ^ l.length * val b r := by
  induction l with
  | nil => simp [val_nil]
  | cons x t ih => rw [List.cons_append, val_cons, val_cons, ih, List.length_cons, Nat.pow_succ, Nat.mul_add, Nat.add_assoc, Nat.mul_comm (b ^ t.length) b, Nat.mul_assoc]
theorem val_one (b x : Nat) : val b [x] = x := by simp [val_cons, val_nil]
theorem val_snoc (b x : Nat) (l : List Nat) : val b (l ++ [x]) = val b l + b ^ l.length * x := by rw [val_append, val_one]
theorem val_replicate (b n : Nat) : val b (List.replicate n 0) = 0 := by
  induction n with
  | zero => rfl
  | succ n ih => rw [List.replicate_succ, val_cons, ih]; simp
/-- All limbs are less than the base. -/
def Lim (b : Nat) (l : List Nat) : Prop := ∀ x ∈ l, x < b
theorem Lim.nil (b : Nat) : Lim b [] := fun _ h => by simp at h
theorem Lim.append {b : Nat} {l r : List Nat} (h : Lim b l) (k : Lim b r) : Lim b (l ++ r) := fun x hx => by
  rcases List.mem_append.1 hx with hx | hx
  · exact h x hx
  · exact k x hx
theorem Lim.left {b : Nat} {l r : List Nat} (h : Lim b (l ++ r)) : Lim b l := fun x hx => h x (List.mem_append_left _ hx)
theorem Lim.right {b : Nat} {l r : List Nat} (h : Lim b (l ++ r)) : Lim b r := fun x hx => h x (List.mem_append_right _ hx)
theorem Lim.take {b : Nat} {l : List Nat} (h : Lim b l) (k : Nat) : Lim b (l.take k) := fun x hx => h x (List.mem_of_mem_take hx)
theorem Lim.drop {b : Nat} {l : List Nat} (h : Lim b l) (k : Nat) : Lim b (l.drop k) := fun x hx => h x (List.mem_of_mem_drop hx)
theorem Lim.one {b x : Nat} (h : x < b) : Lim b [x] := fun y hy => by simp at hy; omega
theorem Lim.zeros {b : Nat} (hb : 0 < b) (n : Nat) : Lim b (List.replicate n 0) := fun x hx => by rw [List.eq_of_mem_replicate hx]; exact hb
theorem Lim.set {b : Nat} {l : List Nat} (h : Lim b l) (j : Nat) {x : Nat} (hx : x < b) : Lim b (l.set j x) := fun y hy => by
  rcases List.mem_or_eq_of_mem_set hy with hy | rfl
  · exact h y hy
  · exact hx
theorem Lim.get {b : Nat} (hb : 0 < b) {l : List Nat} (h : Lim b l) (j : Nat) : l.getD j 0 < b := by
  rw [List.getD_eq_getElem?_getD]
  by_cases hj : j < l.length
  · rw [List.getElem?_eq_getElem hj]; exact h _ (List.getElem_mem hj)
  · rw [List.getElem?_eq_none (by omega)]; exact hb
theorem val_lt {b : Nat} {l : List Nat} (h : Lim b l) : val b l < b ^ l.length := by
  induction l with
  | nil => simp [val_nil]
  | cons x t ih =>
    rw [val_cons, List.length_cons, Nat.pow_succ]
    have h1 := ih fun y hy => h y (List.mem_cons_of_mem _ hy)
    have h2 := h x (List.mem_cons_self ..)
    have h3 : b * (val b t + 1) ≤ b * b ^ t.length := Nat.mul_le_mul_left b h1
    rw [Nat.mul_comm (b ^ t.length) b, Nat.mul_add] at *
    omega
/-- A limb is put in its place. -/
theorem val_set (b : Nat) (x : Nat) : ∀ (l : List Nat) (j : Nat), j < l.length → val b (l.set j x) + b ^ j * l.getD j 0 = val b l + b ^ j * x := by
  intro l
  induction l with
  | nil => intro j h; simp at h
  | cons a t ih =>
    intro j h
    cases j with
    | zero => simp only [List.set_cons_zero, val_cons, Nat.pow_zero, Nat.one_mul, List.getD_cons_zero]; omega
    | succ j =>
      have := ih j (by simpa using h)
      simp only [List.set_cons_succ, val_cons, List.getD_cons_succ, Nat.pow_succ, Nat.mul_comm (b ^ j) b, Nat.mul_assoc]
      have e : b * (val b (t.set j x) + b ^ j * t.getD j 0) = b * (val b t + b ^ j * x) := by rw [this]
      rw [Nat.mul_add, Nat.mul_add] at e
      omega
theorem val_take_drop (b : Nat) (l : List Nat) (k : Nat) (h : k ≤ l.length) : val b l = val b (l.take k) + b ^ k * val b (l.drop k) := by
  have := val_append b (l.take k) (l.drop k)
  rw [List.take_append_drop, List.length_take, Nat.min_eq_left h] at this; exact this
theorem take_snoc (l : List Nat) (k : Nat) (h : k < l.length) : l.take (k + 1) = l.take k ++ [l.getD k 0] := by
  rw [List.take_succ_eq_append_getElem h, List.getD_eq_getElem?_getD, List.getElem?_eq_getElem h]; rfl
theorem drop_cons (l : List Nat) (k : Nat) (h : k < l.length) : l.drop k = l.getD k 0 :: l.drop (k + 1) := by
  rw [List.drop_eq_getElem_cons h, List.getD_eq_getElem?_getD, List.getElem?_eq_getElem h]; rfl
theorem val_take_succ (b : Nat) (l : List Nat) (k : Nat) (h : k < l.length) : val b (l.take (k + 1)) = val b (l.take k) + b ^ k * l.getD k 0 := by
  rw [take_snoc l k h, val_snoc, List.length_take, Nat.min_eq_left (by omega)]
theorem val_drop_succ (b : Nat) (l : List Nat) (k : Nat) (h : k < l.length) : val b (l.drop k) = l.getD k 0 + b * val b (l.drop (k + 1)) := by
  rw [drop_cons l k h, val_cons]
/-- The same number of limbs and the same number: the same limbs. -/
theorem val_inj {b : Nat} : ∀ (l r : List Nat), Lim b l → Lim b r → l.length = r.length → val b l = val b r → l = r
  | [], [], _, _, _, _ => rfl
  | [], _ :: _, _, _, h, _ => by simp at h
  | _ :: _, [], _, _, h, _ => by simp at h
  | x :: l, y :: r, hl, hr, h, e => by
    have hx := hl x (List.mem_cons_self ..)
    have hy := hr y (List.mem_cons_self ..)
    rw [val_cons, val_cons] at e
    have e1 : x = y := by
      have := congrArg (· % b) e
      simpa [Nat.add_mul_mod_self_left, Nat.mod_eq_of_lt hx, Nat.mod_eq_of_lt hy] using this
    subst e1
    have e2 : val b l = val b r := Nat.eq_of_mul_eq_mul_left (show 0 < b by omega) (Nat.add_left_cancel e)
    rw [val_inj l r (fun z hz => hl z (List.mem_cons_of_mem _ hz)) (fun z hz => hr z (List.mem_cons_of_mem _ hz)) (by simpa using h) e2]
/-- Without zeros at the end. -/
def Trimmed (l : List Nat) : Prop := ∀ h : l ≠ [], l.getLast h ≠ 0
theorem Trimmed.nil : Trimmed [] := fun h => absurd rfl h
theorem Trimmed.ge {b : Nat} (_hb : 0 < b) {l : List Nat} (h : Trimmed l) (hl : l ≠ []) : b ^ (l.length - 1) ≤ val b l := by
  obtain ⟨t, x, rfl⟩ : ∃ t x, l = t ++ [x] := ⟨l.dropLast, l.getLast hl, (List.dropLast_concat_getLast hl).symm⟩
  have hx : x ≠ 0 := by have := h hl; simpa using this
  rw [val_snoc, List.length_append, List.length_singleton, Nat.add_sub_cancel]
  exact Nat.le_trans (Nat.le_mul_of_pos_right _ (by omega)) (Nat.le_add_left _ _)
theorem Trimmed.pos {b : Nat} (hb : 0 < b) {l : List Nat} (h : Trimmed l) (hl : l ≠ []) : 0 < val b l := Nat.lt_of_lt_of_le (Nat.pow_pos hb) (h.ge hb hl)
theorem trimmed_getD {l : List Nat} (h : Trimmed l) (hl : 0 < l.length) : l.getD (l.length - 1) 0 ≠ 0 := by
  have hne : l ≠ [] := by intro e; subst e; simp at hl
  have := h hne
  rwa [List.getLast_eq_getElem, ← Option.getD_some (a := l[l.length - 1]) (b := 0), ← List.getElem?_eq_getElem, ← List.getD_eq_getElem?_getD] at this
theorem trimmed_of_getD {l : List Nat} (h : l.getD (l.length - 1) 0 ≠ 0) : Trimmed l := fun hl => by
  have hp : l.length - 1 < l.length := by have := List.length_pos_iff.2 hl; omega
  rwa [List.getLast_eq_getElem, ← Option.getD_some (a := l[l.length - 1]) (b := 0), ← List.getElem?_eq_getElem, ← List.getD_eq_getElem?_getD]
/-- Trimmed limbs are those of their number alone. -/
theorem trimmed_length {b : Nat} (hb : 1 < b) {l r : List Nat} (hl : Lim b l) (hr : Trimmed r) (hrl : Lim b r) (e : val b r ≤ val b l) : r.length ≤ l.length := by
  have _ := hrl
  by_cases hn : r = []
  · subst hn; simp
  · have h1 := hr.ge (b := b) (by omega) hn
    have h2 := val_lt hl
    rcases Nat.lt_or_ge l.length r.length with h | h
    · exfalso
      have : b ^ l.length ≤ b ^ (r.length - 1) := Nat.pow_le_pow_right (by omega) (by omega)
      exact absurd (Nat.lt_of_le_of_lt e h2) (Nat.not_lt.2 (Nat.le_trans this h1))
    · exact h
theorem trimmed_eq {b : Nat} (hb : 1 < b) {l r : List Nat} (hl : Lim b l) (hr : Lim b r) (tl : Trimmed l) (tr : Trimmed r) (e : val b l = val b r) : l = r :=
  val_inj l r hl hr (Nat.le_antisymm (trimmed_length hb hr tl hl (Nat.le_of_eq e)) (trimmed_length hb hl tr hr (Nat.le_of_eq e.symm))) e

end Go.Proofs.YtbihoedcbmnccaaGreatDoor
/- Rows of machine words in memory, as the walks use them. -/
namespace Go.Proofs.YtbihoedcbmnccaaGreatDoor
open Go.RowKit

/-- Words as values. -/
def u64v (x : Nat) : Value := Value.int .u64 ((x : Nat) : Int)
def u64s (xs : List Nat) : List Value := xs.map u64v
theorem u64s_length (xs : List Nat) : (u64s xs).length = xs.length := List.length_map ..
theorem u64s_at (xs : List Nat) (j : Nat) (h : j < xs.length) : (u64s xs)[j]? = some (.int .u64 ((xs.getD j 0 : Nat) : Int)) := by
  unfold u64s; rw [List.getElem?_map, List.getElem?_eq_getElem h, List.getD_eq_getElem?_getD, List.getElem?_eq_getElem h]; rfl
theorem u64s_set (xs : List Nat) (j x : Nat) : (u64s xs).set j (.int .u64 ((x : Nat) : Int)) = u64s (xs.set j x) := by
  unfold u64s; rw [List.map_set]; rfl
theorem u64s_append (xs ys : List Nat) : u64s (xs ++ ys) = u64s xs ++ u64s ys := List.map_append ..
/-- A slice of words that the call owns: its block is new since B blocks lay. -/
abbrev Ow (w : World) (B : Nat) (v : Value) (xs : List Nat) : Prop := w.ownsRow B 151 1 v xs.length (u64s xs)
/-- The slice of a block's first n words. -/
abbrev sv (g n cap : Nat) : Value := .slice (some ⟨g, 0, none⟩) n cap
theorem Ow.cell {w : World} {B g cap : Nat} {xs : List Nat} (h : Ow w B (sv g xs.length cap) xs) (j : Nat) (hj : j < xs.length) : w.cell? ⟨g, j, none⟩ = some (.int .u64 ((xs.getD j 0 : Nat) : Int)) := by
  rw [World.ownsRow.cellAt h j (by omega), u64s_at xs j hj]
theorem Ow.capb {w : World} {B g n cap : Nat} {xs : List Nat} (h : Ow w B (sv g n cap) xs) : n ≤ cap ∧ n = xs.length ∧ cap ≤ 9223372036854775807 ∧ B ≤ g ∧ g < w.heap.size := by
  have hl := World.ownsRow.lt h g rfl
  rcases h.2 with ⟨e, _⟩ | ⟨g', cap', cur, e, h1, h2, h3, h4, h5, _⟩
  · cases e
  · cases e; exact ⟨h3, rfl, h4, hl.1, hl.2⟩
theorem Ow.fz {w : World} {B g cap : Nat} {xs : List Nat} (h : Ow w B (sv g xs.length cap) xs) (j : Nat) : w.frozen? ⟨g, j, none⟩ = false := World.ownsRow.frozenAt h j
theorem Ow.put {w : World} {B g cap : Nat} {xs : List Nat} (h : Ow w B (sv g xs.length cap) xs) (j x : Nat) : Ow (w.setCell ⟨g, j, none⟩ (.int .u64 ((x : Nat) : Int))) B (sv g (xs.set j x).length cap) (xs.set j x) := by
  have := (World.ownsRow.stored h j (.int .u64 ((x : Nat) : Int))).1
  unfold Ow sv
  rw [List.length_set, ← u64s_set]; exact this
theorem Ow.putg {w : World} {B g cap : Nat} {xs : List Nat} (h : Ow w B (sv g xs.length cap) xs) (j x : Nat) : w.grownBy (w.setCell ⟨g, j, none⟩ (.int .u64 ((x : Nat) : Int))) (some g) :=
  (World.ownsRow.stored h j (.int .u64 ((x : Nat) : Int))).2
theorem Ow.pre {w : World} {B g cap : Nat} {xs : List Nat} (h : Ow w B (sv g xs.length cap) xs) {n : Nat} (hn : n ≤ xs.length) : Ow w B (sv g (xs.take n).length cap) (xs.take n) := by
  have hl : (xs.take n).length = n := by rw [List.length_take, Nat.min_eq_left hn]
  unfold Ow sv; rw [hl]
  rcases h.2 with ⟨e, _⟩ | ⟨g', cap', cur, e, h1, h2, h3, h4, h5, h6⟩
  · cases e
  · cases e
    refine ⟨by rw [u64s_length, hl]; omega, .inr ⟨g, cap, cur, rfl, h1, h2, by omega, h4, h5, ?_⟩⟩
    have := congrArg (List.take n) h6
    rw [List.take_take, Nat.min_eq_left (by omega)] at this
    rw [Nat.mul_one, this]; unfold u64s; rw [List.map_take]
theorem Ow.below {w w' : World} {B g cap : Nat} {xs : List Nat} (h : Ow w B (sv g xs.length cap) xs) (hb : Below w.heap.size w w') : Ow w' B (sv g xs.length cap) xs :=
  h.kept (row := none) ⟨hb.os, hb.tape, hb.output, hb.size, fun i hi _ => hb.block i hi⟩ (by simp [Value.ownBlock])
theorem Ow.rd {w : World} {B g cap : Nat} {xs : List Nat} (h : Ow w B (sv g xs.length cap) xs) : g < w.heap.size ∧ ∀ j, j < xs.length → w.cell? ⟨g, 0 + j, none⟩ = some (.int .u64 ((xs.getD j 0 : Nat) : Int)) :=
  ⟨h.capb.2.2.2.2, fun j hj => by rw [Nat.zero_add]; exact h.cell j hj⟩
theorem Ow.mono {w : World} {B B' g n cap : Nat} {xs : List Nat} (h : Ow w B (sv g n cap) xs) (hB : B' ≤ B) : Ow w B' (sv g n cap) xs := by
  refine ⟨h.1, ?_⟩
  rcases h.2 with ⟨e, _⟩ | ⟨g', cap', cur, e, h1, h2⟩
  · cases e
  · exact .inr ⟨g', cap', cur, e, Nat.le_trans hB h1, h2⟩
theorem info_u64 : (Tryz.prog.info? 151).map (fun i => (i.zero, i.size, i.bytes)) = some (some (.int .u64 0), 1, 8) := by kernel_rfl
theorem made_u64 (n : Nat) : (madeCells (Value.int .u64 0).cells (n * 1)).toList = u64s (List.replicate n 0) := by
  rw [Nat.mul_one, show (Value.int .u64 0).cells = #[Value.int .u64 0] from rfl, toList_madeCells_one]
  unfold u64s; rw [List.map_replicate]; rfl
theorem bOfG {w w' : World} (h : w.grownBy w' none) : Below w.heap.size w w' := ⟨h.os, h.tape, h.output, h.size, fun k hk => h.block k hk (by simp)⟩
theorem gOfB {w w' : World} (h : Below w.heap.size w w') (r : Option Nat) : w.grownBy w' r := ⟨h.os, h.tape, h.output, h.size, fun k hk _ => h.block k hk⟩
/-- What is written in a new block leaves all that lay before as it was. -/
theorem belowG {B : Nat} {a b c : World} (h : Below B a b) {r : Option Nat} (k : b.grownBy c r) (hB : B ≤ b.heap.size) (hr : ∀ g, r = some g → B ≤ g) : Below B a c := h.grown k hB hr
theorem gtrans {a b c : World} {r : Option Nat} (h : a.grownBy b r) (k : b.grownBy c r) : a.grownBy c r :=
  ⟨k.os.trans h.os, k.tape.trans h.tape, k.output.trans h.output, Nat.le_trans h.size k.size, fun i hi hr => (k.block i (Nat.lt_of_lt_of_le hi h.size) hr).trans (h.block i hi hr)⟩
/-- The words of a slice that is only read. -/
def Rd (w : World) (g o : Nat) (xs : List Nat) : Prop := g < w.heap.size ∧ ∀ j, j < xs.length → w.cell? ⟨g, o + j, none⟩ = some (.int .u64 ((xs.getD j 0 : Nat) : Int))
theorem Rd.grown {w w' : World} {g o : Nat} {xs : List Nat} (h : Rd w g o xs) {r : Option Nat} (hg : w.grownBy w' r) (hne : some g ≠ r) : Rd w' g o xs :=
  ⟨Nat.lt_of_lt_of_le h.1 hg.size, fun j hj => hg.cell (h.2 j hj) hne⟩

theorem news1 (w : World) (v : Value) (t : TypeId) : ∀ j u, [v][j]? = some u → (w.alloc (.cells #[v] t)).cell? ((⟨w.heap.size, 0, none⟩ : Addr).add j) = some u := by
  intro j u h
  cases j with
  | zero =>
    simp at h; subst h
    rw [show (⟨w.heap.size, 0, none⟩ : Addr).add 0 = ⟨w.heap.size, 0, none⟩ from rfl, World.cell?_alloc_new]; rfl
  | succ j => simp at h
theorem one1 (k : IntKind) (n : Int) : ∀ u ∈ [Value.int k n], u.oneCell' = true := by intro u hu; simp at hu; subst hu; rfl
/-! ### back: other words are added at a place -/
def base : Nat := 1000000000
theorem base_eq : base = 1000000000 := rfl
theorem base_pos : 0 < base := by decide
/-- What holds of back's list and carry behind k words. -/
structure BackInv (xs ys : List Nat) (at_ k : Nat) (zs : List Nat) (c : Nat) : Prop where
  len : zs.length = xs.length
  lim : Lim base zs
  rest : zs.drop (at_ + k) = xs.drop (at_ + k)
  sum : val base (zs.take (at_ + k)) + base ^ (at_ + k) * c = val base (xs.take (at_ + k)) + base ^ at_ * val base (ys.take k)
  low : zs.take at_ = xs.take at_
  carry : c ≤ 1

theorem getD_rest {xs zs : List Nat} {j : Nat} (h : zs.drop j = xs.drop j) : zs.getD j 0 = xs.getD j 0 := by
  have := congrArg (fun l => l.getD 0 0) h
  simpa [List.getD_eq_getElem?_getD, List.getElem?_drop] using this
theorem drop_set_after (zs : List Nat) (j x : Nat) : (zs.set j x).drop (j + 1) = zs.drop (j + 1) := by
  rw [List.drop_set]; simp
theorem drop_rest {xs zs : List Nat} {j : Nat} (h : zs.drop j = xs.drop j) : zs.drop (j + 1) = xs.drop (j + 1) := by
  have := congrArg (List.drop 1) h
  simpa [List.drop_drop] using this
theorem take_set_low (zs : List Nat) (j k x : Nat) (h : k ≤ j) : (zs.set j x).take k = zs.take k := by
  rw [List.take_set_of_le h]
theorem take_set_succ (zs : List Nat) (j x : Nat) (h : j < zs.length) : (zs.set j x).take (j + 1) = zs.take j ++ [x] := by
  rw [Go.Proofs.YtbihoedcbmnccaaGreatDoor.take_snoc _ _ (by simpa using h), take_set_low _ _ _ _ (Nat.le_refl _), List.getD_eq_getElem?_getD, List.getElem?_set_self h]; rfl
/-- One word more, whatever is added at it. -/
theorem back_step {xs ys zs : List Nat} {at_ k c y : Nat} (h : BackInv xs ys at_ k zs c) (hj : at_ + k < xs.length) (hy : y < base)
    (hs : val base (ys.take (k + 1)) = val base (ys.take k) + base ^ k * y) :
    BackInv xs ys at_ (k + 1) (zs.set (at_ + k) ((c + zs.getD (at_ + k) 0 + y) % base)) ((c + zs.getD (at_ + k) 0 + y) / base) := by
  have hz := h.lim.get base_pos (at_ + k)
  have hjz : at_ + k < zs.length := by rw [h.len]; exact hj
  have e := getD_rest h.rest
  refine ⟨by rw [List.length_set, h.len], h.lim.set _ (Nat.mod_lt _ base_pos), ?_, ?_, ?_, ?_⟩
  · rw [← Nat.add_assoc, drop_set_after]; exact drop_rest h.rest
  · rw [← Nat.add_assoc, take_set_succ _ _ _ hjz, val_snoc, List.length_take, Nat.min_eq_left (by omega), val_take_succ _ _ _ hj, hs, ← e]
    have h1 := h.sum
    have h2 := Nat.div_add_mod (c + zs.getD (at_ + k) 0 + y) base
    generalize (c + zs.getD (at_ + k) 0 + y) % base = r at h2 ⊢
    generalize (c + zs.getD (at_ + k) 0 + y) / base = q at h2 ⊢
    rw [Nat.pow_succ, Nat.mul_add, Nat.mul_assoc (base ^ (at_ + k)), ← Nat.mul_assoc (base ^ at_), ← Nat.pow_add]
    have h3 : base ^ (at_ + k) * r + base ^ (at_ + k) * (base * q) = base ^ (at_ + k) * c + base ^ (at_ + k) * zs.getD (at_ + k) 0 + base ^ (at_ + k) * y := by
      rw [← Nat.mul_add, ← Nat.mul_add, ← Nat.mul_add]; congr 1; omega
    omega
  · rw [take_set_low _ _ _ _ (by omega)]; exact h.low
  · have := h.carry
    have : c + zs.getD (at_ + k) 0 + y < 2 * base := by omega
    have := Nat.div_lt_of_lt_mul (show c + zs.getD (at_ + k) 0 + y < base * 2 by omega)
    omega

set_option maxHeartbeats 800000 in
theorem back_any (B g cap gq oq capq : Nat) (xs ys : List Nat) (at_ : Nat) (w : World) (hx : Lim base xs) (hy : Lim base ys)
    (hp : Ow w B (sv g xs.length cap) xs) (hq : Rd w gq oq ys) (hne : gq ≠ g) (hat : at_ + ys.length < xs.length) (hsz : xs.length ≤ 1000000000) :
    Calls Tryz.prog 119 #[sv g xs.length cap, .slice (some ⟨gq, oq, none⟩) ys.length capq, .int .i64 (at_ : Int)] w fun e w' =>
      e = .returned (.tuple #[]) ∧ ∃ zs c, BackInv xs ys at_ (ys.length + 1) zs c ∧ Ow w' B (sv g xs.length cap) zs ∧ w.grownBy w' (some g) := by
  go_enter Tryz.func119, Tryz.ntmps119
  go_wp2
  go_loopw [6, 7] (fun c k wr => ∃ (cn kn : Nat) (zs : List Nat), c = .int .u64 (cn : Int) ∧ k = .int .i64 (kn : Int) ∧ kn ≤ ys.length + 1 ∧ cn ≤ 1 ∧ Hid (BackInv xs ys at_ kn zs cn) ∧ Hid (Ow wr B (sv g xs.length cap) zs) ∧ w.grownBy wr (some g)) (fun _ k _ => ys.length + 1 - (intOf k).toNat)
  case atStart =>
    refine ⟨0, 0, xs, rfl, rfl, by omega, by omega, ⟨rfl, hx, rfl, ?_, rfl, by omega⟩, hp, World.grownBy.refl _ _⟩
    simp [val_nil]
  case round =>
    obtain ⟨cn, kn, zs, rfl, rfl, hk, hc1, HI, HO, hg⟩ := hrel
    rename World => w0
    have hl := HI.out.len
    by_cases hend : kn ≤ ys.length
    · have hO := HO.out
      rw [← hl] at hO
      have hcz := hO.cell (at_ + kn) (by omega)
      have hfz := hO.fz (at_ + kn)
      have hz := HI.out.lim.get base_pos (at_ + kn)
      rw [base_eq] at hz
      have HOO := Lib.hid hO
      clear hO hl
      generalize hzz : zs.getD (at_ + kn) 0 = z at hcz hz
      have HZ := Lib.hid hzz
      clear hzz
      by_cases hlt : kn < ys.length
      · have hcy := (hq.grown hg (by simp [hne])).2 kn hlt
        have hyy := hy.get base_pos kn
        rw [base_eq] at hyy
        generalize hyg : ys.getD kn 0 = y at hcy hyy
        have HY := Lib.hid hyg
        clear hyg
        go_wp2
        go_roundw
        case rel =>
          have st := back_step HI.out (show at_ + kn < xs.length by omega) (hy.get base_pos kn) (val_take_succ base ys kn hlt)
          have e1 : ((cn : Int) + (z : Int) + (y : Int)) / 1000000000 = (((cn + zs.getD (at_ + kn) 0 + ys.getD kn 0) / base : Nat) : Int) := by rw [HZ.out, HY.out, base_eq]; omega
          have e2 : ((cn : Int) + (z : Int) + (y : Int)) % 1000000000 = (((cn + zs.getD (at_ + kn) 0 + ys.getD kn 0) % base : Nat) : Int) := by rw [HZ.out, HY.out, base_eq]; omega
          rw [e1, e2]
          have hput := Ow.put HOO.out (at_ + kn) ((cn + zs.getD (at_ + kn) 0 + ys.getD kn 0) % base)
          rw [st.len] at hput
          exact ⟨_, kn + 1, _, rfl, by go_num, by omega, st.carry, st, hput, gtrans hg (Ow.putg HOO.out _ _)⟩
        case measure => simp [intOf]; omega
      · go_wp2
        go_roundw
        case rel =>
          obtain rfl : kn = ys.length := by omega
          have st := back_step (y := 0) HI.out (show at_ + ys.length < xs.length by omega) base_pos (by rw [List.take_of_length_le (Nat.le_succ _), List.take_of_length_le (Nat.le_refl _)]; simp)
          have e1 : ((cn : Int) + (z : Int)) / 1000000000 = (((cn + zs.getD (at_ + ys.length) 0 + 0) / base : Nat) : Int) := by rw [HZ.out, base_eq]; omega
          have e2 : ((cn : Int) + (z : Int)) % 1000000000 = (((cn + zs.getD (at_ + ys.length) 0 + 0) % base : Nat) : Int) := by rw [HZ.out, base_eq]; omega
          rw [e1, e2]
          have hput := Ow.put HOO.out (at_ + ys.length) ((cn + zs.getD (at_ + ys.length) 0 + 0) % base)
          rw [st.len] at hput
          exact ⟨_, ys.length + 1, _, rfl, by go_num, by omega, st.carry, st, hput, gtrans hg (Ow.putg HOO.out _ _)⟩
        case measure => simp [intOf]; omega
    · go_wp2
      go_end0
      obtain rfl : kn = ys.length + 1 := by omega
      exact ⟨rfl, zs, cn, HI.out, HO.out, hg⟩
end Go.Proofs.YtbihoedcbmnccaaGreatDoor
/- decimal: trim, take, compare. -/
namespace Go.Proofs.YtbihoedcbmnccaaGreatDoor
open Go.RowKit

/-! ### trim -/
theorem take_zero_val {xs : List Nat} {n : Nat} (h : n < xs.length) (hz : xs.getD n 0 = 0) : val base (xs.take (n + 1)) = val base (xs.take n) := by
  rw [val_take_succ _ _ _ h, hz]; omega
set_option maxHeartbeats 400000 in
theorem trim_any (B g cap : Nat) (xs : List Nat) (w : World) (hp : Ow w B (sv g xs.length cap) xs) :
    Calls Tryz.prog 120 #[sv g xs.length cap] w fun e w' =>
      ∃ n, n ≤ xs.length ∧ e = .returned (sv g n cap) ∧ Trimmed (xs.take n) ∧ val base (xs.take n) = val base xs ∧ w' = w := by
  have hcap := hp.capb.1
  have hcm := hp.capb.2.2.1
  go_enter Tryz.func120, Tryz.ntmps120
  go_wp2
  go_loop [0] (fun p => ∃ n : Nat, p = sv g n cap ∧ n ≤ xs.length ∧ Hid (val base (xs.take n) = val base xs)) (fun p => match p with | .slice _ n _ => n | _ => 0)
  case atStart => exact ⟨xs.length, rfl, Nat.le_refl _, by rw [List.take_length]; rfl⟩
  case round =>
    obtain ⟨n, rfl, hn, HV⟩ := hrel
    by_cases h0 : 0 < n
    · have hc := hp.cell (n - 1) (by omega)
      by_cases hz : xs.getD (n - 1) 0 = 0
      · rw [hz] at hc
        obtain ⟨m, rfl⟩ : ∃ m, n = m + 1 := ⟨n - 1, by omega⟩
        simp only [Nat.add_sub_cancel] at hc hz
        have HZ := Lib.hid hz
        clear hz
        go_wp2
        go_round
        case rel => exact ⟨m, rfl, by omega, by rw [← take_zero_val (by omega) HZ.out]; exact HV.out⟩
        case measure => simp
      · have hb : (((xs.getD (n - 1) 0 : Nat) : Int) == 0) = false := by rw [beq_eq_false_iff_ne]; omega
        have ht : Trimmed (xs.take n) := trimmed_of_getD (by rw [List.length_take, Nat.min_eq_left hn, List.getD_eq_getElem?_getD, List.getElem?_take_of_lt (by omega), ← List.getD_eq_getElem?_getD]; exact hz)
        generalize xs.getD (n - 1) 0 = z at hc hb
        clear hz
        obtain ⟨m, rfl⟩ : ∃ m, n = m + 1 := ⟨n - 1, by omega⟩
        simp only [Nat.add_sub_cancel] at hc
        go_wp2
        go_ret
        exact ⟨m + 1, hn, rfl, ht, HV.out, rfl⟩
    · obtain rfl : n = 0 := by omega
      go_wp2
      go_ret
      exact ⟨0, hn, rfl, by rw [List.take_zero]; exact Trimmed.nil, HV.out, rfl⟩

/-! ### take: a multiple is taken away at a place -/
/-- What holds of take's list, borrow and carry behind k words. -/
structure TakeInv (xs ys : List Nat) (n at_ k : Nat) (zs : List Nat) (b c : Nat) : Prop where
  len : zs.length = xs.length
  lim : Lim base zs
  rest : zs.drop (at_ + k) = xs.drop (at_ + k)
  sum : val base (zs.take (at_ + k)) + base ^ at_ * (n * val base (ys.take k)) = val base (xs.take (at_ + k)) + base ^ (at_ + k) * (b + c)
  low : zs.take at_ = xs.take at_
  borrow : b ≤ 1
  carry : c < base
/-- One word more: x - (c + n y) % base - b = d - base b', for the new digit d. -/
theorem take_step {xs ys zs : List Nat} {n at_ k b c y b' d : Nat} (h : TakeInv xs ys n at_ k zs b c) (hj : at_ + k < xs.length) (hn : n < base) (hy : y < base)
    (hs : val base (ys.take (k + 1)) = val base (ys.take k) + base ^ k * y) (hb' : b' ≤ 1) (hd : d < base)
    (he : d + (c + n * y) % base + b = zs.getD (at_ + k) 0 + base * b') :
    TakeInv xs ys n at_ (k + 1) (zs.set (at_ + k) d) b' ((c + n * y) / base) := by
  have hjz : at_ + k < zs.length := by rw [h.len]; exact hj
  have e := getD_rest h.rest
  refine ⟨by rw [List.length_set, h.len], h.lim.set _ hd, ?_, ?_, ?_, hb', ?_⟩
  · rw [← Nat.add_assoc, drop_set_after]; exact drop_rest h.rest
  · rw [← Nat.add_assoc, take_set_succ _ _ _ hjz, val_snoc, List.length_take, Nat.min_eq_left (by omega), val_take_succ _ _ _ hj, hs, ← e]
    have h1 := h.sum
    have h2 := Nat.div_add_mod (c + n * y) base
    generalize (c + n * y) % base = r at h2 he
    generalize (c + n * y) / base = q at h2 ⊢
    rw [Nat.pow_succ, Nat.mul_assoc (base ^ (at_ + k))]
    have e1 : n * (val base (ys.take k) + base ^ k * y) = n * val base (ys.take k) + base ^ k * (n * y) := by rw [Nat.mul_add, Nat.mul_left_comm]
    rw [e1, Nat.mul_add (base ^ at_), ← Nat.mul_assoc (base ^ at_) (base ^ k), ← Nat.pow_add]
    have h3 : base ^ (at_ + k) * d + base ^ (at_ + k) * (n * y) + base ^ (at_ + k) * (b + c) = base ^ (at_ + k) * zs.getD (at_ + k) 0 + base ^ (at_ + k) * (base * (b' + q)) := by
      rw [← Nat.mul_add, ← Nat.mul_add, ← Nat.mul_add]; congr 1; rw [Nat.mul_add]; omega
    omega
  · rw [take_set_low _ _ _ _ (by omega)]; exact h.low
  · have hc := h.carry
    apply Nat.div_lt_of_lt_mul
    have : n * y ≤ (base - 1) * (base - 1) := Nat.mul_le_mul (by omega) (by omega)
    rw [base_eq] at *; omega

set_option maxHeartbeats 1600000 in
theorem take_any (B g cap gq oq capq : Nat) (xs ys : List Nat) (n at_ : Nat) (w : World) (hx : Lim base xs) (hy : Lim base ys) (hn : n < base)
    (hp : Ow w B (sv g xs.length cap) xs) (hq : Rd w gq oq ys) (hne : gq ≠ g) (hat : at_ + ys.length < xs.length) (hsz : xs.length ≤ 1000000000) :
    Calls Tryz.prog 121 #[sv g xs.length cap, .slice (some ⟨gq, oq, none⟩) ys.length capq, .int .u64 (n : Int), .int .i64 (at_ : Int)] w fun e w' =>
      ∃ zs b, e = .returned (.bool (decide (0 < b))) ∧ TakeInv xs ys n at_ (ys.length + 1) zs b 0 ∧ Ow w' B (sv g xs.length cap) zs ∧ w.grownBy w' (some g) := by
  go_enter Tryz.func121, Tryz.ntmps121
  go_wp2
  go_loopw [9, 10, 11, 12] (fun b c k d wr => ∃ (bn cn kn : Nat) (zs : List Nat), b = .int .i64 (bn : Int) ∧ c = .int .u64 (cn : Int) ∧ k = .int .i64 (kn : Int) ∧ kn ≤ ys.length + 1 ∧ bn ≤ 1 ∧ cn < 1000000000 ∧ Hid (ys.length < kn → cn = 0) ∧ Hid (TakeInv xs ys n at_ kn zs bn cn) ∧ Hid (Ow wr B (sv g xs.length cap) zs) ∧ w.grownBy wr (some g)) (fun _ _ k _ _ => ys.length + 1 - (intOf k).toNat)
  case atStart =>
    refine ⟨0, 0, 0, xs, rfl, rfl, rfl, by omega, by omega, by omega, fun _ => rfl, ⟨rfl, hx, rfl, ?_, rfl, by omega, base_pos⟩, hp, World.grownBy.refl _ _⟩
    simp [val_nil]
  case round =>
    obtain ⟨bn, cn, kn, zs, rfl, rfl, rfl, hk, hb1, hc1, HC, HI, HO, hg⟩ := hrel
    rename World => w0
    have hl := HI.out.len
    by_cases hend : kn ≤ ys.length
    · have hO := HO.out
      rw [← hl] at hO
      have hcz := hO.cell (at_ + kn) (by omega)
      have hfz := hO.fz (at_ + kn)
      have hz := HI.out.lim.get base_pos (at_ + kn)
      rw [base_eq] at hz hn
      have HOO := Lib.hid hO
      clear hO hl
      generalize hzz : zs.getD (at_ + kn) 0 = z at hcz hz
      have HZ := Lib.hid hzz
      clear hzz
      by_cases hlt : kn < ys.length
      · have hcy := (hq.grown hg (by simp [hne])).2 kn hlt
        have hyy := hy.get base_pos kn
        rw [base_eq] at hyy
        generalize hyg : ys.getD kn 0 = y at hcy hyy
        have HY := Lib.hid hyg
        clear hyg
        have hm0 : 0 ≤ (n : Int) * (y : Int) := by rw [← Int.natCast_mul]; omega
        have hm1 : (n : Int) * (y : Int) ≤ 999999998000000001 := by
          have : n * y ≤ 999999999 * 999999999 := Nat.mul_le_mul (by omega) (by omega)
          rw [← Int.natCast_mul]; omega
        have hnat : ((n * y : Nat) : Int) = (n : Int) * (y : Int) := Int.natCast_mul ..
        have HN := Lib.hid hnat
        clear hnat
        go_wp2
        · go_roundw
          case rel =>
            have hlt0 : (z : Int) - ((cn : Int) + (n : Int) * (y : Int)) % 1000000000 - (bn : Int) < 0 := by assumption
            have hN := HN.out
            obtain ⟨d, hd⟩ : ∃ d : Nat, (d : Int) = (z : Int) - ((cn : Int) + (n : Int) * (y : Int)) % 1000000000 - (bn : Int) + 1000000000 := ⟨((z : Int) - ((cn : Int) + (n : Int) * (y : Int)) % 1000000000 - (bn : Int) + 1000000000).toNat, by omega⟩
            have st := take_step (d := d) (b' := 1) HI.out (show at_ + kn < xs.length by omega) (by rw [base_eq]; exact hn) (hy.get base_pos kn) (val_take_succ base ys kn hlt) (by omega) (by rw [base_eq]; omega) (by rw [HZ.out, HY.out, base_eq]; omega)
            have e1 : ((cn : Int) + (n : Int) * (y : Int)) / 1000000000 = (((cn + n * ys.getD kn 0) / base : Nat) : Int) := by rw [HY.out, base_eq]; omega
            rw [e1, ← hd]
            have hput := Ow.put HOO.out (at_ + kn) d
            rw [st.len] at hput
            exact ⟨1, _, kn + 1, _, rfl, rfl, by go_num, by omega, by omega, st.carry, fun h => by (first | omega | (rw [base_eq]; omega)), st, hput, gtrans hg (Ow.putg HOO.out _ _)⟩
          case measure => simp [intOf]; omega
        · go_roundw
          case rel =>
            have hlt0 : 0 ≤ (z : Int) - ((cn : Int) + (n : Int) * (y : Int)) % 1000000000 - (bn : Int) := by assumption
            have hN := HN.out
            obtain ⟨d, hd⟩ : ∃ d : Nat, (d : Int) = (z : Int) - ((cn : Int) + (n : Int) * (y : Int)) % 1000000000 - (bn : Int) := ⟨((z : Int) - ((cn : Int) + (n : Int) * (y : Int)) % 1000000000 - (bn : Int)).toNat, by omega⟩
            have st := take_step (d := d) (b' := 0) HI.out (show at_ + kn < xs.length by omega) (by rw [base_eq]; exact hn) (hy.get base_pos kn) (val_take_succ base ys kn hlt) (by omega) (by rw [base_eq]; omega) (by rw [HZ.out, HY.out, base_eq]; omega)
            have e1 : ((cn : Int) + (n : Int) * (y : Int)) / 1000000000 = (((cn + n * ys.getD kn 0) / base : Nat) : Int) := by rw [HY.out, base_eq]; omega
            rw [e1, ← hd]
            have hput := Ow.put HOO.out (at_ + kn) d
            rw [st.len] at hput
            exact ⟨0, _, kn + 1, _, rfl, rfl, by go_num, by omega, by omega, st.carry, fun h => by (first | omega | (rw [base_eq]; omega)), st, hput, gtrans hg (Ow.putg HOO.out _ _)⟩
          case measure => simp [intOf]; omega
      · have hsame : val base (ys.take (kn + 1)) = val base (ys.take kn) + base ^ kn * 0 := by
          rw [List.take_of_length_le (by omega), List.take_of_length_le (by omega)]; simp
        have HS := Lib.hid hsame
        clear hsame
        go_wp2
        · go_roundw
          case rel =>
            have hlt0 : (z : Int) - (cn : Int) % 1000000000 - (bn : Int) < 0 := by assumption
            obtain ⟨d, hd⟩ : ∃ d : Nat, (d : Int) = (z : Int) - (cn : Int) % 1000000000 - (bn : Int) + 1000000000 := ⟨((z : Int) - (cn : Int) % 1000000000 - (bn : Int) + 1000000000).toNat, by omega⟩
            have st := take_step (d := d) (b' := 1) HI.out (show at_ + kn < xs.length by omega) (by rw [base_eq]; exact hn) base_pos HS.out (by omega) (by rw [base_eq]; omega) (by rw [HZ.out, base_eq]; omega)
            have e1 : (cn : Int) / 1000000000 = (((cn + n * 0) / base : Nat) : Int) := by rw [base_eq]; omega
            rw [e1, ← hd]
            have hput := Ow.put HOO.out (at_ + kn) d
            rw [st.len] at hput
            exact ⟨1, _, kn + 1, _, rfl, rfl, by go_num, by omega, by omega, st.carry, fun h => by (first | omega | (rw [base_eq]; omega)), st, hput, gtrans hg (Ow.putg HOO.out _ _)⟩
          case measure => simp [intOf]; omega
        · go_roundw
          case rel =>
            have hlt0 : 0 ≤ (z : Int) - (cn : Int) % 1000000000 - (bn : Int) := by assumption
            obtain ⟨d, hd⟩ : ∃ d : Nat, (d : Int) = (z : Int) - (cn : Int) % 1000000000 - (bn : Int) := ⟨((z : Int) - (cn : Int) % 1000000000 - (bn : Int)).toNat, by omega⟩
            have st := take_step (d := d) (b' := 0) HI.out (show at_ + kn < xs.length by omega) (by rw [base_eq]; exact hn) base_pos HS.out (by omega) (by rw [base_eq]; omega) (by rw [HZ.out, base_eq]; omega)
            have e1 : (cn : Int) / 1000000000 = (((cn + n * 0) / base : Nat) : Int) := by rw [base_eq]; omega
            rw [e1, ← hd]
            have hput := Ow.put HOO.out (at_ + kn) d
            rw [st.len] at hput
            exact ⟨0, _, kn + 1, _, rfl, rfl, by go_num, by omega, by omega, st.carry, fun h => by (first | omega | (rw [base_eq]; omega)), st, hput, gtrans hg (Ow.putg HOO.out _ _)⟩
          case measure => simp [intOf]; omega
    · go_wp2
      go_ret
      obtain rfl : kn = ys.length + 1 := by omega
      obtain rfl : cn = 0 := HC.out (by omega)
      refine ⟨zs, bn, ?_, HI.out, HO.out, hg⟩
      congr 2
end Go.Proofs.YtbihoedcbmnccaaGreatDoor
