/- size: short, check, Check. -/
import Derived.Test.YtbihoedcbmnccaaGreatDoorK10
import Derived.Test.YtbihoedcbmnccaaGreatDoorK8
namespace Go.Proofs.YtbihoedcbmnccaaGreatDoor
attribute [local go_sem ↓] Go.wp_at_zero Go.wp_at_succ
open Go.RowKit

def shortQ (q : Rat) : Bool := decide (Lib.nDigits q.num.natAbs ≤ 30) && decide (Lib.nDigits q.den ≤ 30)
set_option maxHeartbeats 1600000 in
set_option maxRecDepth 100000 in
theorem size_short (q : Rat) (w : World) : Calls Tryz.prog 123 #[Rv q] w fun e w' => e = .returned (.bool (shortQ q)) ∧ Below w.heap.size w w' := by
  unfold Rv
  have HA := Lib.hid (box1 w (I q.num) (D q.den))
  have ha := fun W => whole_Abs q.num W
  have e1 : ((D q.num.natAbs).size : Int) = (Lib.nDigits q.num.natAbs : Int) := by rw [D_size]
  have e2 : ((D q.den).size : Int) = (Lib.nDigits q.den : Int) := by rw [D_size]
  unfold shortQ
  generalize Lib.nDigits q.num.natAbs = a at *
  generalize Lib.nDigits q.den = b at *
  generalize D q.num.natAbs = u at *
  generalize I q.num = s at *
  generalize D q.den = t at *
  by_cases h1 : a ≤ 30
  · by_cases h2 : b ≤ 30
    · have hbd : decide ((b : Int) ≤ 30) = true := decide_eq_true (by omega)
      rw [decide_eq_true h1, decide_eq_true h2]
      go_enter Tryz.func123, Tryz.ntmps123
      go_wp2_with fail
      refine (ha _).mono ?_
      rintro e w1 ⟨rfl, hb1⟩
      have ho := HA.out.1.below hb1
      have c0 := ho.cell 0 (by simp)
      have c1 := ho.cell 1 (by simp)
      have hlt := ho.lt.2
      clear ho
      go_wp2
      go_ret; exact ⟨rfl, bT HA.out.2 hb1⟩
    · have hbd : decide ((b : Int) ≤ 30) = false := decide_eq_false (by omega)
      rw [decide_eq_true h1, decide_eq_false h2]
      go_enter Tryz.func123, Tryz.ntmps123
      go_wp2_with fail
      refine (ha _).mono ?_
      rintro e w1 ⟨rfl, hb1⟩
      have ho := HA.out.1.below hb1
      have c0 := ho.cell 0 (by simp)
      have c1 := ho.cell 1 (by simp)
      have hlt := ho.lt.2
      clear ho
      go_wp2
      go_ret; exact ⟨rfl, bT HA.out.2 hb1⟩
  · rw [decide_eq_false h1, Bool.false_and]
    go_enter Tryz.func123, Tryz.ntmps123
    go_wp2_with fail
    refine (ha _).mono ?_
    rintro e w1 ⟨rfl, hb1⟩
    go_wp2
    go_ret; exact ⟨rfl, bT HA.out.2 hb1⟩

/-- Fractions as pairs of strings that may be read. -/
def RdS (w : World) (g o : Nat) (xs : List (ByteArray × ByteArray)) : Prop :=
  g < w.heap.size ∧ ∀ j, (h : j < xs.length) → w.cell? ⟨g, o + j * 2, none⟩ = some (.string xs[j].1) ∧ w.cell? ⟨g, o + j * 2 + 1, none⟩ = some (.string xs[j].2)
def SizeAt (w : World) (v : Value) (xs : List (ByteArray × ByteArray)) : Prop := (xs = [] ∧ ∃ a c, v = .slice a 0 c) ∨ (xs ≠ [] ∧ ∃ g o c, v = .slice (some ⟨g, o, none⟩) xs.length c ∧ RdS w g o xs)
theorem RdS.b {w w' : World} {g o : Nat} {xs : List (ByteArray × ByteArray)} (h : RdS w g o xs) (hb : Below w.heap.size w w') : RdS w' g o xs :=
  ⟨Nat.lt_of_lt_of_le h.1 hb.size, fun j hj => ⟨(gOfB hb none).cell (h.2 j hj).1 (by simp), (gOfB hb none).cell (h.2 j hj).2 (by simp)⟩⟩
theorem SizeAt.b {w w' : World} {v : Value} {xs : List (ByteArray × ByteArray)} (h : SizeAt w v xs) (hb : Below w.heap.size w w') : SizeAt w' v xs := by
  rcases h with h | ⟨h0, g, o, c, h1, h2⟩
  · exact .inl h
  · exact .inr ⟨h0, g, o, c, h1, h2.b hb⟩
open Classical in
/-- The error of one element. -/
noncomputable def errE (s t : ByteArray) : Int := if rightQ s t then (if ∃ q : Rat, s = I q.num ∧ t = D q.den ∧ shortQ q = true then 0 else 4) else 2
noncomputable def chkS : List (ByteArray × ByteArray) → Int
  | [] => 0
  | x :: r => if errE x.1 x.2 = 0 then chkS r else errE x.1 x.2
/-- The error of a size over some primes. -/
noncomputable def errSize (p : List Int) (s : List (ByteArray × ByteArray)) : Int := if errP p ≠ 0 then errP p else if s.length ≠ p.length then 5 else chkS s
theorem Rv_inj {q q' : Rat} (h1 : I q.num = I q'.num) (h2 : D q.den = D q'.den) : q = q' := by
  have e1 := I_inj h1
  have e2 : (q.den : Int) = q'.den := I_inj (by rw [I_nat, I_nat]; exact h2)
  exact Rat.ext e1 (by omega)
theorem errE_cases (s t : ByteArray) : (errE s t = 2 ∧ ¬ rightQ s t) ∨ (∃ q : Rat, s = I q.num ∧ t = D q.den ∧ nd q.num ≤ 400 ∧ Lib.nDigits q.den ≤ 400 ∧ ((errE s t = 0 ∧ shortQ q = true) ∨ (errE s t = 4 ∧ shortQ q = false))) := by
  by_cases h : rightQ s t
  · right
    have h' := h
    obtain ⟨q, rfl, rfl, h3, h4⟩ := h
    refine ⟨q, rfl, rfl, h3, h4, ?_⟩
    unfold errE
    rw [if_pos h']
    cases hs : shortQ q with
    | true => left; rw [if_pos ⟨q, rfl, rfl, hs⟩]; exact ⟨rfl, rfl⟩
    | false =>
      right
      rw [if_neg]; · exact ⟨rfl, rfl⟩
      rintro ⟨q', h1, h2, h5⟩
      rw [Rv_inj h1 h2] at hs; rw [hs] at h5; cases h5
  · left; unfold errE; rw [if_neg h]; exact ⟨rfl, h⟩
theorem errE_zero (q : Rat) (h : shortQ q = true) : errE (I q.num) (D q.den) = 0 := by
  have hh := h
  unfold shortQ at h
  simp only [Bool.and_eq_true, decide_eq_true_eq] at h
  have hr : rightQ (I q.num) (D q.den) := ⟨q, rfl, rfl, by show nd _ ≤ 400; unfold nd; omega, by omega⟩
  unfold errE; rw [if_pos hr, if_pos ⟨q, rfl, rfl, hh⟩]

set_option maxHeartbeats 1600000 in
set_option maxRecDepth 100000 in
theorem size_check (vp v : Value) (n c0 : Nat) (a0 : Option Addr) (hvp : vp = .slice a0 n c0) (xs : List (ByteArray × ByteArray)) (w : World) (hS : St w) (hx : SizeAt w v xs) (hsz : ∀ x ∈ xs, x.1.size ≤ 1000000 ∧ x.2.size ≤ 1000000) (hl : xs.length ≤ 1000000) (hn : n ≤ 1000000) :
    Calls Tryz.prog 62 #[vp, v] w fun e w' => e = .returned (.int .i64 (if xs.length ≠ n then 5 else chkS xs)) ∧ Below w.heap.size w w' := by
  by_cases hln : xs.length = n
  · subst hln
    rw [if_neg (fun h => h rfl)]
    rcases hx with ⟨rfl, a, c, rfl⟩ | ⟨h0, g, o, c, rfl, hr⟩
    · subst hvp
      rw [show chkS [] = 0 from rfl]
      go_enter Tryz.func62, Tryz.ntmps62
      go_wp2
      go_loopw [14] (fun i wr => i = .int .i64 0 ∧ wr = w) (fun _ _ => 0)
      case atStart => exact ⟨rfl, rfl⟩
      case round =>
        obtain ⟨rfl, rfl⟩ := hrel
        go_wp2
        go_ret; exact ⟨rfl, Below.refl _ _⟩
    · subst hvp
      have hl0 : 0 < xs.length := List.length_pos_iff.2 h0
      have HR0 := Lib.hid hr
      have HSZ := Lib.hid hsz
      clear h0 hr hsz
      have hne : ((xs.length : Int) != (xs.length : Int)) = false := by simp
      go_enter Tryz.func62, Tryz.ntmps62
      go_wp2
      go_loopw [14] (fun i wr => ∃ m : Nat, i = .int .i64 (m : Int) ∧ m ≤ xs.length ∧ Hid (chkS xs = chkS (xs.drop m)) ∧ Hid (RdS wr g o xs) ∧ Hid (Below w.heap.size w wr)) (fun i _ => xs.length - (intOf i).toNat)
      case atStart => exact ⟨0, rfl, by omega, rfl, HR0.out, Below.refl _ _⟩
      case round =>
        obtain ⟨m, rfl, hm, HC, HR, HB⟩ := hrel
        rename World => w1
        by_cases hlt : m < xs.length
        · obtain ⟨k0, k1⟩ := HR.out.2 m hlt
          have hz := HSZ.out xs[m] (List.getElem_mem hlt)
          have hcs : chkS (xs.drop m) = if errE xs[m].1 xs[m].2 = 0 then chkS (xs.drop (m + 1)) else errE xs[m].1 xs[m].2 := by
            rw [List.drop_eq_getElem_cons hlt]; rfl
          rw [← HC.out] at hcs
          have hec := errE_cases xs[m].1 xs[m].2
          generalize xs[m].1 = s at *
          generalize xs[m].2 = t at *
          have HCS := Lib.hid hcs
          clear hcs
          rcases hec with ⟨he, hnr⟩ | ⟨q, rfl, rfl, h4, h5, hq⟩
          · have hck := fun W hW => fraction_Check s t 2 (.inr ⟨rfl, hnr⟩) hz.1 hz.2 W hW
            have HE := Lib.hid he
            clear he hnr
            have HBX := Lib.hid (box1 w1 s t)
            go_wp2_with fail
            refine (hck _ (hS.b (bT HB.out HBX.out.2))).mono ?_
            rintro e w2 ⟨rfl, hb2⟩
            go_wp2
            go_ret
            refine ⟨?_, bT HB.out (bT HBX.out.2 hb2)⟩
            rw [HCS.out, if_neg (by rw [HE.out]; decide), HE.out]; rfl
          · have hck := fun W hW => fraction_Check (I q.num) (D q.den) 0 (.inl ⟨rfl, ⟨q, rfl, rfl, h4, h5⟩⟩) hz.1 hz.2 W hW
            have hsh := fun W => size_short q W
            unfold Rv at hsh
            have HBX := Lib.hid (box1 w1 (I q.num) (D q.den))
            have HQ := Lib.hid hq
            clear hq h4 h5 hz
            generalize I q.num = s at *
            generalize D q.den = t at *
            have HSH := Lib.hid hsh
            clear hsh
            go_wp2_with fail
            generalize w1.alloc (.cells #[.string s, .string t] 42) = W at HBX ⊢
            refine (hck _ (hS.b (bT HB.out HBX.out.2))).mono ?_
            rintro e w2 ⟨rfl, hb2⟩
            have ho := HBX.out.1.below hb2
            have d0 := ho.cell 0 (by simp)
            have d1 := ho.cell 1 (by simp)
            have hlt2 := ho.lt.2
            have HB2 := Lib.hid (bT HB.out (bT HBX.out.2 hb2))
            have HR2 := Lib.hid ((HR.out.b HBX.out.2).b hb2)
            clear ho hb2 k0 k1
            go_wp2_with fail
            refine (HSH.out _).mono ?_
            rintro e w3 ⟨rfl, hb3⟩
            have HB3 := Lib.hid (bT HB2.out hb3)
            have HR3 := Lib.hid (HR2.out.b hb3)
            clear hb3
            rcases HQ.out with ⟨he, hs⟩ | ⟨he, hs⟩
            · have HE := Lib.hid he
              clear he
              rw [hs]
              go_wp2
              go_roundw
              case rel =>
                refine ⟨m + 1, by go_num, by omega, ?_, HR3.out, HB3.out⟩
                show _ = _
                rw [HCS.out, if_pos HE.out]
              case measure => simp [intOf]; omega
            · have HE := Lib.hid he
              clear he
              rw [hs]
              go_wp2
              go_ret
              refine ⟨?_, HB3.out⟩
              rw [HCS.out, if_neg (by rw [HE.out]; decide), HE.out]; rfl
        · obtain rfl : m = xs.length := by omega
          go_wp2
          go_ret
          refine ⟨?_, HB.out⟩
          rw [HC.out, List.drop_length]; rfl
  · rw [if_pos hln]
    subst hvp
    have hne : ((xs.length : Int) != (n : Int)) = true := by rw [bne_iff_ne]; omega
    have hv : ∃ a c, v = .slice a xs.length c := by
      rcases hx with ⟨rfl, a, c, rfl⟩ | ⟨_, g, o, c, rfl, _⟩
      · exact ⟨a, c, rfl⟩
      · exact ⟨_, c, rfl⟩
    obtain ⟨a, c, rfl⟩ := hv
    clear hln hx
    go_enter Tryz.func62, Tryz.ntmps62
    go_wp2
    go_ret; exact ⟨rfl, Below.refl _ _⟩
set_option maxHeartbeats 1600000 in
theorem size_Check (vp v : Value) (p : List Int) (xs : List (ByteArray × ByteArray)) (w : World) (hS : St w) (hp : IntsAt w vp p) (hx : SizeAt w v xs) (hsz : ∀ x ∈ xs, x.1.size ≤ 1000000 ∧ x.2.size ≤ 1000000) (hl : xs.length ≤ 1000000) (hn : p.length ≤ 1000000) :
    Calls Tryz.prog 20 #[vp, v] w fun e w' => e = .returned (.int .i64 (errSize p xs)) ∧ Below w.heap.size w w' := by
  have h1 := prime_Check vp p w hp
  have hvp : ∃ a c, vp = .slice a p.length c := by
    rcases hp with ⟨rfl, a, c, rfl⟩ | ⟨_, g, o, c, rfl, _⟩
    · exact ⟨a, c, rfl⟩
    · exact ⟨_, c, rfl⟩
  obtain ⟨a, c, hvp⟩ := hvp
  have h2 := size_check vp v p.length c a hvp xs w hS hx hsz hl hn
  clear hp hx hsz hl hn hvp
  unfold errSize
  by_cases h0 : errP p = 0
  · rw [if_neg (by rw [h0]; simp)]
    rw [h0] at h1
    clear h0
    generalize (if xs.length ≠ p.length then (5 : Int) else chkS xs) = r at *
    go_enter Tryz.func20, Tryz.ntmps20
    go_wp2_with fail
    refine h1.mono ?_
    rintro e w1 ⟨rfl, rfl⟩
    go_wp2_with fail
    refine h2.mono ?_
    rintro e w2 ⟨rfl, hb2⟩
    go_wp2
    go_ret; exact ⟨rfl, hb2⟩
  · rw [if_pos h0]
    generalize errP p = r at *
    have hne : (r != 0) = true := by rw [bne_iff_ne]; exact h0
    clear h0
    go_enter Tryz.func20, Tryz.ntmps20
    go_wp2_with fail
    refine h1.mono ?_
    rintro e w1 ⟨rfl, rfl⟩
    go_wp2
    go_ret; exact ⟨rfl, Below.refl _ _⟩
end Go.Proofs.YtbihoedcbmnccaaGreatDoor
/- enclosure: power, open. -/
namespace Go.Proofs.YtbihoedcbmnccaaGreatDoor
attribute [local go_sem ↓] Go.wp_at_zero Go.wp_at_succ
open Go.RowKit

set_option maxHeartbeats 1600000 in
theorem enc_power (n : Nat) (hn : n ≤ 4000) (w : World) (hS : St w) : Calls Tryz.prog 124 #[.int .i64 (n : Int)] w fun e w' => e = .returned (.string (D (2 ^ n))) ∧ Below w.heap.size w w' := by
  have h := fun W hW => whole_Power 2 n (by decide) (by decide) (by rw [show Lib.nDigits 2 = 1 by decide +kernel]; omega) W hW
  rw [show D 2 = ⟨#[50]⟩ by decide +kernel] at h
  generalize D (2 ^ n) = u at *
  go_enter Tryz.func124, Tryz.ntmps124
  go_wp2_with fail
  refine (h _ hS).mono ?_
  rintro e w1 ⟨rfl, hb1⟩
  go_wp2
  go_ret; exact ⟨rfl, hb1⟩

/-- The pairs of strings of fractions. -/
def prs (qs : List Rat) : List (ByteArray × ByteArray) := qs.map fun q => (I q.num, D q.den)
def nums (ps : List Nat) : List Int := List.map (fun p : Nat => (p : Int)) ps
/-- What stands at place i of the logarithms. -/
def lowS (ps : List Nat) (qs : List Rat) (n i : Nat) : ByteArray := if (qs.getD i 0).num = 0 then ⟨#[]⟩ else D (lowN (ps.getD i 2) n)
def rowS (len : Nat) (f : Nat → ByteArray) : List Value := (List.range len).map fun i => Value.string (f i)
theorem rowS_length (len : Nat) (f : Nat → ByteArray) : (rowS len f).length = len := by simp [rowS]
theorem rowS_get (len : Nat) (f : Nat → ByteArray) (i : Nat) (h : i < (rowS len f).length) : (rowS len f)[i] = .string (f i) := by simp [rowS]
theorem rowS_set (len : Nat) (f : Nat → ByteArray) (m : Nat) (s : ByteArray) : (rowS len f).set m (.string s) = rowS len (fun i => if i = m then s else f i) := by
  refine List.ext_getElem (by simp [rowS]) fun i h1 h2 => ?_
  rw [List.getElem_set]
  by_cases h : m = i
  · subst h; simp [rowS]
  · rw [if_neg h]; simp [rowS]; intro e; exact absurd e.symm h
theorem nums_get {ps : List Nat} {m : Nat} (h : m < ps.length) : (nums ps).getD m 0 = ((ps.getD m 2 : Nat) : Int) := by
  unfold nums
  rw [List.getD_eq_getElem?_getD, List.getElem?_map, List.getD_eq_getElem?_getD, List.getElem?_eq_getElem h]; rfl
theorem prs_get {qs : List Rat} {m : Nat} (h : m < (prs qs).length) : (prs qs)[m] = (I (qs.getD m 0).num, D (qs.getD m 0).den) := by
  have h' : m < qs.length := by unfold prs at h; simpa using h
  rw [List.getD_eq_getElem?_getD, List.getElem?_eq_getElem h']
  simp [prs]
/-- The logarithms of a size in memory. -/
structure LG (w : World) (B lb : Nat) (vp vs : Value) (ps : List Nat) (qs : List Rat) (n : Nat) : Prop where
  ex : ∃ g cap, Bo w B lb 119 [vp, vs, .int .i64 (n : Int), .slice (some ⟨g, 0, none⟩) ps.length cap] ∧ g < w.heap.size ∧ ∀ i, i < ps.length → w.cell? ⟨g, i, none⟩ = some (.string (lowS ps qs n i))
  pr : IntsAt w vp (nums ps)
  sz : SizeAt w vs (prs qs)
theorem LG.below {w w' : World} {B lb : Nat} {vp vs : Value} {ps : List Nat} {qs : List Rat} {n : Nat} (h : LG w B lb vp vs ps qs n) (hb : Below w.heap.size w w') : LG w' B lb vp vs ps qs n := by
  obtain ⟨g, cap, h1, h2, h3⟩ := h.ex
  exact ⟨⟨g, cap, h1.below hb, Nat.lt_of_lt_of_le h2 hb.size, fun i hi => (gOfB hb none).cell (h3 i hi) (by simp)⟩, h.pr.b hb, h.sz.b hb⟩
theorem info_str : (Tryz.prog.info? 25).map (fun i => (i.zero, i.size, i.bytes)) = some (some (.string ⟨#[]⟩), 1, 16) := by kernel_rfl
theorem made_str (n : Nat) : (madeCells (Value.string ⟨#[]⟩).cells (n * 1)).toList = rowS n fun _ => ⟨#[]⟩ := by
  rw [Nat.mul_one, show (Value.string ⟨#[]⟩).cells = #[Value.string ⟨#[]⟩] from rfl, toList_madeCells_one]
  refine List.ext_getElem (by simp [rowS]) fun i h1 h2 => ?_
  simp [rowS]

set_option maxHeartbeats 3200000 in
set_option maxRecDepth 100000 in
theorem enc_open (vp vs : Value) (ps : List Nat) (qs : List Rat) (n : Nat) (w : World) (hS : St w) (hp : IntsAt w vp (nums ps)) (hx : SizeAt w vs (prs qs)) (hlen : qs.length = ps.length) (hpr : ∀ p ∈ ps, primeB (p : Int) = true) (hl : ps.length ≤ 100000) (hn : n ≤ 1000) (hl0 : 0 < ps.length) :
    Calls Tryz.prog 63 #[vp, vs, .int .i64 (n : Int)] w fun e w' => ∃ lb, e = .returned (.pointer (some ⟨lb, 0, none⟩)) ∧ LG w' w.heap.size lb vp vs ps qs n ∧ Below w.heap.size w w' := by
  obtain ⟨i0, hi, hz0, hz1, hz2⟩ := info_parts info_str
  rcases hp with ⟨h0, _⟩ | ⟨_, gp, op, cp, rfl, hrp⟩
  · exfalso; unfold nums at h0; rw [List.map_eq_nil_iff] at h0; subst h0; simp at hl0
  rcases hx with ⟨h0, _⟩ | ⟨_, gs, os, cs, rfl, hrs⟩
  · exfalso; unfold prs at h0; rw [List.map_eq_nil_iff] at h0; subst h0; simp at hlen; omega
  have e1 : (nums ps).length = ps.length := by unfold nums; rw [List.length_map]
  have e2 : (prs qs).length = ps.length := by unfold prs; rw [List.length_map, hlen]
  rw [e1, e2]
  have HRP := Lib.hid hrp
  have HRS := Lib.hid hrs
  have HLQ := Lib.hid hlen
  have HPR := Lib.hid hpr
  have HE := Lib.hid (And.intro e1 e2)
  clear hrp hrs hlen hpr e1 e2
  go_enter Tryz.func63, Tryz.ntmps63
  go_wp2_with (at_make; refine wpList_make_full _ rfl _ _ 105 rfl w.heap.size 25 i0 (.string ⟨#[]⟩) 1 Tryz.underlying105 hi hz0 hz1 .i64 .i64 _ _ ps.length rfl rfl rfl rfl (by rw [hz2]; omega) (by unfold maxLen; omega) (Nat.le_refl _) ?_; intro w1 hown hg1)
  rw [made_str] at hown
  have hb1 := bOfG hg1
  have hrow := hown.kept (row := none) (w' := w1.alloc (.cells #[.slice (some ⟨gp, op, none⟩) ps.length cp, .slice (some ⟨gs, os, none⟩) ps.length cs, .int .i64 (n : Int), .slice (some ⟨w.heap.size, 0, none⟩) ps.length ps.length] 119)) (gOfB ((Below.refl _ _).alloc (Nat.le_refl _) _) none) (by simp [Value.ownBlock])
  have hbo := (Bo.new w1 119 #[.slice (some ⟨gp, op, none⟩) ps.length cp, .slice (some ⟨gs, os, none⟩) ps.length cs, .int .i64 (n : Int), .slice (some ⟨w.heap.size, 0, none⟩) ps.length ps.length] (by show 4 ≤ maxLen; decide)).mono hb1.size
  have hbb := bT hb1 ((Below.refl w1.heap.size w1).alloc (Nat.le_refl _) (.cells #[.slice (some ⟨gp, op, none⟩) ps.length cp, .slice (some ⟨gs, os, none⟩) ps.length cs, .int .i64 (n : Int), .slice (some ⟨w.heap.size, 0, none⟩) ps.length ps.length] 119))
  have hlt1 : w.heap.size < w1.heap.size := (World.ownsRow.lt hown w.heap.size rfl).2
  have HLT1 := Lib.hid hlt1
  have HROW := Lib.hid hrow
  have HBO := Lib.hid hbo
  have HBB := Lib.hid hbb
  clear hown hrow hbo hbb hb1 hlt1
  go_wp2
  generalize w1.alloc _ = W at *
  go_loopw [20] (fun i wr => ∃ (m : Nat) (f : Nat → ByteArray), i = .int .i64 (m : Int) ∧ m ≤ ps.length ∧ Hid (∀ i, i < m → f i = lowS ps qs n i) ∧ Hid (∀ i, m ≤ i → f i = ⟨#[]⟩) ∧
    Hid (wr.ownsRow w.heap.size 25 1 (.slice (some ⟨w.heap.size, 0, none⟩) ps.length ps.length) ps.length (rowS ps.length f)) ∧
    Hid (Bo wr w.heap.size w1.heap.size 119 [.slice (some ⟨gp, op, none⟩) ps.length cp, .slice (some ⟨gs, os, none⟩) ps.length cs, .int .i64 (n : Int), .slice (some ⟨w.heap.size, 0, none⟩) ps.length ps.length]) ∧ Hid (Below w.heap.size w wr)) (fun i _ => ps.length - (intOf i).toNat)
  case atStart => exact ⟨0, fun _ => ⟨#[]⟩, rfl, by omega, fun i h => by omega, fun i h => rfl, HROW.out, HBO.out, HBB.out⟩
  case round =>
    obtain ⟨m, f, rfl, hm, HF1, HF2, HR, HO, HB⟩ := hrel
    rename World => wr
    by_cases hlt : m < ps.length
    · have k0 := (HRP.out.b HB.out).2 m (by rw [HE.out.1]; exact hlt)
      rw [nums_get hlt] at k0
      obtain ⟨k1, k2⟩ := (HRS.out.b HB.out).2 m (by rw [HE.out.2]; exact hlt)
      rw [prs_get] at k1 k2
      obtain ⟨p, h1, h2, h3, h4, h5, h6⟩ := primeB_mem (HPR.out (ps.getD m 2) (by rw [List.getD_eq_getElem?_getD, List.getElem?_eq_getElem hlt]; exact List.getElem_mem hlt))
      obtain rfl : p = ps.getD m 2 := by omega
      have hlow := fun W hW => low_any (ps.getD m 2) n W h2 h3 h4 h5 h6 (by omega) hW
      have hls : lowS ps qs n m = if (qs.getD m 0).num = 0 then ⟨#[]⟩ else D (lowN (ps.getD m 2) n) := rfl
      have hsg := fun W => fraction_Sign (qs.getD m 0) W
      unfold Rv at hsg
      have HLOW := Lib.hid hlow
      have HLS := Lib.hid hls
      have HSG := Lib.hid hsg
      clear hlow hls hsg h1 h2 h3 h4 h5 h6
      generalize ps.getD m 2 = p at *
      generalize qs.getD m 0 = q at *
      by_cases hq : q.num = 0
      · have hs0 : q.num.sign = 0 := by rw [hq]; rfl
        rw [hs0] at HSG
        have HQ := Lib.hid hq
        clear hq hs0
        go_wp2_with fail
        refine (HSG.out _).mono ?_
        rintro e w2 ⟨rfl, hb2⟩
        have HR2 := Lib.hid (HR.out.kept (row := none) (gOfB hb2 none) (by simp [Value.ownBlock]))
        have HO2 := Lib.hid (HO.out.below hb2)
        have HB2 := Lib.hid (bT HB.out hb2)
        clear hb2
        go_wp2
        go_roundw
        case rel =>
          refine ⟨m + 1, f, by go_num, by omega, ?_, fun i hi => HF2.out i (by omega), HR2.out, HO2.out, HB2.out⟩
          intro i hi
          rcases Nat.lt_or_ge i m with h | h
          · exact HF1.out i h
          · obtain rfl : i = m := by omega
            rw [HF2.out i (Nat.le_refl _), HLS.out, if_pos HQ.out]
        case measure => simp [intOf]; omega
      · have hs0 : (q.num.sign != 0) = true := by rw [bne_iff_ne]; intro h; exact hq (Int.sign_eq_zero_iff_zero.1 h)
        have HQ := Lib.hid hq
        clear hq
        go_wp2_with fail
        refine (HSG.out _).mono ?_
        rintro e w2 ⟨rfl, hb2⟩
        have hb2d := bT hb2 (Below.refl w2.heap.size w2).drew
        have hr2 := HR.out.kept (row := none) (gOfB hb2d none) (by simp [Value.ownBlock])
        have ho2 := HO.out.below hb2d
        have c3 := ho2.cell 3 (by simp)
        simp only [List.getElem_cons_succ, List.getElem_cons_zero] at c3
        have HR2 := Lib.hid hr2
        have HO2 := Lib.hid ho2
        have HB2 := Lib.hid (bT HB.out hb2d)
        clear hr2 ho2 hb2 hb2d
        go_wp2
        have hne : w1.heap.size ≠ w.heap.size := by have := HLT1.out; omega
        go_region_held3 (fun V => V.cell? ⟨w1.heap.size, 3, none⟩ = some (.slice (some ⟨w.heap.size, 0, none⟩) ps.length ps.length))
          (first | assumption)
          (first
          | (go_at_call 51; with_reducible refine Calls.mono (HLOW.out _ (hS.b HB2.out)) ?_; rintro e w3 ⟨rfl, hb3⟩; have hr3 := HR2.out.kept (row := none) (gOfB hb3 none) (by simp [Value.ownBlock]); have ho3 := HO2.out.below hb3; have d3 := ho3.cell 3 (by simp); (simp only [List.getElem_cons_succ, List.getElem_cons_zero] at d3); have fz3 := World.ownsRow.frozenAt hr3 m; have lt3 := (World.ownsRow.lt hr3 w.heap.size rfl).2; have cm := World.ownsRow.cellAt hr3 m (by omega); rw [List.getElem?_eq_getElem (by rw [rowS_length]; exact hlt), rowS_get] at cm; have st := World.ownsRow.stored hr3 m (.string (D (lowN p n))); have ho4 := ho3.keptG st.2 (by simpa using hne); have e3 := ho4.cell 3 (by simp); (simp only [List.getElem_cons_succ, List.getElem_cons_zero] at e3); have HST := Lib.hid st; have HO4 := Lib.hid ho4; have HB3 := Lib.hid (belowG (bT HB2.out hb3) st.2 (bT HB2.out hb3).size (fun g hg => by cases hg; exact Nat.le_refl _)); clear st ho4 ho3 hr3 hb3))
        go_wp2
        go_roundw
        case rel =>
          refine ⟨m + 1, fun i => if i = m then D (lowN p n) else f i, by go_num, by omega, ?_, ?_, ?_, HO4.out, HB3.out⟩
          · intro i hi
            rcases Nat.lt_or_ge i m with h | h
            · show (if i = m then _ else _) = _
              rw [if_neg (by omega)]; exact HF1.out i h
            · obtain rfl : i = m := by omega
              show (if i = i then _ else _) = _
              rw [if_pos rfl, HLS.out, if_neg HQ.out]
          · intro i hi
            show (if i = m then _ else _) = _
            rw [if_neg (by omega)]; exact HF2.out i (by omega)
          · rw [← rowS_set]; exact HST.out.1
        case measure => simp [intOf]; omega
    · obtain rfl : m = ps.length := by omega
      go_wp2
      go_ret
      refine ⟨_, rfl, ⟨⟨w.heap.size, ps.length, HO.out, (World.ownsRow.lt HR.out w.heap.size rfl).2, fun i hi => ?_⟩, .inr ⟨?_, gp, op, cp, by rw [HE.out.1], HRP.out.b HB.out⟩, .inr ⟨?_, gs, os, cs, by rw [HE.out.2], HRS.out.b HB.out⟩⟩, HB.out⟩
      · rw [World.ownsRow.cellAt HR.out i (by omega), List.getElem?_eq_getElem (by rw [rowS_length]; exact hi), rowS_get, HF1.out i hi]
      · intro h; have := HE.out.1; rw [h] at this; simp at this; omega
      · intro h; have := HE.out.2; rw [h] at this; simp at this; omega
end Go.Proofs.YtbihoedcbmnccaaGreatDoor
/- enclosure: at. -/
namespace Go.Proofs.YtbihoedcbmnccaaGreatDoor
attribute [local go_sem ↓] Go.wp_at_zero Go.wp_at_succ
open Go.RowKit

theorem nDigits_pow2 (k : Nat) : Lib.nDigits (2 ^ k) ≤ k + 1 := nDigits_two (by omega) (Nat.pow_lt_pow_right (by omega) (by omega))
theorem whole_DivD (a b : Nat) (hb : 0 < b) (h1 : Lib.nDigits a ≤ 400000) (h2 : Lib.nDigits b ≤ 400000) (w : World) (hS : St w) :
    Calls Tryz.prog 136 #[.string (D a), .string (D b)] w fun e w' => e = .returned (.tuple #[.string (D (a / b)), .string (D (a % b)), .int .i64 0]) ∧ Below w.heap.size w w' := by
  have h := whole_DivMod a b (by omega) (by rw [nd_nat]; exact h1) (by rw [nd_nat]; exact h2) w hS
  rw [I_nat, I_nat, ← Int.natCast_ediv, ← Int.natCast_emod, I_nat, I_nat] at h; exact h

set_option maxHeartbeats 3200000 in
set_option maxRecDepth 100000 in
theorem enc_at (B lb : Nat) (vp vs : Value) (ps : List Nat) (qs : List Rat) (n i b : Nat) (w : World) (hS : St w) (hL : LG w B lb vp vs ps qs n) (hi : i < ps.length) (hq : (qs.getD i 0).num ≠ 0) (hp0 : 0 < ps.getD i 2) (hp1 : ps.getD i 2 < 128) (hn : n ≤ 1000) (hb : b ≤ n) (_hl : ps.length ≤ 100000) :
    Calls Tryz.prog 74 #[.pointer (some ⟨lb, 0, none⟩), .int .i64 (i : Int), .int .i64 (b : Int)] w fun e w' => e = .returned (.string (D (lowN (ps.getD i 2) b))) ∧ Below w.heap.size w w' := by
  have hls : lowS ps qs n i = D (lowN (ps.getD i 2) n) := by unfold lowS; rw [if_neg hq]
  have hsh := lowN_shift (p := ps.getD i 2) (b := b) (m := n - b) hp0
  rw [show b + (n - b) = n by omega] at hsh
  have hdm := fun W hW => whole_DivD (lowN (ps.getD i 2) n) (2 ^ (n - b)) (Nat.two_pow_pos _) (by have := lowN_nd (p := ps.getD i 2) (j := n) hp0 hp1; omega) (by have := nDigits_pow2 (n - b); omega) W hW
  have hpw := fun W hW => enc_power (n - b) (by omega) W hW
  rw [hsh] at hdm
  obtain ⟨g, cap, hbo, hg, hrow⟩ := hL.ex
  have hrw := hrow i hi
  rw [hls] at hrw
  have c2 := hbo.cell 2 (by simp)
  have c3 := hbo.cell 3 (by simp)
  simp only [List.getElem_cons_succ, List.getElem_cons_zero] at c2 c3
  have hI : (n : Int) - (b : Int) = ((n - b : Nat) : Int) := by omega
  have HPW := Lib.hid hpw
  have HDM := Lib.hid hdm
  have hbs := hbo.lt.2
  clear hls hsh hdm hpw hrow hq hbo hL hp0 hp1
  obtain ⟨k, hk⟩ : ∃ k, n - b = k := ⟨_, rfl⟩
  rw [hk] at hI HPW HDM
  have hwk : IntKind.i64.wrap (k : Int) = (k : Int) := by rw [IntKind.wrap_i64]; omega
  rw [← hwk] at HPW
  clear hwk
  generalize lowN (ps.getD i 2) b = r at *
  generalize D (lowN (ps.getD i 2) n) = u at *
  clear hk
  go_enter Tryz.func74, Tryz.ntmps74
  go_wp2
  go_region_held3 (fun V => V.cell? ⟨lb, 2, none⟩ = some (.int .i64 (n : Int)) ∧ V.cell? ⟨lb, 3, none⟩ = some (.slice (some ⟨g, 0, none⟩) ps.length cap) ∧ V.cell? ⟨g, i, none⟩ = some (.string u) ∧ Hid (St V) ∧ Hid (Below w.heap.size w V))
    (first | assumption | exact ⟨c2, c3, hrw, hS.drew, (Below.refl _ _).drew⟩ | exact hky | exact hkx)
    (first
    | (go_at_call 124; (with_reducible refine Calls.mono (HPW.out _ hS.drew) ?_); rintro e w1 ⟨rfl, hb1⟩; have hg1 := gOfB hb1 none; have hkx := And.intro (hg1.cell c2 (by simp)) (And.intro (hg1.cell c3 (by simp)) (And.intro (hg1.cell hrw (by simp)) (And.intro (Lib.hid (hS.drew.b hb1)) (Lib.hid (bT (Below.refl _ _).drew hb1))))); clear hg1 hb1)
    | (go_at_call 136; (with_reducible refine Calls.mono (HDM.out _ hkx.2.2.2.1.out) ?_); rintro e w2 ⟨rfl, hb2⟩; have hg2 := gOfB hb2 none; have hky := And.intro (hg2.cell hkx.1 (by simp)) (And.intro (hg2.cell hkx.2.1 (by simp)) (And.intro (hg2.cell hkx.2.2.1 (by simp)) (And.intro (Lib.hid (hkx.2.2.2.1.out.b hb2)) (Lib.hid (bT hkx.2.2.2.2.out hb2))))); clear hg2 hb2))
  all_goals (go_wp2; go_ret; exact ⟨rfl, hky.2.2.2.2.out⟩)
end Go.Proofs.YtbihoedcbmnccaaGreatDoor
/- The law of Held, with bonds through other operations: a late operation may wait for a load through a third one. -/
namespace Go.Proofs.YtbihoedcbmnccaaGreatDoor
variable {P : Program} {ops : Array Oper} {Q : Exit → Act → World → Prop} {md : Region.Mode} {T : World → Prop} {late : Nat → Bool}

/-- What has come up has come up behind all that it waits for. -/
def Closed (md : Region.Mode) (ops : Array Oper) (l : Array Bool) : Prop := ∀ j o, ops[j]? = some o → l.getD j false = true → ∀ e ∈ o.after, Region.binds md e = true → l.getD e.on false = true
def closedB (md : Region.Mode) (ops : Array Oper) (l : Array Bool) : Bool :=
  (List.range ops.size).all fun j => !l.getD j false || match ops[j]? with
    | some o => o.after.all (fun e => !Region.binds md e || l.getD e.on false)
    | none => true
theorem closedB_out {l : Array Bool} (h : closedB md ops l = true) : Closed md ops l := by
  intro j o hj hl e he hb
  have hlt : j < ops.size := (Array.getElem?_eq_some_iff.1 hj).1
  have h1 := List.all_eq_true.1 h j (List.mem_range.2 hlt)
  simp only [hl, hj, Bool.not_true, Bool.false_or] at h1
  have h2 := Array.all_eq_true_iff_forall_mem.1 h1 e he
  simpa [hb] using h2
theorem Closed.set {l : Array Bool} {j : Nat} (h : Closed md ops l) (hr : j ∈ Region.ready md ops l) : Closed md ops (l.setIfInBounds j true) := by
  obtain ⟨_, oj, ho, hall⟩ := mem_ready.1 hr
  intro k o hk hl e he hb
  rcases Nat.decEq j k with hjk | hjk
  · rw [getD_set_ne false hjk] at hl
    exact getD_set_true (h k o hk hl e he hb)
  · subst hjk
    rw [ho] at hk; cases hk
    exact getD_set_true (hall e he hb)
/-- j waits for i, at most n bonds away. -/
def reach (md : Region.Mode) (ops : Array Oper) : Nat → Nat → Nat → Bool
  | 0, _, _ => false
  | n + 1, j, i => match ops[j]? with
    | some o => o.after.any fun e => Region.binds md e && (e.on == i || reach md ops n e.on i)
    | none => false
theorem reach_listed {l : Array Bool} (hc : Closed md ops l) {i : Nat} : ∀ (n j : Nat), reach md ops n j i = true → (∀ o, ops[j]? = some o → ∀ e ∈ o.after, Region.binds md e = true → l.getD e.on false = true) → l.getD i false = true := by
  intro n
  induction n with
  | zero => intro j h _; simp [reach] at h
  | succ n ih =>
    intro j h hj
    unfold reach at h
    cases ho : ops[j]? with
    | none => rw [ho] at h; cases h
    | some o =>
      rw [ho] at h
      obtain ⟨e, he, hb⟩ := Array.any_eq_true'.1 h
      simp only [Bool.and_eq_true, Bool.or_eq_true, beq_iff_eq] at hb
      have hl := hj o ho e he hb.1
      rcases hb.2 with rfl | hr
      · exact hl
      · exact ih e.on hr fun o' ho' e' he' hb' => hc e.on o' ho' hl e' he' hb'
def waits2 (md : Region.Mode) (ops : Array Oper) (late : Nat → Bool) (l : Array Bool) (i : Nat) : Bool :=
  (List.range ops.size).all fun j => !late j || l.getD j true || reach md ops 4 j i
theorem AnyT.step_closed {U : World → Prop} {i : Nat} {oi : Oper} {v : Value} (hi : ops[i]? = some oi) (hs : Region.noSelect ops = true) (hQ : ∀ c a w, Q (.panic c) (a.put oi.dst v) w → Q (.panic c) a w)
    (hU : ∀ w', (late i = false → T w') → U w') :
    ∀ (n : Nat) (l : Array Bool) (a : Act) (w : World), Closed md ops l →
      (∀ j oj, ops[j]? = some oj → j ≠ i → l.getD j true = false → ((∀ e ∈ oj.after, Region.binds md e = true → e.on ≠ i) → oi.apart ops oj = true) ∧ (late j = false ∨ late i = true ∨ reach md ops 4 j i = true)) →
      i ∈ Region.ready md ops l → YieldsIf P ops U oi v a → (late i = false → T w) → AnyT P md ops Q T late n (l.setIfInBounds i true) (a.put oi.dst v) w → AnyT P md ops Q T late (n + 1) l a w := by
  have sel := Region.noSelect_spec hs
  have self : ∀ (n : Nat) (l : Array Bool) (a : Act) (w : World), YieldsIf P ops U oi v a → (late i = false → T w) → AnyT P md ops Q T late n (l.setIfInBounds i true) (a.put oi.dst v) w →
      wpOp P ops Q i (fun a' w' => (late i = false → T w') ∧ AnyT P md ops Q T late n (l.setIfInBounds i true) a' w') a w :=
    fun n l a w hy hT H => hy.wpOp hi (hU _ hT) ⟨hT, H⟩
  intro n
  induction n with
  | zero =>
    intro l a w _ _ hr hy hT H
    constructor
    · intro h0; rw [h0] at hr; cases hr
    · intro j hj
      rcases Nat.decEq j i with e | e
      · exact absurd (ready_mono hj e) (by rw [H.1]; simp)
      · subst e; exact self _ l a w hy hT H
  | succ n ih =>
    intro l a w hc hf hr hy hT H
    constructor
    · intro h0; rw [h0] at hr; cases hr
    · intro j hj
      rcases Nat.decEq j i with e | e
      · obtain ⟨un, oj, ho, hall⟩ := mem_ready.1 hj
        have hil : ¬ l.getD i false = true := by
          intro k1
          have k0 := (mem_ready.1 hr).1
          rcases Nat.lt_or_ge i l.size with hlt | hge
          · simp [hlt] at k0 k1; rw [k0] at k1; cases k1
          · simp [Array.getElem?_eq_none hge] at k1
        have hn : ∀ b ∈ oj.after, Region.binds md b = true → b.on ≠ i := by
          intro b hb hbb heq
          have k1 := hall b hb hbb
          rw [heq] at k1; exact hil k1
        have hfj := hf j oj ho e un
        have k := wpOp_putIf ho (hfj.1 hn) (fun cs b => sel i oi cs b hi) (fun cs b => sel j oj cs b ho) hQ hy (H.2 j (ready_mono hj e))
        refine wpOp_mono (fun a' w' k' => ⟨k'.2.1, ?_⟩) k
        have hbi : late i = false → T w' := by
          intro h0
          rcases hfj.2 with hl | hl | hl
          · exact k'.2.1 hl
          · rw [h0] at hl; cases hl
          · exact absurd (reach_listed hc 4 j hl fun o' ho' e' he' hb' => by rw [ho] at ho'; cases ho'; exact hall e' he' hb') hil
        refine ih _ a' w' (hc.set hj) ?_ (ready_mono hr fun h => e h.symm) k'.1 hbi ?_
        · intro m om hm hmi hun
          refine hf m om hm hmi ?_
          rcases Nat.decEq j m with hjm | hjm
          · rw [getD_set_ne true hjm] at hun; exact hun
          · subst hjm; exact un
        · rw [Array.setIfInBounds_comm _ _ e]; exact k'.2.2
      · subst e; exact self _ l a w hy hT H
/-- A load, or what looks at no memory, is taken first. -/
theorem AnyT.take2 {i : Nat} {oi : Oper} {v : Value} {n : Nat} {l : Array Bool} {a : Act} {w : World} (hi : ops[i]? = some oi)
    (hs : Region.noSelect ops = true) (hf : Region.free md ops l i = true) (hr : (Region.ready md ops l).contains i = true) (hn : late i = false) (hc : closedB md ops l = true) (hw : waits2 md ops late l i = true)
    (hQ : ∀ c a w, Q (.panic c) (a.put oi.dst v) w → Q (.panic c) a w) (hy : YieldsIf P ops T oi v a) (hT : T w)
    (h : AnyT P md ops Q T late n (l.setIfInBounds i true) (a.put oi.dst v) w) : AnyT P md ops Q T late (n + 1) l a w := by
  refine AnyT.step_closed (U := T) hi hs hQ (fun _ k => k hn) n l a w (closedB_out hc) ?_ (by simpa using hr) hy (fun _ => hT) h
  intro j oj ho hne hun
  refine ⟨fun hno => Region.free_spec hi hf j oj ho hne hun hno, ?_⟩
  cases hl : late j with
  | false => exact .inl rfl
  | true =>
    have hlt : j < ops.size := (Array.getElem?_eq_some_iff.1 ho).1
    have h1 := List.all_eq_true.1 hw j (List.mem_range.2 hlt)
    simp only [hl, hun, Bool.not_true, Bool.false_or] at h1
    exact .inr (.inr h1)
end Go.Proofs.YtbihoedcbmnccaaGreatDoor
/- Plain: the ends of an enclosure as rational numbers, and how long they are. -/
namespace Go.Proofs.YtbihoedcbmnccaaGreatDoor

/-- A fraction whose numbers have at most k digits. -/
def Sz (k : Nat) (q : Rat) : Prop := nd q.num ≤ k ∧ Lib.nDigits q.den ≤ k
theorem Sz.mono {k l : Nat} {q : Rat} (h : Sz k q) (hl : k ≤ l) : Sz l q := ⟨Nat.le_trans h.1 hl, Nat.le_trans h.2 hl⟩
theorem Sz_divInt {n d : Int} (hd : 0 < d) : nd (Rat.divInt n d).num ≤ nd n ∧ Lib.nDigits (Rat.divInt n d).den ≤ nd d := by
  have e := R_divInt n d hd
  have e2 : Rv (Rat.divInt n d) = R (n / (Int.gcd n d : Int)) (d / (Int.gcd n d : Int)) := e.symm
  unfold Rv R at e2
  simp only [Value.agg.injEq, Array.mk.injEq, List.cons.injEq, Value.string.injEq, and_true] at e2
  have h1 := I_inj e2.1
  have h2 : ((Rat.divInt n d).den : Int) = d / (Int.gcd n d : Int) := I_inj (by rw [I_nat]; exact e2.2)
  refine ⟨by rw [h1]; exact nd_div_gcd n d, ?_⟩
  rw [← nd_nat, h2, Int.gcd_comm n d]; exact nd_div_gcd d n
theorem Sz.mul {k l : Nat} {a b : Rat} (ha : Sz k a) (hb : Sz l b) : Sz (k + l) (a * b) := by
  have hd : (0 : Int) < ((a.den * b.den : Nat) : Int) := by have := Nat.mul_pos a.den_pos b.den_pos; omega
  have h := Sz_divInt (n := a.num * b.num) hd
  rw [rat_mul] at h
  refine ⟨Nat.le_trans h.1 (Nat.le_trans (nd_mulI _ _) (by have := ha.1; have := hb.1; omega)), Nat.le_trans h.2 ?_⟩
  rw [nd_nat]
  exact Nat.le_trans (nd_mul _ _) (by have := ha.2; have := hb.2; omega)
theorem Sz.add {k l : Nat} {a b : Rat} (ha : Sz k a) (hb : Sz l b) : Sz (k + l + 1) (a + b) := by
  have hd : (0 : Int) < ((a.den * b.den : Nat) : Int) := by have := Nat.mul_pos a.den_pos b.den_pos; omega
  have h := Sz_divInt (n := a.num * b.den + b.num * a.den) hd
  rw [rat_add] at h
  refine ⟨Nat.le_trans h.1 (Nat.le_trans (nd_add _ _) ?_), Nat.le_trans h.2 ?_⟩
  · have h1 := nd_mulI a.num b.den
    have h2 := nd_mulI b.num a.den
    rw [nd_nat] at h1 h2
    have := ha.1; have := ha.2; have := hb.1; have := hb.2
    omega
  · rw [nd_nat]
    exact Nat.le_trans (nd_mul _ _) (by have := ha.2; have := hb.2; omega)
theorem Sz.min {k : Nat} {a b : Rat} (ha : Sz k a) (hb : Sz k b) : Sz k (minQ a b) := by unfold minQ; split <;> assumption
theorem Sz.max {k : Nat} {a b : Rat} (ha : Sz k a) (hb : Sz k b) : Sz k (maxQ a b) := by unfold maxQ; split <;> assumption
/-- The coefficient times the logarithm's lower and upper bound. -/
def endA (p : Nat) (c : Rat) (b : Nat) : Rat := if p = 2 then c else c * Rat.divInt (lowN p b) ((2 ^ b : Nat) : Int)
def endB (p : Nat) (c : Rat) (b : Nat) : Rat := if p = 2 then c else c * Rat.divInt ((lowN p b + 1 : Nat) : Int) ((2 ^ b : Nat) : Int)
/-- One term more. -/
def endStep (b : Nat) (acc : Rat × Rat) (p : Nat) (c : Rat) : Rat × Rat :=
  if c.num = 0 then acc else (acc.1 + minQ (endA p c b) (endB p c b), acc.2 + maxQ (endA p c b) (endB p c b))
/-- The ends with b bits, of the terms from place m on. -/
def endsFrom (b : Nat) : List Nat → List Rat → Rat × Rat → Rat × Rat
  | p :: ps, c :: qs, acc => endsFrom b ps qs (endStep b acc p c)
  | _, _, acc => acc
def endsQ (ps : List Nat) (qs : List Rat) (b : Nat) : Rat × Rat := endsFrom b ps qs (0, 0)
theorem endsFrom_step {b : Nat} {ps : List Nat} {qs : List Rat} {acc : Rat × Rat} {m : Nat} (h1 : m < ps.length) (h2 : m < qs.length) :
    endsFrom b (ps.drop m) (qs.drop m) acc = endsFrom b (ps.drop (m + 1)) (qs.drop (m + 1)) (endStep b acc (ps.getD m 2) (qs.getD m 0)) := by
  rw [List.drop_eq_getElem_cons h1, List.drop_eq_getElem_cons h2, endsFrom, List.getD_eq_getElem?_getD, List.getElem?_eq_getElem h1, List.getD_eq_getElem?_getD, List.getElem?_eq_getElem h2]; rfl
theorem endsFrom_end {b : Nat} {ps : List Nat} {qs : List Rat} {acc : Rat × Rat} {m : Nat} (h1 : ps.length ≤ m) : endsFrom b (ps.drop m) (qs.drop m) acc = acc := by
  rw [List.drop_eq_nil_of_le h1]
  cases qs.drop m <;> rfl
theorem Sz_end {p b : Nat} {c : Rat} (hp0 : 0 < p) (hp1 : p < 128) (hb : b ≤ 1000) (hc : Sz 400 c) : Sz 1500 (endA p c b) ∧ Sz 1500 (endB p c b) := by
  have h0 : (0 : Int) < ((2 ^ b : Nat) : Int) := by have := Nat.two_pow_pos b; omega
  have hl := lowN_nd (p := p) (j := b) hp0 hp1
  have hp2 := nDigits_pow2 b
  have hl1 : Lib.nDigits (lowN p b + 1) ≤ b + 4 := nDigits_two (by omega) (by have h := lowN_small (p := p) (j := b) hp0 hp1; have h2 : 2 ^ (b + 4) = 2 ^ (b + 3) * 2 := Nat.pow_succ ..; omega)
  have k1 : Sz 1003 (Rat.divInt (lowN p b) ((2 ^ b : Nat) : Int)) := by
    have h := Sz_divInt (n := (lowN p b : Int)) h0
    rw [nd_nat, nd_nat] at h
    exact ⟨by omega, by omega⟩
  have k2 : Sz 1004 (Rat.divInt ((lowN p b + 1 : Nat) : Int) ((2 ^ b : Nat) : Int)) := by
    have h := Sz_divInt (n := ((lowN p b + 1 : Nat) : Int)) h0
    rw [nd_nat, nd_nat] at h
    exact ⟨by omega, by omega⟩
  unfold endA endB
  split
  · exact ⟨hc.mono (by omega), hc.mono (by omega)⟩
  · exact ⟨(hc.mul k1).mono (by omega), (hc.mul k2).mono (by omega)⟩
theorem Sz_step {b p k : Nat} {c : Rat} {acc : Rat × Rat} (hp0 : 0 < p) (hp1 : p < 128) (hb : b ≤ 1000) (hc : Sz 400 c) (h : Sz k acc.1 ∧ Sz k acc.2) : Sz (k + 1501) (endStep b acc p c).1 ∧ Sz (k + 1501) (endStep b acc p c).2 := by
  obtain ⟨e1, e2⟩ := Sz_end hp0 hp1 hb hc
  unfold endStep
  split
  · exact ⟨h.1.mono (by omega), h.2.mono (by omega)⟩
  · exact ⟨h.1.add (e1.min e2), h.2.add (e1.max e2)⟩
theorem Sz_zero : Sz 1 (0 : Rat) := ⟨by decide +kernel, by decide +kernel⟩
end Go.Proofs.YtbihoedcbmnccaaGreatDoor
