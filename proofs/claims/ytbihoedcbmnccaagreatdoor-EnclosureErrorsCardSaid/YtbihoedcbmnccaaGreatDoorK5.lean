/- decimal: Canonical, Check; whole: Check (of any string). -/
import Derived.Test.YtbihoedcbmnccaaGreatDoorK4
namespace Go.Proofs.YtbihoedcbmnccaaGreatDoor
open Go.RowKit

def canon (s : ByteArray) : Prop := Digs s.data.toList ∧ (s.size = 1 ∨ 1 < s.size ∧ s.data.toList.head? ≠ some 48)
theorem dec_dval : ∀ (k : Nat) (l : List UInt8), l.length = k + 1 → Digs l → (k = 0 ∨ l.head? ≠ some 48) → Lib.decDigits (dval 0 l) = l ∧ (0 < k → 10 ^ k ≤ dval 0 l)
  | 0, l, hl, hd, _ => by
    obtain ⟨b, rfl⟩ : ∃ b, l = [b] := by
      match l, hl with
      | [b], _ => exact ⟨b, rfl⟩
    have := hd b (by simp)
    rw [dval_one, Nat.zero_mul, Nat.zero_add, dv_eq, dig_small (by omega)]
    refine ⟨?_, fun h => absurd h (by decide)⟩
    congr 1
    apply UInt8.toNat_inj.1
    rw [db_toNat (by omega)]; omega
  | k + 1, l, hl, hd, hz => by
    have hne : l ≠ [] := by intro h; rw [h] at hl; simp at hl
    obtain ⟨l', b, rfl⟩ : ∃ l' b, l = l' ++ [b] := ⟨l.dropLast, l.getLast hne, (List.dropLast_concat_getLast hne).symm⟩
    rw [List.length_append] at hl
    have hl' : l'.length = k + 1 := by simpa using hl
    have hh : l'.head? ≠ some 48 := by
      rcases hz with h | h
      · omega
      · cases l' with
        | nil => simp at hl'
        | cons c r => simpa using h
    obtain ⟨h1, h2⟩ := dec_dval k l' hl' (fun c hc => hd c (by simp [hc])) (Or.inr hh)
    have hb := hd b (by simp)
    have hpos : 0 < dval 0 l' := by
      rcases Nat.eq_zero_or_pos (dval 0 l') with h0 | h0
      · rw [h0, dig_small (by decide)] at h1
        rw [← h1] at hh
        exact absurd rfl hh
      · exact h0
    have e : dval 0 (l' ++ [b]) = dval 0 l' * 10 + (b.toNat - 48) := by rw [dval_append, dval_one, dv_eq]
    rw [e]
    refine ⟨?_, fun _ => ?_⟩
    · rw [dig_big (by omega), show (dval 0 l' * 10 + (b.toNat - 48)) / 10 = dval 0 l' by omega, h1, show (dval 0 l' * 10 + (b.toNat - 48)) % 10 = b.toNat - 48 by omega]
      congr 2
      apply UInt8.toNat_inj.1
      rw [db_toNat (by omega)]; omega
    · rcases Nat.eq_zero_or_pos k with h0 | h0
      · subst h0; omega
      · have := h2 h0; rw [Nat.pow_succ]; omega
theorem canon_D (s : ByteArray) : canon s ↔ ∃ n, s = D n := by
  constructor
  · rintro ⟨hd, hs⟩
    refine ⟨dval 0 s.data.toList, ba_ext ?_⟩
    rw [D_list]
    have hsz : s.data.toList.length = s.size := rfl
    obtain ⟨k, hk⟩ : ∃ k, s.size = k + 1 := ⟨s.size - 1, by omega⟩
    refine (dec_dval k _ (by rw [hsz, hk]) hd ?_).1.symm
    rcases hs with h | h
    · left; omega
    · right; exact h.2
  · rintro ⟨n, rfl⟩
    refine ⟨digs_D n, ?_⟩
    rcases Nat.lt_or_ge 1 (D n).size with h | h
    · right
      refine ⟨h, ?_⟩
      obtain ⟨b, h1, h2, h3, h4⟩ := D_head n
      intro h5
      rw [h1] at h5
      have hb : b = 48 := Option.some.inj h5
      have := h4.1 (by rw [hb]; rfl)
      rw [this, D_size] at h
      rw [show Lib.nDigits 0 = 1 from by rw [← D_size, D_zero]; rfl] at h
      omega
    · left; have := D_pos n; omega
theorem not_digs_at {s : ByteArray} {j : Nat} (hj : j < s.size) (h : ¬ (48 ≤ (s.data.toList.getD j 0).toNat ∧ (s.data.toList.getD j 0).toNat ≤ 57)) : ¬ canon s := by
  intro hc
  apply h
  apply hc.1
  rw [List.getD_eq_getElem?_getD, List.getElem?_eq_getElem (show j < s.data.toList.length from hj)]
  exact List.getElem_mem _
theorem digs_of_all {s : ByteArray} (h : ∀ j, j < s.size → 48 ≤ (s.data.toList.getD j 0).toNat ∧ (s.data.toList.getD j 0).toNat ≤ 57) : Digs s.data.toList := by
  intro b hb
  obtain ⟨j, hj, rfl⟩ := List.mem_iff_getElem.1 hb
  have := h j hj
  rwa [List.getD_eq_getElem?_getD, List.getElem?_eq_getElem hj] at this
set_option maxHeartbeats 800000 in
set_option maxRecDepth 100000 in
theorem decimal_Canonical (s : ByteArray) (c : Bool) (hc : c = true ↔ canon s) (hs : s.size ≤ 1000000000) (w : World) :
    Calls Tryz.prog 180 #[.string s] w fun e w' => e = .returned (.bool c) ∧ Below w.heap.size w w' := by
  have hcell : ∀ j, j < s.size → (Lib.bytesWorld w 5 s).cell? ⟨w.heap.size, j, none⟩ = some (.int .u8 ((s.data.toList.getD j 0).toNat : Nat)) := fun j hj => Lib.bytesWorld_cell w 5 s j hj
  have HW := Lib.hid (bytes_b w 5 s)
  have hcv := Lib.run_convert_string_bytes (P := Tryz.prog) w 25 176 5 s (u := .string) Tryz.underlying25 Tryz.underlying176 Tryz.underlying5
  have hcc := Lib.hid hc
  clear hc
  go_enter Tryz.func180, Tryz.ntmps180
  go_wp2
  generalize grownCap w s.size 0 5 = gc
  generalize Lib.bytesWorld w 5 s = W at hcell HW ⊢
  go_loop [8] (fun j => ∃ jn : Nat, j = .int .i64 (jn : Int) ∧ jn ≤ s.size ∧ Hid (∀ i, i < jn → 48 ≤ (s.data.toList.getD i 0).toNat ∧ (s.data.toList.getD i 0).toNat ≤ 57)) (fun j => s.size - (intOf j).toNat)
  case atStart => exact ⟨0, rfl, by omega, fun i hi => absurd hi (by omega)⟩
  case round =>
    obtain ⟨jn, rfl, hj, HI⟩ := hrel
    by_cases hlt : jn < s.size
    · have hc := hcell jn hlt
      obtain ⟨x, hx⟩ : ∃ x : Nat, (s.data.toList.getD jn 0).toNat = x := ⟨_, rfl⟩
      rw [hx] at hc
      clear hcell
      by_cases hok : 48 ≤ x ∧ x ≤ 57
      · have HX : Hid (∀ i, i < jn + 1 → 48 ≤ (s.data.toList.getD i 0).toNat ∧ (s.data.toList.getD i 0).toNat ≤ 57) := by
          intro i hi
          rcases Nat.lt_or_ge i jn with h | h
          · exact HI.out i h
          · obtain rfl : i = jn := by omega
            rw [hx]; exact hok
        clear hx
        go_wp2
        go_round
        case rel => exact ⟨jn + 1, by go_num, by omega, HX.out⟩
        case measure => simp [intOf]; omega
      · have hn : c = false := by
          rw [← Bool.not_eq_true, hcc.out]; exact not_digs_at hlt (by rw [hx]; exact hok)
        clear hx
        rcases Nat.lt_or_ge x 48 with h48 | h48
        · go_wp2
          go_ret
          exact ⟨rfl, HW.out⟩
        · have h57 : 57 < x := by omega
          go_wp2
          go_ret
          exact ⟨rfl, HW.out⟩
    · obtain rfl : jn = s.size := by omega
      have hd := digs_of_all HI.out
      clear hcell HI
      rcases Nat.lt_trichotomy s.size 1 with h1 | h1 | h1
      · have hn : Hid (c = false) := by
          show c = false
          rw [← Bool.not_eq_true, hcc.out]; intro h; have := h.2; omega
        have e1 : ((s.size : Int) == 1) = false := by rw [beq_eq_false_iff_ne]; omega
        go_wp2
        go_ret
        rw [hn.out]
        exact ⟨rfl, HW.out⟩
      · have hn : Hid (c = true) := by
          show c = true
          rw [hcc.out]; exact ⟨hd, Or.inl h1⟩
        have e1 : ((s.size : Int) == 1) = true := by rw [beq_iff_eq]; omega
        have H1 := Lib.hid h1
        clear h1
        go_wp2
        go_ret
        rw [hn.out]
        exact ⟨rfl, HW.out⟩
      · have e1 : ((s.size : Int) == 1) = false := by rw [beq_eq_false_iff_ne]; omega
        have hh : s.data.toList.head? = some s[0] := by
          rw [List.head?_eq_getElem?, List.getElem?_eq_getElem (show 0 < s.data.toList.length by show 0 < s.size; omega)]; rfl
        have hn : Hid (c = (((s[0].toNat : Nat) : Int) != 48)) := by
          show c = _
          rw [Bool.eq_iff_iff, hcc.out]
          unfold canon
          rw [hh, bne_iff_ne]
          constructor
          · rintro ⟨_, h⟩
            rcases h with h | h
            · omega
            · intro h48; apply h.2; congr 1; apply UInt8.toNat_inj.1; have : s[0].toNat = 48 := by omega
              rw [this]; rfl
          · intro h
            refine ⟨hd, Or.inr ⟨h1, fun h48 => h ?_⟩⟩
            rw [Option.some.inj h48]; rfl
        clear hh
        go_wp2
        go_ret
        rw [hn.out]
        exact ⟨rfl, HW.out⟩
set_option maxHeartbeats 800000 in
theorem decimal_Check (s : ByteArray) (c : Bool) (hc : c = true ↔ canon s) (hs : s.size ≤ 1000000000) (w : World) :
    Calls Tryz.prog 151 #[.string s] w fun e w' => e = .returned (.int .i64 (if c = true ∧ s.size ≤ 400 then 0 else 2)) ∧ Below w.heap.size w w' := by
  have hcan := decimal_Canonical s c hc hs w
  clear hc
  obtain ⟨v, hv⟩ : ∃ v : Int, (if c = true ∧ s.size ≤ 400 then 0 else 2) = v := ⟨_, rfl⟩
  rw [hv]
  go_enter Tryz.func151, Tryz.ntmps151
  go_wp2_with fail
  refine hcan.mono ?_
  rintro e w1 ⟨rfl, hb1⟩
  cases c with
  | false =>
    obtain rfl : 2 = v := by rw [← hv, if_neg (by simp)]
    clear hv
    go_wp2
    go_ret
    exact ⟨rfl, hb1⟩
  | true =>
    rcases Nat.lt_or_ge 400 s.size with h | h
    · have h4 : (400 : Int) < s.size := by omega
      obtain rfl : 2 = v := by rw [← hv, if_neg (by omega)]
      clear hv
      go_wp2
      go_ret
      exact ⟨rfl, hb1⟩
    · have h4 : ¬ (400 : Int) < s.size := by omega
      obtain rfl : 0 = v := by rw [← hv, if_pos ⟨rfl, h⟩]
      clear hv
      go_wp2
      go_ret
      exact ⟨rfl, hb1⟩
/-! ### whole.Check -/
def wcanon (s : ByteArray) : Prop := ∃ n : Int, s = I n ∧ nd n ≤ 400
theorem wcanon_neg {s : ByteArray} (h0 : 0 < s.size) (h1 : s[0] = 45) :
    wcanon s ↔ canon (s.extract 1 s.size) ∧ (s.extract 1 s.size).size ≤ 400 ∧ ¬ (s.extract 1 s.size).toList = [48] := by
  constructor
  · rintro ⟨n, rfl, hn⟩
    have hneg : n < 0 := by
      apply Classical.byContradiction
      intro h
      obtain ⟨_, h2, _⟩ := I_at0_pos h
      rw [h1] at h2; exact absurd h2 (by decide)
    rw [I_tail hneg]
    refine ⟨(canon_D _).2 ⟨_, rfl⟩, by rw [D_size]; exact hn, fun h => ?_⟩
    have : ((D n.natAbs).toList == [48]) = true := by rw [h]; rfl
    rw [D_is0] at this
    have := of_decide_eq_true this; omega
  · rintro ⟨hc, hl, hz⟩
    obtain ⟨n, hn⟩ := (canon_D _).1 hc
    rw [hn] at hl hz
    have hpos : 0 < n := by
      rcases Nat.eq_zero_or_pos n with h | h
      · rw [h, D_zero, ba_list] at hz; exact absurd rfl hz
      · exact h
    refine ⟨-(n : Int), ?_, by unfold nd; rw [Int.natAbs_neg, Int.natAbs_natCast, ← D_size]; exact hl⟩
    rw [← I_negD hpos, ← hn]
    apply ba_ext
    rw [ByteArray.data_append, Array.toList_append, ext_list]
    have : s.data.toList = s[0] :: s.data.toList.drop 1 := by
      have hlen : 0 < s.data.toList.length := h0
      exact (List.drop_eq_getElem_cons hlen)
    rw [List.take_of_length_le (by rw [List.length_drop]; exact Nat.le_refl _)]
    conv => lhs; rw [this]
    rw [h1]; rfl
theorem wcanon_pos {s : ByteArray} (h : ¬ ∃ h0 : 0 < s.size, s[0] = 45) : wcanon s ↔ canon s ∧ s.size ≤ 400 := by
  constructor
  · rintro ⟨n, rfl, hn⟩
    have hneg : ¬ n < 0 := fun hn => h (I_at0_neg hn)
    rw [I_nonneg (by omega)]
    refine ⟨(canon_D _).2 ⟨_, rfl⟩, by rw [D_size]; unfold nd at hn; rw [show n.toNat = n.natAbs by omega]; exact hn⟩
  · rintro ⟨hc, hl⟩
    obtain ⟨n, rfl⟩ := (canon_D _).1 hc
    exact ⟨n, (I_nat n).symm, by unfold nd; rw [Int.natAbs_natCast, ← D_size]; exact hl⟩
theorem split_any (s : ByteArray) : ∃ (g : Bool) (t : ByteArray), (∀ w, Calls Tryz.prog 52 #[.string s] w fun e w' => e = .returned (.tuple #[.bool g, .string t]) ∧ Below w.heap.size w w') ∧ t.size ≤ s.size ∧ (wcanon s ↔ canon t ∧ t.size ≤ 400 ∧ ¬ (g = true ∧ (t.toList == [48]) = true)) := by
  by_cases h : ∃ h0 : 0 < s.size, s[0] = 45
  · obtain ⟨h0, h1⟩ := h
    refine ⟨true, s.extract 1 s.size, fun w => split_neg s w h0 h1, by rw [ext_size s 1 s.size (Nat.le_refl _)]; omega, ?_⟩
    rw [wcanon_neg h0 h1, beq_iff_eq]; simp
  · refine ⟨false, s, fun w => ?_, Nat.le_refl _, ?_⟩
    · rcases Nat.eq_zero_or_pos s.size with h0 | h0
      · exact split_nil s w h0
      · refine split_pos s w h0 ?_
        rw [beq_eq_false_iff_ne]
        intro hc
        apply h
        refine ⟨h0, UInt8.toNat_inj.1 ?_⟩
        have : s[0].toNat = 45 := by omega
        rw [this]; rfl
    · rw [wcanon_pos h]; simp
set_option maxHeartbeats 800000 in
theorem whole_Check (s : ByteArray) (v : Int) (hv : v = 0 ∧ wcanon s ∨ v = 2 ∧ ¬ wcanon s) (hs : s.size ≤ 1000000000) (w : World) :
    Calls Tryz.prog 98 #[.string s] w fun e w' => e = .returned (.int .i64 v) ∧ Below w.heap.size w w' := by
  obtain ⟨g, t, hsp, hsz, hiff⟩ := split_any s
  rw [hiff] at hv
  clear hiff
  obtain ⟨z, hz⟩ : ∃ z, (t.toList == [48]) = z := ⟨_, rfl⟩
  rw [hz] at hv
  obtain ⟨c, hc⟩ : ∃ c : Bool, (c = true ↔ canon t) := by
    classical
    exact ⟨decide (canon t), decide_eq_true_iff⟩
  have hch := fun W => decimal_Check t c hc (by omega) W
  rw [← hc] at hv
  clear hc
  obtain ⟨u, hu⟩ : ∃ u : Int, (if c = true ∧ t.size ≤ 400 then 0 else 2) = u := ⟨_, rfl⟩
  rw [hu] at hch
  have hu2 : u = 0 ∧ c = true ∧ t.size ≤ 400 ∨ u = 2 ∧ ¬ (c = true ∧ t.size ≤ 400) := by
    rw [← hu]; split
    · left; exact ⟨rfl, by assumption⟩
    · right; exact ⟨rfl, by assumption⟩
  clear hu
  by_cases hgz : g = true ∧ z = true
  · obtain ⟨rfl, rfl⟩ := hgz
    obtain rfl : v = 2 := by rcases hv with ⟨_, h⟩ | ⟨h, _⟩ <;> simp_all
    clear hv hu2 hch
    go_enter Tryz.func98, Tryz.ntmps98
    go_wp2_with fail
    refine (hsp _).mono ?_
    rintro e w1 ⟨rfl, hb1⟩
    go_wp2
    go_ret
    exact ⟨rfl, hb1⟩
  · have hvu : u = v := by
      rcases hv with ⟨e, h⟩ | ⟨e, h⟩ <;> rcases hu2 with ⟨e2, h2⟩ | ⟨e2, h2⟩
      · rw [e, e2]
      · exact absurd ⟨h.1, h.2.1⟩ h2
      · exact absurd ⟨h2.1, h2.2, hgz⟩ h
      · rw [e, e2]
    have hor : (g && z) = false := by cases g <;> cases z <;> simp_all
    have h02 : u = 0 ∨ u = 2 := by rcases hu2 with h | h <;> simp [h.1]
    clear hv hu2
    subst hvu
    cases g with
    | false =>
      rcases h02 with rfl | rfl <;> clear hor hgz
      all_goals
        go_enter Tryz.func98, Tryz.ntmps98
        go_wp2_with fail
        refine (hsp _).mono ?_
        rintro e w1 ⟨rfl, hb1⟩
        go_wp2_with fail
        refine (hch _).mono ?_
        rintro e w2 ⟨rfl, hb2⟩
        go_wp2
        go_ret
        exact ⟨rfl, bT hb1 hb2⟩
    | true =>
      obtain rfl : z = false := by simpa using hor
      rcases h02 with rfl | rfl <;> clear hor hgz
      all_goals
        go_enter Tryz.func98, Tryz.ntmps98
        go_wp2_with fail
        refine (hsp _).mono ?_
        rintro e w1 ⟨rfl, hb1⟩
        go_wp2_with fail
        refine (hch _).mono ?_
        rintro e w2 ⟨rfl, hb2⟩
        go_wp2
        go_ret
        exact ⟨rfl, bT hb1 hb2⟩
end Go.Proofs.YtbihoedcbmnccaaGreatDoor
/- whole: Add, Sub, Mul. -/
namespace Go.Proofs.YtbihoedcbmnccaaGreatDoor
open Go.RowKit

theorem sgn_nat (g : Bool) (n : Nat) : (sgn g n).natAbs = n := by unfold sgn; split <;> omega
theorem nd_add (a b : Int) : nd (a + b) ≤ max (nd a) (nd b) + 1 := by
  have h1 := lt_of_nDigits_le (Nat.le_refl (Lib.nDigits a.natAbs))
  have h2 := lt_of_nDigits_le (Nat.le_refl (Lib.nDigits b.natAbs))
  unfold nd
  apply nDigits_le (by omega)
  have m1 : 10 ^ Lib.nDigits a.natAbs ≤ 10 ^ max (Lib.nDigits a.natAbs) (Lib.nDigits b.natAbs) := Nat.pow_le_pow_right (by decide) (by omega)
  have m2 : 10 ^ Lib.nDigits b.natAbs ≤ 10 ^ max (Lib.nDigits a.natAbs) (Lib.nDigits b.natAbs) := Nat.pow_le_pow_right (by decide) (by omega)
  rw [Nat.pow_succ]
  generalize 10 ^ max (Lib.nDigits a.natAbs) (Lib.nDigits b.natAbs) = M at m1 m2 ⊢
  generalize 10 ^ Lib.nDigits a.natAbs = x at *
  generalize 10 ^ Lib.nDigits b.natAbs = y at *
  omega
theorem nd_mulI (a b : Int) : nd (a * b) ≤ nd a + nd b := by unfold nd; rw [Int.natAbs_mul]; exact nd_mul _ _
theorem nd_neg (a : Int) : nd (-a) = nd a := by unfold nd; rw [Int.natAbs_neg]
theorem nd_nat (n : Nat) : nd (n : Int) = Lib.nDigits n := by unfold nd; rw [Int.natAbs_natCast]

theorem I_lim9 {n : Int} (h : (I n).size ≤ 9) : -1000000000 < n ∧ n < 1000000000 := by
  have h1 := I_size_le h
  have h3 : (10 : Nat) ^ 9 = 1000000000 := by decide
  omega
theorem cmp3_ge {a b : Nat} (h : ¬ a < b) : ¬ (cmp3 a b < 0) := by unfold cmp3; split <;> (try split) <;> omega
theorem mul_lim {a b : Int} (h1 : -1000000000 < a ∧ a < 1000000000) (h2 : -1000000000 < b ∧ b < 1000000000) : -1000000000000000000 ≤ a * b ∧ a * b ≤ 1000000000000000000 := by
  have h : (a * b).natAbs ≤ 1000000000 * 1000000000 := by rw [Int.natAbs_mul]; exact Nat.mul_le_mul (by omega) (by omega)
  omega
set_option maxHeartbeats 1600000 in
set_option maxRecDepth 100000 in
theorem whole_Add (a b : Int) (ha : nd a ≤ 400000) (hb : nd b ≤ 400000) (w : World) (hS : St w) :
    Calls Tryz.prog 18 #[.string (I a), .string (I b)] w fun e w' => e = .returned (.string (I (a + b))) ∧ Below w.heap.size w w' := by
  by_cases hs : ((I a).size : Int) ≤ 18 ∧ ((I b).size : Int) ≤ 18
  · have l1 := I_lim (show (I a).size ≤ 18 by omega) (Nat.le_refl _)
    have l2 := I_lim (show (I b).size ≤ 18 by omega) (Nat.le_refl _)
    go_enter Tryz.func18, Tryz.ntmps18
    go_wp2_with fail
    refine (little_yes a 18 (by omega) hs.1 _).mono ?_
    rintro e w1 ⟨rfl, hb1⟩
    go_wp2_with fail
    refine (little_yes b 18 (by omega) hs.2 _).mono ?_
    rintro e w2 ⟨rfl, hb2⟩
    go_wp2_with fail
    refine (whole_Of (a + b) (by omega) (by omega) _ ((hS.b hb1).b hb2)).mono ?_
    rintro e w3 ⟨rfl, hb3⟩
    go_wp2
    go_ret; exact ⟨rfl, bT hb1 (bT hb2 hb3)⟩
  · have hsab : (18 < ((I a).size : Int)) ∨ (((I a).size : Int) ≤ 18 ∧ 18 < ((I b).size : Int)) := by omega
    clear hs
    obtain ⟨g, hg⟩ : ∃ g, decide (a < 0) = g := ⟨_, rfl⟩
    obtain ⟨h, hh⟩ : ∃ h, decide (b < 0) = h := ⟨_, rfl⟩
    have sa := fun W => whole_split a W
    have sb := fun W => whole_split b W
    have ea := sgn_abs a
    have eb := sgn_abs b
    rw [hg] at sa ea
    rw [hh] at sb eb
    have EAB := Lib.hid (And.intro ea eb)
    clear ea eb hg hh
    have hx : Lib.nDigits a.natAbs ≤ 400000 := ha
    have hy : Lib.nDigits b.natAbs ≤ 400000 := hb
    obtain ⟨x, hxe⟩ : ∃ x, a.natAbs = x := ⟨_, rfl⟩
    obtain ⟨y, hye⟩ : ∃ y, b.natAbs = y := ⟨_, rfl⟩
    rw [hxe] at sa hx EAB
    rw [hye] at sb hy EAB
    clear hxe hye ha hb
    by_cases hgh : g = h
    · subst hgh
      have HS2 : Hid (sgn g (x + y) = a + b) := by show sgn g (x + y) = a + b; rw [← EAB.out.1, ← EAB.out.2]; unfold sgn; split <;> omega
      have HD : Hid (Lib.nDigits (x + y) ≤ 1000000) := by
        show Lib.nDigits (x + y) ≤ 1000000
        have := nd_add (x : Int) (y : Int)
        rw [nd_nat, nd_nat] at this
        rw [← nd_nat, Int.natCast_add]; omega
      clear EAB
      rcases hsab with h1 | ⟨h1, h2⟩
      · go_enter Tryz.func18, Tryz.ntmps18
        go_wp2_with fail
        refine (little_no a 18 h1 _).mono ?_
        rintro e w1 ⟨rfl, hb1⟩
        go_wp2_with fail
        refine (sa _).mono ?_
        rintro e w2 ⟨rfl, hb2⟩
        go_wp2_with fail
        refine (sb _).mono ?_
        rintro e w3 ⟨rfl, hb3⟩
        have HB := Lib.hid (bT hb1 (bT hb2 hb3))
        clear hb1 hb2 hb3
        go_wp2_with fail
        refine (decimal_Add x y (by omega) (by omega) _ (hS.b HB.out)).mono ?_
        rintro e w5 ⟨rfl, hb5⟩
        go_wp2_with fail
        refine (whole_join g (x + y) _ HD.out).mono ?_
        rintro e w6 ⟨rfl, hb6⟩
        go_wp2
        go_ret
        rw [HS2.out]
        exact ⟨rfl, bT HB.out (bT hb5 hb6)⟩
      · go_enter Tryz.func18, Tryz.ntmps18
        go_wp2_with fail
        refine (little_yes a 18 (by omega) h1 _).mono ?_
        rintro e w1 ⟨rfl, hb1⟩
        go_wp2_with fail
        refine (little_no b 18 h2 _).mono ?_
        rintro e w2 ⟨rfl, hb2⟩
        go_wp2_with fail
        refine (sa _).mono ?_
        rintro e w3 ⟨rfl, hb3⟩
        go_wp2_with fail
        refine (sb _).mono ?_
        rintro e w4 ⟨rfl, hb4⟩
        have HB := Lib.hid (bT hb1 (bT hb2 (bT hb3 hb4)))
        clear hb1 hb2 hb3 hb4
        go_wp2_with fail
        refine (decimal_Add x y (by omega) (by omega) _ (hS.b HB.out)).mono ?_
        rintro e w5 ⟨rfl, hb5⟩
        go_wp2_with fail
        refine (whole_join g (x + y) _ HD.out).mono ?_
        rintro e w6 ⟨rfl, hb6⟩
        go_wp2
        go_ret
        rw [HS2.out]
        exact ⟨rfl, bT HB.out (bT hb5 hb6)⟩
    · have hne : (g == h) = false := beq_eq_false_iff_ne.2 hgh
      have hcm := fun W => decimal_Compare x y (by omega) (by omega) W
      by_cases hlt : x < y
      · rw [cmp3_lt hlt] at hcm
        have HL := Lib.hid (Nat.le_of_lt hlt)
        have HS2 : Hid (sgn h (y - x) = a + b) := by show sgn h (y - x) = a + b; rw [← EAB.out.1, ← EAB.out.2]; unfold sgn; cases g <;> cases h <;> simp_all <;> omega
        have HD : Hid (Lib.nDigits (y - x) ≤ 1000000) := Nat.le_trans (nDigits_mono (Nat.sub_le _ _)) (by omega)
        clear EAB hlt hgh
        rcases hsab with h1 | ⟨h1, h2⟩
        · go_enter Tryz.func18, Tryz.ntmps18
          go_wp2_with fail
          refine (little_no a 18 h1 _).mono ?_
          rintro e w1 ⟨rfl, hb1⟩
          go_wp2_with fail
          refine (sa _).mono ?_
          rintro e w2 ⟨rfl, hb2⟩
          go_wp2_with fail
          refine (sb _).mono ?_
          rintro e w3 ⟨rfl, hb3⟩
          have HB := Lib.hid (bT hb1 (bT hb2 hb3))
          clear hb1 hb2 hb3
          go_wp2_with fail
          refine (hcm _).mono ?_
          rintro e w5 ⟨rfl, hb5⟩
          go_wp2_with fail
          refine (decimal_Sub y x (by omega) (by omega) HL.out _ ((hS.b HB.out).b hb5)).mono ?_
          rintro e w6 ⟨rfl, hb6⟩
          go_wp2_with fail
          refine (whole_join h (y - x) _ HD.out).mono ?_
          rintro e w7 ⟨rfl, hb7⟩
          go_wp2
          go_ret
          rw [HS2.out]
          exact ⟨rfl, bT HB.out (bT hb5 (bT hb6 hb7))⟩
        · go_enter Tryz.func18, Tryz.ntmps18
          go_wp2_with fail
          refine (little_yes a 18 (by omega) h1 _).mono ?_
          rintro e w1 ⟨rfl, hb1⟩
          go_wp2_with fail
          refine (little_no b 18 h2 _).mono ?_
          rintro e w2 ⟨rfl, hb2⟩
          go_wp2_with fail
          refine (sa _).mono ?_
          rintro e w3 ⟨rfl, hb3⟩
          go_wp2_with fail
          refine (sb _).mono ?_
          rintro e w4 ⟨rfl, hb4⟩
          have HB := Lib.hid (bT hb1 (bT hb2 (bT hb3 hb4)))
          clear hb1 hb2 hb3 hb4
          go_wp2_with fail
          refine (hcm _).mono ?_
          rintro e w5 ⟨rfl, hb5⟩
          go_wp2_with fail
          refine (decimal_Sub y x (by omega) (by omega) HL.out _ ((hS.b HB.out).b hb5)).mono ?_
          rintro e w6 ⟨rfl, hb6⟩
          go_wp2_with fail
          refine (whole_join h (y - x) _ HD.out).mono ?_
          rintro e w7 ⟨rfl, hb7⟩
          go_wp2
          go_ret
          rw [HS2.out]
          exact ⟨rfl, bT HB.out (bT hb5 (bT hb6 hb7))⟩
      · have hc3 := cmp3_ge hlt
        have HL : Hid (y ≤ x) := Nat.le_of_not_lt hlt
        have HS2 : Hid (sgn g (x - y) = a + b) := by show sgn g (x - y) = a + b; rw [← EAB.out.1, ← EAB.out.2]; unfold sgn; cases g <;> cases h <;> simp_all <;> omega
        have HD : Hid (Lib.nDigits (x - y) ≤ 1000000) := Nat.le_trans (nDigits_mono (Nat.sub_le _ _)) (by omega)
        obtain ⟨c3, hc3e⟩ : ∃ c, cmp3 x y = c := ⟨_, rfl⟩
        rw [hc3e] at hcm hc3
        clear EAB hlt hgh hc3e
        rcases hsab with h1 | ⟨h1, h2⟩
        · go_enter Tryz.func18, Tryz.ntmps18
          go_wp2_with fail
          refine (little_no a 18 h1 _).mono ?_
          rintro e w1 ⟨rfl, hb1⟩
          go_wp2_with fail
          refine (sa _).mono ?_
          rintro e w2 ⟨rfl, hb2⟩
          go_wp2_with fail
          refine (sb _).mono ?_
          rintro e w3 ⟨rfl, hb3⟩
          have HB := Lib.hid (bT hb1 (bT hb2 hb3))
          clear hb1 hb2 hb3
          go_wp2_with fail
          refine (hcm _).mono ?_
          rintro e w5 ⟨rfl, hb5⟩
          go_wp2_with fail
          refine (decimal_Sub x y (by omega) (by omega) HL.out _ ((hS.b HB.out).b hb5)).mono ?_
          rintro e w6 ⟨rfl, hb6⟩
          go_wp2_with fail
          refine (whole_join g (x - y) _ HD.out).mono ?_
          rintro e w7 ⟨rfl, hb7⟩
          go_wp2
          go_ret
          rw [HS2.out]
          exact ⟨rfl, bT HB.out (bT hb5 (bT hb6 hb7))⟩
        · go_enter Tryz.func18, Tryz.ntmps18
          go_wp2_with fail
          refine (little_yes a 18 (by omega) h1 _).mono ?_
          rintro e w1 ⟨rfl, hb1⟩
          go_wp2_with fail
          refine (little_no b 18 h2 _).mono ?_
          rintro e w2 ⟨rfl, hb2⟩
          go_wp2_with fail
          refine (sa _).mono ?_
          rintro e w3 ⟨rfl, hb3⟩
          go_wp2_with fail
          refine (sb _).mono ?_
          rintro e w4 ⟨rfl, hb4⟩
          have HB := Lib.hid (bT hb1 (bT hb2 (bT hb3 hb4)))
          clear hb1 hb2 hb3 hb4
          go_wp2_with fail
          refine (hcm _).mono ?_
          rintro e w5 ⟨rfl, hb5⟩
          go_wp2_with fail
          refine (decimal_Sub x y (by omega) (by omega) HL.out _ ((hS.b HB.out).b hb5)).mono ?_
          rintro e w6 ⟨rfl, hb6⟩
          go_wp2_with fail
          refine (whole_join g (x - y) _ HD.out).mono ?_
          rintro e w7 ⟨rfl, hb7⟩
          go_wp2
          go_ret
          rw [HS2.out]
          exact ⟨rfl, bT HB.out (bT hb5 (bT hb6 hb7))⟩
set_option maxHeartbeats 800000 in
theorem whole_Sub (a b : Int) (ha : nd a ≤ 400000) (hb : nd b ≤ 400000) (w : World) (hS : St w) :
    Calls Tryz.prog 17 #[.string (I a), .string (I b)] w fun e w' => e = .returned (.string (I (a - b))) ∧ Below w.heap.size w w' := by
  have he : a + -b = a - b := by omega
  rw [← he]
  clear he
  go_enter Tryz.func17, Tryz.ntmps17
  go_wp2_with fail
  refine (whole_Neg b _ (by omega)).mono ?_
  rintro e w1 ⟨rfl, hb1⟩
  go_wp2_with fail
  refine (whole_Add a (-b) ha (by rw [nd_neg]; exact hb) _ (hS.b hb1)).mono ?_
  rintro e w2 ⟨rfl, hb2⟩
  go_wp2
  go_ret
  exact ⟨rfl, bT hb1 hb2⟩
set_option maxHeartbeats 1600000 in
set_option maxRecDepth 100000 in
theorem whole_Mul (a b : Int) (ha : nd a ≤ 400000) (hb : nd b ≤ 400000) (w : World) (hS : St w) :
    Calls Tryz.prog 87 #[.string (I a), .string (I b)] w fun e w' => e = .returned (.string (I (a * b))) ∧ Below w.heap.size w w' := by
  by_cases hs : ((I a).size : Int) ≤ 9 ∧ ((I b).size : Int) ≤ 9
  · have l1 := I_lim9 (show (I a).size ≤ 9 by omega)
    have l2 := I_lim9 (show (I b).size ≤ 9 by omega)
    have l3 := mul_lim l1 l2
    go_enter Tryz.func87, Tryz.ntmps87
    go_wp2_with fail
    refine (little_yes a 9 (by omega) hs.1 _).mono ?_
    rintro e w1 ⟨rfl, hb1⟩
    go_wp2_with fail
    refine (little_yes b 9 (by omega) hs.2 _).mono ?_
    rintro e w2 ⟨rfl, hb2⟩
    go_wp2_with fail
    refine (whole_Of (a * b) (by omega) (by omega) _ ((hS.b hb1).b hb2)).mono ?_
    rintro e w3 ⟨rfl, hb3⟩
    go_wp2
    go_ret; exact ⟨rfl, bT hb1 (bT hb2 hb3)⟩
  · have hsab : (9 < ((I a).size : Int)) ∨ (((I a).size : Int) ≤ 9 ∧ 9 < ((I b).size : Int)) := by omega
    clear hs
    obtain ⟨g, hg⟩ : ∃ g, decide (a < 0) = g := ⟨_, rfl⟩
    obtain ⟨h, hh⟩ : ∃ h, decide (b < 0) = h := ⟨_, rfl⟩
    have sa := fun W => whole_split a W
    have sb := fun W => whole_split b W
    have ea := sgn_abs a
    have eb := sgn_abs b
    rw [hg] at sa ea
    rw [hh] at sb eb
    have EAB := Lib.hid (And.intro ea eb)
    clear ea eb hg hh
    have hx : Lib.nDigits a.natAbs ≤ 400000 := ha
    have hy : Lib.nDigits b.natAbs ≤ 400000 := hb
    obtain ⟨x, hxe⟩ : ∃ x, a.natAbs = x := ⟨_, rfl⟩
    obtain ⟨y, hye⟩ : ∃ y, b.natAbs = y := ⟨_, rfl⟩
    rw [hxe] at sa hx EAB
    rw [hye] at sb hy EAB
    clear hxe hye ha hb
    have HS2 : Hid (sgn (g != h) (x * y) = a * b) := by
      show sgn (g != h) (x * y) = a * b
      rw [← EAB.out.1, ← EAB.out.2]; unfold sgn; cases g <;> cases h <;> simp [Int.mul_neg, Int.neg_mul, Int.neg_neg]
    have HD : Hid (Lib.nDigits (x * y) ≤ 1000000) := Nat.le_trans (nd_mul x y) (by omega)
    clear EAB
    rcases hsab with h1 | ⟨h1, h2⟩
    · go_enter Tryz.func87, Tryz.ntmps87
      go_wp2_with fail
      refine (little_no a 9 h1 _).mono ?_
      rintro e w1 ⟨rfl, hb1⟩
      go_wp2_with fail
      refine (sa _).mono ?_
      rintro e w2 ⟨rfl, hb2⟩
      go_wp2_with fail
      refine (sb _).mono ?_
      rintro e w3 ⟨rfl, hb3⟩
      have HB := Lib.hid (bT hb1 (bT hb2 hb3))
      clear hb1 hb2 hb3
      go_wp2_with fail
      refine (decimal_Mul x y (by omega) (by omega) _ (hS.b HB.out)).mono ?_
      rintro e w5 ⟨rfl, hb5⟩
      go_wp2_with fail
      refine (whole_join (g != h) (x * y) _ HD.out).mono ?_
      rintro e w6 ⟨rfl, hb6⟩
      go_wp2
      go_ret
      rw [HS2.out]
      exact ⟨rfl, bT HB.out (bT hb5 hb6)⟩
    · go_enter Tryz.func87, Tryz.ntmps87
      go_wp2_with fail
      refine (little_yes a 9 (by omega) h1 _).mono ?_
      rintro e w1 ⟨rfl, hb1⟩
      go_wp2_with fail
      refine (little_no b 9 h2 _).mono ?_
      rintro e w2 ⟨rfl, hb2⟩
      go_wp2_with fail
      refine (sa _).mono ?_
      rintro e w3 ⟨rfl, hb3⟩
      go_wp2_with fail
      refine (sb _).mono ?_
      rintro e w4 ⟨rfl, hb4⟩
      have HB := Lib.hid (bT hb1 (bT hb2 (bT hb3 hb4)))
      clear hb1 hb2 hb3 hb4
      go_wp2_with fail
      refine (decimal_Mul x y (by omega) (by omega) _ (hS.b HB.out)).mono ?_
      rintro e w5 ⟨rfl, hb5⟩
      go_wp2_with fail
      refine (whole_join (g != h) (x * y) _ HD.out).mono ?_
      rintro e w6 ⟨rfl, hb6⟩
      go_wp2
      go_ret
      rw [HS2.out]
      exact ⟨rfl, bT HB.out (bT hb5 hb6)⟩
end Go.Proofs.YtbihoedcbmnccaaGreatDoor
/- whole: gcd, Gcd, Lcm, Compare. -/
namespace Go.Proofs.YtbihoedcbmnccaaGreatDoor
open Go.RowKit

set_option maxHeartbeats 800000 in
theorem whole_gcd (a b : Nat) (ha : a < 1000000000000000000) (hb : b < 1000000000000000000) (w : World) :
    Calls Tryz.prog 178 #[.int .i64 (a : Int), .int .i64 (b : Int)] w fun e w' => e = .returned (.int .i64 (Nat.gcd a b : Nat)) ∧ Below w.heap.size w w' := by
  obtain ⟨G, hG⟩ : ∃ G, Nat.gcd a b = G := ⟨_, rfl⟩
  rw [hG]
  have HG := Lib.hid hG
  clear hG
  go_enter Tryz.func178, Tryz.ntmps178
  go_wp2
  go_loopw [0, 1] (fun x y wr => ∃ (m n q : Nat), x = .int .i64 (m : Int) ∧ y = .int .i64 (n : Int) ∧ Hid (Nat.gcd m n = G) ∧ m < 1000000000000000000 ∧ n < 1000000000000000000 ∧ wr = w.drewN q) (fun _ y _ => (intOf y).toNat)
  case atStart => exact ⟨a, b, 0, rfl, rfl, HG.out, ha, hb, rfl⟩
  case round =>
    obtain ⟨m, n, q, rfl, rfl, HI, hm, hn, rfl⟩ := hrel
    by_cases h0 : n = 0
    · have hmG : m = G := by have := HI.out; rw [h0, Nat.gcd_zero_right] at this; exact this
      have hz : ((n : Int) != 0) = false := by rw [h0]; rfl
      have hb1 := Lib.hid (below_drewN (Below.refl w.heap.size w) q)
      clear h0
      go_wp2
      go_ret
      rw [hmG]
      exact ⟨rfl, hb1.out⟩
    · have hz : ((n : Int) != 0) = true := by rw [bne_iff_ne]; omega
      have hg : Nat.gcd n (m % n) = G := by rw [← HI.out, Nat.gcd_comm n, ← Nat.gcd_rec, Nat.gcd_comm]
      have hl : m % n < n := Nat.mod_lt _ (by omega)
      have ht : (m : Int).tmod (n : Int) = ((m % n : Nat) : Int) := by rw [Int.ofNat_tmod]
      obtain ⟨r, hr⟩ : ∃ r, m % n = r := ⟨_, rfl⟩
      rw [hr] at hg hl ht
      have HG2 := Lib.hid hg
      clear hr hg
      go_wp2
      go_region
      all_goals go_wp2
      all_goals go_roundw
      case rel => exact ⟨n, r, q + 1, rfl, rfl, HG2.out, hn, by omega, rfl⟩
      case measure => simp [intOf]; omega
theorem littleD_yes (n : Nat) (m : Int) (hm : m ≤ 18) (h : ((D n).size : Int) ≤ m) (w : World) :
    Calls Tryz.prog 56 #[.string (D n), .int .i64 m] w fun e w' => e = .returned (.tuple #[.int .i64 (n : Int), .bool true]) ∧ Below w.heap.size w w' := by
  rw [← I_nat] at h ⊢; exact little_yes n m hm h w
theorem littleD_no (n : Nat) (m : Int) (h : m < ((D n).size : Int)) (w : World) :
    Calls Tryz.prog 56 #[.string (D n), .int .i64 m] w fun e w' => e = .returned (.tuple #[.int .i64 0, .bool false]) ∧ Below w.heap.size w w' := by
  rw [← I_nat] at h ⊢; exact little_no n m h w
theorem D_lim {n : Nat} (h : ((D n).size : Int) ≤ 18) : n < 1000000000000000000 := by
  have := I_lim (n := (n : Int)) (k := 18) (by rw [I_nat]; omega) (Nat.le_refl _); omega
theorem whole_OfN (n : Nat) (h : n < 1000000000000000000) (w : World) (hS : St w) :
    Calls Tryz.prog 57 #[.int .i64 (n : Int)] w fun e w' => e = .returned (.string (D n)) ∧ Below w.heap.size w w' := by
  rw [← I_nat]; exact whole_Of n (by omega) (by omega) w hS
set_option maxHeartbeats 1600000 in
set_option maxRecDepth 100000 in
theorem whole_Gcd (a b : Int) (ha : nd a ≤ 1000000) (hb : nd b ≤ 1000000) (w : World) (hS : St w) :
    Calls Tryz.prog 150 #[.string (I a), .string (I b)] w fun e w' => e = .returned (.string (D (Int.gcd a b))) ∧ Below w.heap.size w w' := by
  have sa := fun W => whole_Abs a W
  have sb := fun W => whole_Abs b W
  rw [show Int.gcd a b = Nat.gcd a.natAbs b.natAbs from rfl]
  have hx : Lib.nDigits a.natAbs ≤ 1000000 := ha
  have hy : Lib.nDigits b.natAbs ≤ 1000000 := hb
  clear ha hb
  obtain ⟨x, hxe⟩ : ∃ x, a.natAbs = x := ⟨_, rfl⟩
  obtain ⟨y, hye⟩ : ∃ y, b.natAbs = y := ⟨_, rfl⟩
  rw [hxe] at sa hx ⊢
  rw [hye] at sb hy ⊢
  clear hxe hye
  by_cases h1 : ((D x).size : Int) ≤ 18
  · by_cases h2 : ((D y).size : Int) ≤ 18
    · have hlx := D_lim h1
      have hly := D_lim h2
      have hgl : Nat.gcd x y < 1000000000000000000 := by
        rcases Nat.eq_zero_or_pos x with h | h
        · rw [h, Nat.gcd_zero_left]; exact hly
        · exact Nat.lt_of_le_of_lt (Nat.le_of_dvd h (Nat.gcd_dvd_left ..)) hlx
      have hgc := fun W => whole_gcd x y hlx hly W
      obtain ⟨g, hg⟩ : ∃ g, Nat.gcd x y = g := ⟨_, rfl⟩
      rw [hg] at hgl hgc ⊢
      clear hg
      go_enter Tryz.func150, Tryz.ntmps150
      go_wp2_with fail
      refine (sa _).mono ?_
      rintro e w1 ⟨rfl, hb1⟩
      go_wp2_with fail
      refine (sb _).mono ?_
      rintro e w2 ⟨rfl, hb2⟩
      go_wp2_with fail
      refine (littleD_yes x 18 (by omega) h1 _).mono ?_
      rintro e w3 ⟨rfl, hb3⟩
      go_wp2_with fail
      refine (littleD_yes y 18 (by omega) h2 _).mono ?_
      rintro e w4 ⟨rfl, hb4⟩
      go_wp2_with fail
      refine (hgc _).mono ?_
      rintro e w5 ⟨rfl, hb5⟩
      go_wp2_with fail
      refine (whole_OfN g hgl _ (((((hS.b hb1).b hb2).b hb3).b hb4).b hb5)).mono ?_
      rintro e w6 ⟨rfl, hb6⟩
      go_wp2
      go_ret
      exact ⟨rfl, bT hb1 (bT hb2 (bT hb3 (bT hb4 (bT hb5 hb6))))⟩
    · go_enter Tryz.func150, Tryz.ntmps150
      go_wp2_with fail
      refine (sa _).mono ?_
      rintro e w1 ⟨rfl, hb1⟩
      go_wp2_with fail
      refine (sb _).mono ?_
      rintro e w2 ⟨rfl, hb2⟩
      go_wp2_with fail
      refine (littleD_yes x 18 (by omega) h1 _).mono ?_
      rintro e w3 ⟨rfl, hb3⟩
      go_wp2_with fail
      refine (littleD_no y 18 (by omega) _).mono ?_
      rintro e w4 ⟨rfl, hb4⟩
      go_wp2_with fail
      refine (decimal_Gcd x y hx hy _ ((((hS.b hb1).b hb2).b hb3).b hb4)).mono ?_
      rintro e w5 ⟨rfl, hb5⟩
      go_wp2
      go_ret
      exact ⟨rfl, bT hb1 (bT hb2 (bT hb3 (bT hb4 hb5)))⟩
  · go_enter Tryz.func150, Tryz.ntmps150
    go_wp2_with fail
    refine (sa _).mono ?_
    rintro e w1 ⟨rfl, hb1⟩
    go_wp2_with fail
    refine (sb _).mono ?_
    rintro e w2 ⟨rfl, hb2⟩
    go_wp2_with fail
    refine (littleD_no x 18 (by omega) _).mono ?_
    rintro e w3 ⟨rfl, hb3⟩
    go_wp2_with fail
    refine (decimal_Gcd x y hx hy _ (((hS.b hb1).b hb2).b hb3)).mono ?_
    rintro e w5 ⟨rfl, hb5⟩
    go_wp2
    go_ret
    exact ⟨rfl, bT hb1 (bT hb2 (bT hb3 hb5))⟩
set_option maxHeartbeats 800000 in
theorem whole_Lcm (a b : Int) (ha : nd a ≤ 500000) (hb : nd b ≤ 500000) (w : World) (hS : St w) :
    Calls Tryz.prog 157 #[.string (I a), .string (I b)] w fun e w' => e = .returned (.string (D (Nat.lcm a.natAbs b.natAbs))) ∧ Below w.heap.size w w' := by
  go_enter Tryz.func157, Tryz.ntmps157
  go_wp2_with fail
  refine (whole_Abs a _).mono ?_
  rintro e w1 ⟨rfl, hb1⟩
  go_wp2_with fail
  refine (whole_Abs b _).mono ?_
  rintro e w2 ⟨rfl, hb2⟩
  go_wp2_with fail
  refine (decimal_Lcm _ _ ha hb _ ((hS.b hb1).b hb2)).mono ?_
  rintro e w3 ⟨rfl, hb3⟩
  go_wp2
  go_ret
  exact ⟨rfl, bT hb1 (bT hb2 hb3)⟩
/-! ### Compare -/
def cmpI (a b : Int) : Int := if a < b then -1 else if b < a then 1 else 0
theorem cmp3_cases (a b : Nat) : (a < b ∧ cmp3 a b = -1) ∨ (a = b ∧ cmp3 a b = 0) ∨ (b < a ∧ cmp3 a b = 1) := by
  unfold cmp3
  rcases Nat.lt_trichotomy a b with h | h | h
  · left; simp [h]
  · right; left; simp [h]
  · right; right; refine ⟨h, ?_⟩; rw [if_neg (by omega)]; simp; try omega
theorem cmpI_cases (a b : Int) : (a < b ∧ cmpI a b = -1) ∨ (a = b ∧ cmpI a b = 0) ∨ (b < a ∧ cmpI a b = 1) := by
  unfold cmpI; split
  · left; exact ⟨by assumption, rfl⟩
  · split
    · right; right; exact ⟨by assumption, rfl⟩
    · right; left; exact ⟨by omega, rfl⟩
set_option maxHeartbeats 800000 in
theorem whole_Compare (a b : Int) (ha : nd a ≤ 1000000) (hb : nd b ≤ 1000000) (w : World) :
    Calls Tryz.prog 86 #[.string (I a), .string (I b)] w fun e w' => e = .returned (.int .i64 (cmpI a b)) ∧ Below w.heap.size w w' := by
  have hsa := fun W => whole_Sign a W
  have hsb := fun W => whole_Sign b W
  have e1 : (0 < a ∧ a.sign = 1) ∨ (a = 0 ∧ a.sign = 0) ∨ (a < 0 ∧ a.sign = -1) := by
    rcases Int.lt_trichotomy a 0 with h | h | h
    · right; right; exact ⟨h, Int.sign_eq_neg_one_of_neg h⟩
    · right; left; exact ⟨h, by rw [h]; rfl⟩
    · left; exact ⟨h, Int.sign_eq_one_of_pos h⟩
  have e2 : (0 < b ∧ b.sign = 1) ∨ (b = 0 ∧ b.sign = 0) ∨ (b < 0 ∧ b.sign = -1) := by
    rcases Int.lt_trichotomy b 0 with h | h | h
    · right; right; exact ⟨h, Int.sign_eq_neg_one_of_neg h⟩
    · right; left; exact ⟨h, by rw [h]; rfl⟩
    · left; exact ⟨h, Int.sign_eq_one_of_pos h⟩
  have e3 := cmpI_cases a b
  obtain ⟨c, hc⟩ : ∃ c, cmpI a b = c := ⟨_, rfl⟩
  rw [hc] at e3 ⊢
  obtain ⟨x, hx⟩ : ∃ x, a.sign = x := ⟨_, rfl⟩
  obtain ⟨y, hy⟩ : ∃ y, b.sign = y := ⟨_, rfl⟩
  rw [hx] at e1 hsa
  rw [hy] at e2 hsb
  clear hc hx hy
  by_cases hxy : x = y
  · subst hxy
    have hd1 := fun W => whole_split a W
    have hd2 := fun W => whole_split b W
    have hdc := fun W => decimal_Compare a.natAbs b.natAbs ha hb W
    have hdr := fun W => decimal_Compare b.natAbs a.natAbs hb ha W
    by_cases hn : a < 0
    · have hc : cmp3 b.natAbs a.natAbs = c := by
        have := cmp3_cases b.natAbs a.natAbs
        omega
      rw [decide_eq_true hn] at hd1
      rw [hc] at hdr
      clear hdc hc e1 e2 e3 hn
      go_enter Tryz.func86, Tryz.ntmps86
      go_wp2_with fail
      refine (hsa _).mono ?_
      rintro e w1 ⟨rfl, hb1⟩
      go_wp2_with fail
      refine (hsb _).mono ?_
      rintro e w2 ⟨rfl, hb2⟩
      go_wp2_with fail
      refine (hd1 _).mono ?_
      rintro e w3 ⟨rfl, hb3⟩
      go_wp2_with fail
      refine (hd2 _).mono ?_
      rintro e w4 ⟨rfl, hb4⟩
      go_wp2_with fail
      refine (hdr _).mono ?_
      rintro e w5 ⟨rfl, hb5⟩
      go_wp2
      go_ret
      exact ⟨rfl, bT hb1 (bT hb2 (bT hb3 (bT hb4 hb5)))⟩
    · have hc : cmp3 a.natAbs b.natAbs = c := by
        have := cmp3_cases a.natAbs b.natAbs
        omega
      rw [decide_eq_false hn] at hd1
      rw [hc] at hdc
      clear hdr hc e1 e2 e3 hn
      go_enter Tryz.func86, Tryz.ntmps86
      go_wp2_with fail
      refine (hsa _).mono ?_
      rintro e w1 ⟨rfl, hb1⟩
      go_wp2_with fail
      refine (hsb _).mono ?_
      rintro e w2 ⟨rfl, hb2⟩
      go_wp2_with fail
      refine (hd1 _).mono ?_
      rintro e w3 ⟨rfl, hb3⟩
      go_wp2_with fail
      refine (hd2 _).mono ?_
      rintro e w4 ⟨rfl, hb4⟩
      go_wp2_with fail
      refine (hdc _).mono ?_
      rintro e w5 ⟨rfl, hb5⟩
      go_wp2
      go_ret
      exact ⟨rfl, bT hb1 (bT hb2 (bT hb3 (bT hb4 hb5)))⟩
  · have hne : (x != y) = true := by rw [bne_iff_ne]; exact hxy
    rcases Int.lt_or_lt_of_ne hxy with h | h
    · obtain rfl : -1 = c := by omega
      clear e1 e2 e3 hxy
      go_enter Tryz.func86, Tryz.ntmps86
      go_wp2_with fail
      refine (hsa _).mono ?_
      rintro e w1 ⟨rfl, hb1⟩
      go_wp2_with fail
      refine (hsb _).mono ?_
      rintro e w2 ⟨rfl, hb2⟩
      go_wp2
      go_ret
      exact ⟨rfl, bT hb1 hb2⟩
    · obtain rfl : 1 = c := by omega
      have h' : ¬ x < y := by omega
      clear e1 e2 e3 hxy h
      go_enter Tryz.func86, Tryz.ntmps86
      go_wp2_with fail
      refine (hsa _).mono ?_
      rintro e w1 ⟨rfl, hb1⟩
      go_wp2_with fail
      refine (hsb _).mono ?_
      rintro e w2 ⟨rfl, hb2⟩
      go_wp2
      go_ret
      exact ⟨rfl, bT hb1 hb2⟩
end Go.Proofs.YtbihoedcbmnccaaGreatDoor
/- whole: DivMod (by a positive number), Small, Power. -/
namespace Go.Proofs.YtbihoedcbmnccaaGreatDoor
open Go.RowKit


theorem tdiv_facts (a b : Int) (hb : 0 < b) :
    (a.tmod b = 0 ∧ a / b = a.tdiv b ∧ a % b = 0) ∨ (0 < a.tmod b ∧ a / b = a.tdiv b ∧ a % b = a.tmod b) ∨ (a.tmod b < 0 ∧ a / b = a.tdiv b - 1 ∧ a % b = a.tmod b + b) := by
  have h1 := Int.mul_tdiv_add_tmod a b
  have h2 := Int.mul_ediv_add_emod a b
  have h3 := Int.emod_nonneg a (show b ≠ 0 by omega)
  have h4 := Int.emod_lt_of_pos a hb
  have h5 := Int.tmod_lt_of_pos a hb
  have h6 : -b < a.tmod b := by
    rcases Int.le_total 0 a with h | h
    · have := Int.tmod_nonneg b h; omega
    · have h7 := Int.tmod_lt_of_pos (-a) hb
      rw [Int.neg_tmod] at h7; omega
  have key : ∀ k : Int, b * k < b → -b < b * k → k = 0 := fun k k1 k2 => by
    rcases Int.lt_trichotomy k 0 with h | h | h
    · have : b * k ≤ b * (-1) := Int.mul_le_mul_of_nonneg_left (by omega) (by omega); omega
    · exact h
    · have : b * 1 ≤ b * k := Int.mul_le_mul_of_nonneg_left (by omega) (by omega); omega
  generalize a.tdiv b = q at *
  generalize a.tmod b = r at *
  generalize a / b = Q at *
  generalize a % b = R at *
  have e : b * (q - Q) = R - r := by rw [Int.mul_sub]; omega
  rcases Int.lt_trichotomy r 0 with h | h | h
  · right; right
    refine ⟨h, ?_⟩
    have e2 : b * (q - 1 - Q) = R - r - b := by rw [Int.mul_sub, Int.mul_sub] at *; omega
    have := key (q - 1 - Q) (by omega) (by omega)
    have hz : b * (q - 1 - Q) = 0 := by rw [this, Int.mul_zero]
    omega
  · left
    have := key (q - Q) (by omega) (by omega)
    have hz : b * (q - Q) = 0 := by rw [this, Int.mul_zero]
    omega
  · right; left
    have := key (q - Q) (by omega) (by omega)
    have hz : b * (q - Q) = 0 := by rw [this, Int.mul_zero]
    omega
set_option maxHeartbeats 1600000 in
set_option maxRecDepth 100000 in
theorem divmodI_small (a b : Int) (hs : ((I a).size : Int) ≤ 18 ∧ ((I b).size : Int) ≤ 18) (hb0 : 0 < b) (w : World) (hS : St w) :
    Calls Tryz.prog 136 #[.string (I a), .string (I b)] w fun e w' => e = .returned (.tuple #[.string (I (a / b)), .string (I (a % b)), .int .i64 0]) ∧ Below w.heap.size w w' := by
  have l1 := I_lim (show (I a).size ≤ 18 by omega) (Nat.le_refl _)
  have l2 := I_lim (show (I b).size ≤ 18 by omega) (Nat.le_refl _)
  have hz : ((I b).toList == [48]) = false := by rw [I_is0]; exact decide_eq_false (by omega)
  have hf := Lib.hid (tdiv_facts a b hb0)
  have hq : -1000000000000000000 ≤ a.tdiv b ∧ a.tdiv b ≤ 1000000000000000000 := by
    have := Int.natAbs_tdiv_le_natAbs a b; omega
  have hr : -1000000000000000000 < a.tmod b ∧ a.tmod b < 1000000000000000000 := by
    have h1 := Int.tmod_lt_of_pos a hb0
    have h2 := Int.tmod_lt_of_pos (-a) hb0
    rw [Int.neg_tmod] at h2; omega
  have hnb : decide (b < 0) = false := decide_eq_false (by omega)
  go_enter Tryz.func136, Tryz.ntmps136
  go_wp2_with fail; refine ((little_yes a 18 (by omega) hs.1 _)).mono ?_; rintro e w1 ⟨rfl, hb1⟩
  go_wp2_with fail; refine ((little_yes b 18 (by omega) hs.2 _)).mono ?_; rintro e w2 ⟨rfl, hb2⟩
  have HB := Lib.hid (bT hb1 hb2)
  have hS2 := hS.b HB.out
  clear hb1 hb2
  have hf := hf.out
  generalize htq : a.tdiv b = q0 at hf hq
  generalize htr : a.tmod b = r0 at hf hr
  have hwq : IntKind.i64.wrap q0 = q0 := by rw [IntKind.wrap_i64]; omega
  have hb00 : ¬ b = 0 := by omega
  rcases hf with ⟨h1, h2, h3⟩ | ⟨h1, h2, h3⟩ | ⟨h1, h2, h3⟩
  · have H := Lib.hid (And.intro h2 h3)
    have hz0 : (r0 != 0) = false := by rw [h1]; rfl
    clear h2 h3
    go_wp2
    go_region
    go_wp2_with fail; refine ((whole_Of (q0) (by omega) (by omega) _ hS2.drew)).mono ?_; rintro e w3 ⟨rfl, hb3⟩
    go_wp2_with fail; refine ((whole_Of (0) (by omega) (by omega) _ (hS2.drew.b hb3))).mono ?_; rintro e w4 ⟨rfl, hb4⟩
    go_wp2
    go_ret3
    rw [H.out.1, H.out.2]
    exact ⟨rfl, bT HB.out (bT (Below.refl _ _).drew (bT hb3 hb4))⟩
  · have H := Lib.hid (And.intro h2 h3)
    have hz0 : (r0 != 0) = true := by rw [bne_iff_ne]; omega
    have hl0 : ¬ r0 < 0 := by omega
    clear h2 h3
    go_wp2
    go_region
    go_wp2_with fail; refine ((whole_Of (q0) (by omega) (by omega) _ hS2.drew)).mono ?_; rintro e w3 ⟨rfl, hb3⟩
    go_wp2_with fail; refine ((whole_Of (r0) (by omega) (by omega) _ (hS2.drew.b hb3))).mono ?_; rintro e w4 ⟨rfl, hb4⟩
    go_wp2
    go_ret3
    rw [H.out.1, H.out.2]
    exact ⟨rfl, bT HB.out (bT (Below.refl _ _).drew (bT hb3 hb4))⟩
  · have H := Lib.hid (And.intro h2 h3)
    have hz0 : (r0 != 0) = true := by rw [bne_iff_ne]; omega
    clear h2 h3
    go_wp2
    go_region
    go_wp2_with fail; refine ((whole_Of (q0 - 1) (by omega) (by omega) _ hS2.drew)).mono ?_; rintro e w3 ⟨rfl, hb3⟩
    go_wp2_with fail; refine ((whole_Of (r0 + b) (by omega) (by omega) _ (hS2.drew.b hb3))).mono ?_; rintro e w4 ⟨rfl, hb4⟩
    go_wp2
    go_ret3
    rw [H.out.1, H.out.2]
    exact ⟨rfl, bT HB.out (bT (Below.refl _ _).drew (bT hb3 hb4))⟩
theorem D_one : D 1 = ⟨#[49]⟩ := by unfold D; rw [dig_small (by decide)]; rfl
theorem neg_divmod (x y : Nat) (hy : 0 < y) : (x % y = 0 ∧ (-(x : Int)) / y = -((x / y : Nat) : Int) ∧ (-(x : Int)) % y = 0) ∨ (0 < x % y ∧ (-(x : Int)) / y = -((x / y + 1 : Nat) : Int) ∧ (-(x : Int)) % y = ((y - x % y : Nat) : Int)) := by
  have hf := tdiv_facts (-(x : Int)) y (by omega)
  rw [Int.neg_tmod, Int.neg_tdiv, ← Int.ofNat_tmod, ← Int.ofNat_tdiv] at hf
  have hl := Nat.mod_lt x hy
  generalize x % y = r at *
  generalize x / y = q at *
  omega
set_option maxHeartbeats 1600000 in
set_option maxRecDepth 100000 in
theorem divmodI_long (a b : Int) (hb0 : 0 < b) (hs : ¬ (((I a).size : Int) ≤ 18 ∧ ((I b).size : Int) ≤ 18)) (ha : nd a ≤ 400000) (hb : nd b ≤ 400000) (w : World) (hS : St w) :
    Calls Tryz.prog 136 #[.string (I a), .string (I b)] w fun e w' => e = .returned (.tuple #[.string (I (a / b)), .string (I (a % b)), .int .i64 0]) ∧ Below w.heap.size w w' := by
  have hz : ((I b).toList == [48]) = false := by rw [I_is0]; exact decide_eq_false (by omega)
  have hsab : (18 < ((I a).size : Int)) ∨ (((I a).size : Int) ≤ 18 ∧ 18 < ((I b).size : Int)) := by omega
  clear hs
  obtain ⟨y, rfl⟩ := Int.eq_ofNat_of_zero_le (show 0 ≤ b by omega)
  have sb := fun W => whole_split (y : Int) W
  rw [decide_eq_false (show ¬ (y : Int) < 0 by omega), Int.natAbs_natCast] at sb
  have hy : Lib.nDigits y ≤ 400000 := by rw [← nd_nat]; exact hb
  have sa := fun W => whole_split a W
  have hx : Lib.nDigits a.natAbs ≤ 400000 := ha
  obtain ⟨x, hxe⟩ : ∃ x, a.natAbs = x := ⟨_, rfl⟩
  rw [hxe] at sa hx
  have hdm := fun W hW => decimal_DivMod x y (by omega) (by omega) (by omega) W hW
  have hq1 := nd_div x y
  have hr1 : Lib.nDigits (x % y) ≤ Lib.nDigits y := nDigits_mono (Nat.le_of_lt (Nat.mod_lt _ (by omega)))
  have hr2 : x % y ≤ y := Nat.le_of_lt (Nat.mod_lt _ (by omega))
  clear ha hb
  by_cases hn : a < 0
  · rw [decide_eq_true hn] at sa
    have ea : a = -(x : Int) := by omega
    have hnd := neg_divmod x y (by omega)
    rw [← ea] at hnd
    clear hn hxe ea
    obtain ⟨q, hq⟩ : ∃ q, x / y = q := ⟨_, rfl⟩
    obtain ⟨r, hr⟩ : ∃ r, x % y = r := ⟨_, rfl⟩
    rw [hq, hr] at hdm hnd
    rw [hq] at hq1
    rw [hr] at hr1 hr2
    clear hq hr
    rcases hnd with ⟨h3, h4, h5⟩ | ⟨h3, h4, h5⟩
    · have hrz : ((D r).toList == [48]) = true := by rw [D_is0]; exact decide_eq_true h3
      have HE : Hid (sgn true q = a / (y : Int) ∧ sgn false r = a % (y : Int)) := ⟨h4.symm, by rw [h5, h3]; rfl⟩
      have HD : Hid (Lib.nDigits q ≤ 1000000 ∧ Lib.nDigits r ≤ 1000000) := ⟨by omega, by omega⟩
      clear h3 h4 h5 hq1 hr1
      rcases hsab with h1 | ⟨h1, h2⟩
      · go_enter Tryz.func136, Tryz.ntmps136
        go_wp2_with fail; refine ((little_no a 18 h1 _)).mono ?_; rintro e w1 ⟨rfl, hb1⟩
        go_wp2_with fail; refine ((sa _)).mono ?_; rintro e w2 ⟨rfl, hb2⟩
        go_wp2_with fail; refine ((sb _)).mono ?_; rintro e w3 ⟨rfl, hb3⟩
        have HB := Lib.hid (bT hb1 (bT hb2 hb3))
        clear hb1 hb2 hb3
        go_wp2_with fail; refine ((hdm _ (hS.b HB.out))).mono ?_; rintro e w5 ⟨rfl, hb5⟩
        go_wp2_with fail; refine ((whole_join true q _ HD.out.1)).mono ?_; rintro e w6 ⟨rfl, hb6⟩
        go_wp2_with fail; refine ((whole_join false r _ HD.out.2)).mono ?_; rintro e w7 ⟨rfl, hb7⟩
        go_wp2
        go_ret3
        rw [HE.out.1, HE.out.2]
        exact ⟨rfl, bT HB.out (bT hb5 (bT hb6 hb7))⟩
      · go_enter Tryz.func136, Tryz.ntmps136
        go_wp2_with fail; refine ((little_yes a 18 (by omega) h1 _)).mono ?_; rintro e w1 ⟨rfl, hb1⟩
        go_wp2_with fail; refine ((little_no (y : Int) 18 h2 _)).mono ?_; rintro e w2 ⟨rfl, hb2⟩
        go_wp2_with fail; refine ((sa _)).mono ?_; rintro e w3 ⟨rfl, hb3⟩
        go_wp2_with fail; refine ((sb _)).mono ?_; rintro e w4 ⟨rfl, hb4⟩
        have HB := Lib.hid (bT hb1 (bT hb2 (bT hb3 hb4)))
        clear hb1 hb2 hb3 hb4
        go_wp2_with fail; refine ((hdm _ (hS.b HB.out))).mono ?_; rintro e w5 ⟨rfl, hb5⟩
        go_wp2_with fail; refine ((whole_join true q _ HD.out.1)).mono ?_; rintro e w6 ⟨rfl, hb6⟩
        go_wp2_with fail; refine ((whole_join false r _ HD.out.2)).mono ?_; rintro e w7 ⟨rfl, hb7⟩
        go_wp2
        go_ret3
        rw [HE.out.1, HE.out.2]
        exact ⟨rfl, bT HB.out (bT hb5 (bT hb6 hb7))⟩
    · have hrz : ((D r).toList == [48]) = false := by rw [D_is0]; exact decide_eq_false (by omega)
      have HE : Hid (sgn true (q + 1) = a / (y : Int) ∧ sgn false (y - r) = a % (y : Int)) := ⟨h4.symm, h5.symm⟩
      have HD : Hid (Lib.nDigits (q + 1) ≤ 1000000 ∧ Lib.nDigits (y - r) ≤ 1000000) := ⟨by
        have := nd_add (q : Int) (1 : Nat)
        rw [nd_nat, nd_nat, show Lib.nDigits 1 = 1 from by rw [← D_size, D_one]; rfl] at this
        rw [← nd_nat, Int.natCast_add]; omega, Nat.le_trans (nDigits_mono (Nat.sub_le _ _)) (by omega)⟩
      have hadd := fun W hW => decimal_Add q 1 (by omega) (by rw [← D_size, D_one]; decide) W hW
      rw [D_one] at hadd
      have hsub := fun W hW => decimal_Sub y r (by omega) (by omega) hr2 W hW
      clear h3 h4 h5 hq1 hr1
      rcases hsab with h1 | ⟨h1, h2⟩
      · go_enter Tryz.func136, Tryz.ntmps136
        go_wp2_with fail; refine ((little_no a 18 h1 _)).mono ?_; rintro e w1 ⟨rfl, hb1⟩
        go_wp2_with fail; refine ((sa _)).mono ?_; rintro e w2 ⟨rfl, hb2⟩
        go_wp2_with fail; refine ((sb _)).mono ?_; rintro e w3 ⟨rfl, hb3⟩
        have HB := Lib.hid (bT hb1 (bT hb2 hb3))
        clear hb1 hb2 hb3
        go_wp2_with fail; refine ((hdm _ (hS.b HB.out))).mono ?_; rintro e w5 ⟨rfl, hb5⟩
        go_wp2_with fail; refine ((hadd _ ((hS.b HB.out).b hb5))).mono ?_; rintro e w6 ⟨rfl, hb6⟩
        go_wp2_with fail; refine ((hsub _ (((hS.b HB.out).b hb5).b hb6))).mono ?_; rintro e w7 ⟨rfl, hb7⟩
        go_wp2_with fail; refine ((whole_join true (q + 1) _ HD.out.1)).mono ?_; rintro e w8 ⟨rfl, hb8⟩
        go_wp2_with fail; refine ((whole_join false (y - r) _ HD.out.2)).mono ?_; rintro e w9 ⟨rfl, hb9⟩
        go_wp2
        go_ret3
        rw [HE.out.1, HE.out.2]
        exact ⟨rfl, bT HB.out (bT hb5 (bT hb6 (bT hb7 (bT hb8 hb9))))⟩
      · go_enter Tryz.func136, Tryz.ntmps136
        go_wp2_with fail; refine ((little_yes a 18 (by omega) h1 _)).mono ?_; rintro e w1 ⟨rfl, hb1⟩
        go_wp2_with fail; refine ((little_no (y : Int) 18 h2 _)).mono ?_; rintro e w2 ⟨rfl, hb2⟩
        go_wp2_with fail; refine ((sa _)).mono ?_; rintro e w3 ⟨rfl, hb3⟩
        go_wp2_with fail; refine ((sb _)).mono ?_; rintro e w4 ⟨rfl, hb4⟩
        have HB := Lib.hid (bT hb1 (bT hb2 (bT hb3 hb4)))
        clear hb1 hb2 hb3 hb4
        go_wp2_with fail; refine ((hdm _ (hS.b HB.out))).mono ?_; rintro e w5 ⟨rfl, hb5⟩
        go_wp2_with fail; refine ((hadd _ ((hS.b HB.out).b hb5))).mono ?_; rintro e w6 ⟨rfl, hb6⟩
        go_wp2_with fail; refine ((hsub _ (((hS.b HB.out).b hb5).b hb6))).mono ?_; rintro e w7 ⟨rfl, hb7⟩
        go_wp2_with fail; refine ((whole_join true (q + 1) _ HD.out.1)).mono ?_; rintro e w8 ⟨rfl, hb8⟩
        go_wp2_with fail; refine ((whole_join false (y - r) _ HD.out.2)).mono ?_; rintro e w9 ⟨rfl, hb9⟩
        go_wp2
        go_ret3
        rw [HE.out.1, HE.out.2]
        exact ⟨rfl, bT HB.out (bT hb5 (bT hb6 (bT hb7 (bT hb8 hb9))))⟩
  · rw [decide_eq_false hn] at sa
    have ea : a = (x : Int) := by omega
    clear hn hxe
    have HE : Hid (sgn false (x / y) = a / (y : Int) ∧ sgn false (x % y) = a % (y : Int)) := by
      rw [ea]; exact ⟨(Int.natCast_ediv ..), (Int.natCast_emod ..)⟩
    clear ea
    obtain ⟨q, hq⟩ : ∃ q, x / y = q := ⟨_, rfl⟩
    obtain ⟨r, hr⟩ : ∃ r, x % y = r := ⟨_, rfl⟩
    rw [hq, hr] at hdm HE
    rw [hq] at hq1
    rw [hr] at hr1 hr2
    have HD : Hid (Lib.nDigits q ≤ 1000000 ∧ Lib.nDigits r ≤ 1000000) := ⟨by omega, by omega⟩
    clear hq hr hq1 hr1
    rcases hsab with h1 | ⟨h1, h2⟩
    · go_enter Tryz.func136, Tryz.ntmps136
      go_wp2_with fail; refine ((little_no a 18 h1 _)).mono ?_; rintro e w1 ⟨rfl, hb1⟩
      go_wp2_with fail; refine ((sa _)).mono ?_; rintro e w2 ⟨rfl, hb2⟩
      go_wp2_with fail; refine ((sb _)).mono ?_; rintro e w3 ⟨rfl, hb3⟩
      have HB := Lib.hid (bT hb1 (bT hb2 hb3))
      clear hb1 hb2 hb3
      go_wp2_with fail; refine ((hdm _ (hS.b HB.out))).mono ?_; rintro e w5 ⟨rfl, hb5⟩
      go_wp2_with fail; refine ((whole_join false q _ HD.out.1)).mono ?_; rintro e w6 ⟨rfl, hb6⟩
      go_wp2_with fail; refine ((whole_join false r _ HD.out.2)).mono ?_; rintro e w7 ⟨rfl, hb7⟩
      go_wp2
      go_ret3
      rw [HE.out.1, HE.out.2]
      exact ⟨rfl, bT HB.out (bT hb5 (bT hb6 hb7))⟩
    · go_enter Tryz.func136, Tryz.ntmps136
      go_wp2_with fail; refine ((little_yes a 18 (by omega) h1 _)).mono ?_; rintro e w1 ⟨rfl, hb1⟩
      go_wp2_with fail; refine ((little_no (y : Int) 18 h2 _)).mono ?_; rintro e w2 ⟨rfl, hb2⟩
      go_wp2_with fail; refine ((sa _)).mono ?_; rintro e w3 ⟨rfl, hb3⟩
      go_wp2_with fail; refine ((sb _)).mono ?_; rintro e w4 ⟨rfl, hb4⟩
      have HB := Lib.hid (bT hb1 (bT hb2 (bT hb3 hb4)))
      clear hb1 hb2 hb3 hb4
      go_wp2_with fail; refine ((hdm _ (hS.b HB.out))).mono ?_; rintro e w5 ⟨rfl, hb5⟩
      go_wp2_with fail; refine ((whole_join false q _ HD.out.1)).mono ?_; rintro e w6 ⟨rfl, hb6⟩
      go_wp2_with fail; refine ((whole_join false r _ HD.out.2)).mono ?_; rintro e w7 ⟨rfl, hb7⟩
      go_wp2
      go_ret3
      rw [HE.out.1, HE.out.2]
      exact ⟨rfl, bT HB.out (bT hb5 (bT hb6 hb7))⟩
theorem whole_DivMod (a b : Int) (hb0 : 0 < b) (ha : nd a ≤ 400000) (hb : nd b ≤ 400000) (w : World) (hS : St w) :
    Calls Tryz.prog 136 #[.string (I a), .string (I b)] w fun e w' => e = .returned (.tuple #[.string (I (a / b)), .string (I (a % b)), .int .i64 0]) ∧ Below w.heap.size w w' := by
  by_cases hs : ((I a).size : Int) ≤ 18 ∧ ((I b).size : Int) ≤ 18
  · exact divmodI_small a b hs hb0 w hS
  · exact divmodI_long a b hb0 hs ha hb w hS
end Go.Proofs.YtbihoedcbmnccaaGreatDoor
