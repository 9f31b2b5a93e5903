/- enclosure: ends. -/
import Derived.Test.YtbihoedcbmnccaaGreatDoorK11
import Derived.Test.YtbihoedcbmnccaaGreatDoorK7
import Derived.Test.YtbihoedcbmnccaaGreatDoorK9
namespace Go.Proofs.YtbihoedcbmnccaaGreatDoor
attribute [local go_sem ↓] Go.wp_at_zero Go.wp_at_succ
open Go.RowKit

theorem results_two {fn : Func} {p q : Tmp} {ty : TypeId} (h : fn.results = #[.cell p ty, .cell q ty]) (tmps : Array Value) (P : Program) (w : World) :
    (results fn tmps).run P w = ((asAddr (tmps.getD p undef)).run P w).andThen fun a w₁ => ((loadVar ty a).run P w₁).andThen fun v w₂ => ((asAddr (tmps.getD q undef)).run P w₂).andThen fun c w₃ => ((loadVar ty c).run P w₃).andThen fun u w₄ => .ok (.tuple #[v, u]) w₄ := by
  simp only [results, h]
  simp [Sem.run_bind, Result.andThen]
/-- The end of a function with two results in blocks. -/
theorem box_ret2 {P : Program} {fn : Func} {R : Ending → World → Prop} {a : Act} {w : World} {p q : Tmp} {ty : TypeId} {B b c : Nat} {vs us : List Value} {d : TypeDesc} (h : fn.results = #[.cell p ty, .cell q ty])
    (hp : a.tmps.getD p undef = .pointer (some ⟨b, 0, none⟩)) (hq : a.tmps.getD q undef = .pointer (some ⟨c, 0, none⟩)) (hb : Bo w B b ty vs) (hc : Bo w B c ty us)
    (hu : P.underlying ty = some d) (hd : (match d with | .struct _ | .array _ _ => true | _ => false) = true) (hi : (P.info? ty).map (·.size) = some vs.length) (hj : us.length = vs.length) (hf : a.defers = [])
    (hR : R (.returned (.tuple #[.agg vs.toArray, .agg us.toArray])) w) : bodyPost P fn R .ret a w := by
  refine bodyPost_ret (v := .tuple #[.agg vs.toArray, .agg us.toArray]) ?_ hf hR
  have hl := run_loadVar_row (P := P) w b ty ty vs.toArray _ d hb.heap hu hd (by simpa using hi)
  have hm := run_loadVar_row (P := P) w c ty ty us.toArray _ d hc.heap hu hd (by simpa [hj] using hi)
  rw [results_two h, hp, hq]
  simp [asAddr, hl, hm]

/-- Both blocks written anew. -/
theorem two_put {w : World} {B b c : Nat} {ty : TypeId} {x y u v : Value} (h : Bo w B b ty [x, y]) (k : Bo w B c ty [u, v]) (hne : b ≠ c) (s t s' t' : ByteArray) :
    Bo ((((w.setCell ⟨b, 0, none⟩ (.string s)).setCell ⟨b, 1, none⟩ (.string t)).setCell ⟨c, 0, none⟩ (.string s')).setCell ⟨c, 1, none⟩ (.string t')) B b ty [.string s, .string t] ∧
    Bo ((((w.setCell ⟨b, 0, none⟩ (.string s)).setCell ⟨b, 1, none⟩ (.string t)).setCell ⟨c, 0, none⟩ (.string s')).setCell ⟨c, 1, none⟩ (.string t')) B c ty [.string s', .string t'] ∧
    ∀ w0, Below B w0 w → Below B w0 ((((w.setCell ⟨b, 0, none⟩ (.string s)).setCell ⟨b, 1, none⟩ (.string t)).setCell ⟨c, 0, none⟩ (.string s')).setCell ⟨c, 1, none⟩ (.string t')) := by
  have h1 := h.put 0 (.string s)
  have h2 := h1.put 1 (.string t)
  have g1 := h.putg 0 (.string s)
  have g2 := h1.putg 1 (.string t)
  have k2 := (k.keptG g1 (by simp; omega)).keptG g2 (by simp; omega)
  have k3 := k2.put 0 (.string s')
  have k4 := k3.put 1 (.string t')
  have g3 := k2.putg 0 (.string s')
  have g4 := k3.putg 1 (.string t')
  refine ⟨(h2.keptG g3 (by simp; omega)).keptG g4 (by simp; omega), k4, fun w0 hb => ?_⟩
  have hB := h.lt
  have hC := k.lt
  have z1 := g1.size
  have z2 := g2.size
  have z3 := g3.size
  have e1 := belowG hb g1 (by omega) (fun g hg => by cases hg; exact hB.1)
  have e2 := belowG e1 g2 (by omega) (fun g hg => by cases hg; exact hB.1)
  have e3 := belowG e2 g3 (by omega) (fun g hg => by cases hg; exact hC.1)
  exact belowG e3 g4 (by omega) (fun g hg => by cases hg; exact hC.1)
/-- What is known of the cells of both blocks, also behind the first's writing. -/
theorem two_facts {w : World} {B b c : Nat} {ty : TypeId} {x y u v : Value} (h : Bo w B b ty [x, y]) (k : Bo w B c ty [u, v]) (hne : b ≠ c) (s t : ByteArray) :
    (w.cell? ⟨b, 0, none⟩ = some x ∧ w.cell? ⟨b, 1, none⟩ = some y ∧ w.cell? ⟨c, 0, none⟩ = some u ∧ w.cell? ⟨c, 1, none⟩ = some v) ∧ w.frozen? ⟨b, 0, none⟩ = false ∧ w.frozen? ⟨b, 1, none⟩ = false ∧ w.frozen? ⟨c, 0, none⟩ = false ∧ w.frozen? ⟨c, 1, none⟩ = false ∧ b < w.heap.size ∧ c < w.heap.size ∧
    (((w.setCell ⟨b, 0, none⟩ (.string s)).setCell ⟨b, 1, none⟩ (.string t)).cell? ⟨c, 0, none⟩ = some u ∧ ((w.setCell ⟨b, 0, none⟩ (.string s)).setCell ⟨b, 1, none⟩ (.string t)).cell? ⟨c, 1, none⟩ = some v) ∧
    (((w.setCell ⟨b, 0, none⟩ (.string s)).setCell ⟨b, 1, none⟩ (.string t)).frozen? ⟨c, 0, none⟩ = false ∧ ((w.setCell ⟨b, 0, none⟩ (.string s)).setCell ⟨b, 1, none⟩ (.string t)).frozen? ⟨c, 1, none⟩ = false) ∧ c < ((w.setCell ⟨b, 0, none⟩ (.string s)).setCell ⟨b, 1, none⟩ (.string t)).heap.size := by
  have h1 := h.put 0 (.string s)
  have g1 := h.putg 0 (.string s)
  have g2 := h1.putg 1 (.string t)
  have k2 := (k.keptG g1 (by simp; omega)).keptG g2 (by simp; omega)
  exact ⟨⟨h.cell 0 (by simp), h.cell 1 (by simp), k.cell 0 (by simp), k.cell 1 (by simp)⟩, h.fz 0, h.fz 1, k.fz 0, k.fz 1, h.lt.2, k.lt.2, ⟨k2.cell 0 (by simp), k2.cell 1 (by simp)⟩, ⟨k2.fz 0, k2.fz 1⟩, k2.lt.2⟩

/-- A block that holds a fraction. -/
abbrev BoR (W : World) (B b : Nat) (q : Rat) : Prop := Bo W B b 42 [.string (I q.num), .string (D q.den)]
/-- The blocks of one round. -/
structure EB (w W : World) (b8 b9 b10 : Nat) (lo hi q x y : Rat) : Prop where
  one : BoR W w.heap.size w.heap.size lo
  two : BoR W w.heap.size (w.heap.size + 1) hi
  e8 : BoR W w.heap.size b8 q
  e9 : BoR W w.heap.size b9 x
  e10 : BoR W w.heap.size b10 y
  be : Below w.heap.size w W
  lt : w.heap.size + 1 < b8 ∧ b8 < b9 ∧ b8 < b10 ∧ b9 ≠ b10
theorem EB.below {w W V : World} {b8 b9 b10 : Nat} {lo hi q x y : Rat} (h : EB w W b8 b9 b10 lo hi q x y) (hb : Below W.heap.size W V) : EB w V b8 b9 b10 lo hi q x y :=
  ⟨h.one.below hb, h.two.below hb, h.e8.below hb, h.e9.below hb, h.e10.below hb, bT h.be hb, h.lt⟩
theorem EB.start {w W : World} {b8 : Nat} {lo hi q : Rat} (h1 : BoR W w.heap.size w.heap.size lo) (h2 : BoR W w.heap.size (w.heap.size + 1) hi) (h8 : BoR W w.heap.size b8 q) (hb : Below w.heap.size w W) (hlt : w.heap.size + 1 < b8) :
    EB w (((W.alloc (.cells #[.string (I q.num), .string (D q.den)] 42)).alloc (.cells #[.string (I q.num), .string (D q.den)] 42)).drew) b8 W.heap.size (W.heap.size + 1) lo hi q q q ∧
    EB w (((W.alloc (.cells #[.string (I q.num), .string (D q.den)] 42)).alloc (.cells #[.string (I q.num), .string (D q.den)] 42)).drew) b8 (W.heap.size + 1) W.heap.size lo hi q q q := by
  have a1 := Bo.new W 42 #[.string (I q.num), .string (D q.den)] (by show 2 ≤ maxLen; decide)
  have b1 : Below W.heap.size W (W.alloc (.cells #[.string (I q.num), .string (D q.den)] 42)) := (Below.refl _ _).alloc (Nat.le_refl _) _
  have e1 : (W.alloc (.cells #[.string (I q.num), .string (D q.den)] 42)).heap.size = W.heap.size + 1 := by simp
  have hl8 := h8.lt.2
  have hs := hb.size
  generalize W.alloc (.cells #[.string (I q.num), .string (D q.den)] 42) = V at a1 b1 e1 ⊢
  have a2 := Bo.new V 42 #[.string (I q.num), .string (D q.den)] (by show 2 ≤ maxLen; decide)
  have b2 : Below V.heap.size V (V.alloc (.cells #[.string (I q.num), .string (D q.den)] 42)) := (Below.refl _ _).alloc (Nat.le_refl _) _
  rw [e1] at a2
  generalize V.alloc (.cells #[.string (I q.num), .string (D q.den)] 42) = X at a2 b2 ⊢
  have b3 : Below X.heap.size X X.drew := (Below.refl _ _).drew
  have bb := bT b1 (bT b2 b3)
  have k1 : BoR X.drew w.heap.size W.heap.size q := (((a1.mono hs).below b2).below b3)
  have k2 : BoR X.drew w.heap.size (W.heap.size + 1) q := ((a2.mono (by omega)).below b3)
  exact ⟨⟨h1.below bb, h2.below bb, h8.below bb, k1, k2, bT hb bb, hlt, by omega, by omega, by omega⟩, ⟨h1.below bb, h2.below bb, h8.below bb, k2, k1, bT hb bb, hlt, by omega, by omega, by omega⟩⟩
theorem EB.cells {w W : World} {b8 b9 b10 : Nat} {lo hi q x y : Rat} (h : EB w W b8 b9 b10 lo hi q x y) :
    W.cell? ⟨w.heap.size, 0, none⟩ = some (.string (I lo.num)) ∧ W.cell? ⟨w.heap.size, 1, none⟩ = some (.string (D lo.den)) ∧ W.cell? ⟨w.heap.size + 1, 0, none⟩ = some (.string (I hi.num)) ∧ W.cell? ⟨w.heap.size + 1, 1, none⟩ = some (.string (D hi.den)) ∧
    W.cell? ⟨b9, 0, none⟩ = some (.string (I x.num)) ∧ W.cell? ⟨b9, 1, none⟩ = some (.string (D x.den)) ∧ W.cell? ⟨b10, 0, none⟩ = some (.string (I y.num)) ∧ W.cell? ⟨b10, 1, none⟩ = some (.string (D y.den)) :=
  ⟨h.one.cell 0 (by simp), h.one.cell 1 (by simp), h.two.cell 0 (by simp), h.two.cell 1 (by simp), h.e9.cell 0 (by simp), h.e9.cell 1 (by simp), h.e10.cell 0 (by simp), h.e10.cell 1 (by simp)⟩
theorem EB.put {w W : World} {b8 b9 b10 : Nat} {lo hi q x y : Rat} (h : EB w W b8 b9 b10 lo hi q x y) (x' y' : Rat) :
    EB w ((((W.setCell ⟨b9, 0, none⟩ (.string (I x'.num))).setCell ⟨b9, 1, none⟩ (.string (D x'.den))).setCell ⟨b10, 0, none⟩ (.string (I y'.num))).setCell ⟨b10, 1, none⟩ (.string (D y'.den))) b8 b9 b10 lo hi q x' y' := by
  obtain ⟨l1, l2, l3, l4⟩ := h.lt
  have h2 := two_put h.e9 h.e10 l4 (I x'.num) (D x'.den) (I y'.num) (D y'.den)
  have g1 := h.e9.putg 0 (.string (I x'.num))
  have p1 := h.e9.put 0 (.string (I x'.num))
  have g2 := p1.putg 1 (.string (D x'.den))
  have k2 := (h.e10.keptG g1 (by simp; omega)).keptG g2 (by simp; omega)
  have g3 := k2.putg 0 (.string (I y'.num))
  have p3 := k2.put 0 (.string (I y'.num))
  have g4 := p3.putg 1 (.string (D y'.den))
  have keep : ∀ (c : Nat) (z : Rat), c ≠ b9 → c ≠ b10 → BoR W w.heap.size c z → BoR ((((W.setCell ⟨b9, 0, none⟩ (.string (I x'.num))).setCell ⟨b9, 1, none⟩ (.string (D x'.den))).setCell ⟨b10, 0, none⟩ (.string (I y'.num))).setCell ⟨b10, 1, none⟩ (.string (D y'.den))) w.heap.size c z :=
    fun c z n9 n10 hc => (((hc.keptG g1 (by simpa using n9)).keptG g2 (by simpa using n9)).keptG g3 (by simpa using n10)).keptG g4 (by simpa using n10)
  exact ⟨keep _ _ (by omega) (by omega) h.one, keep _ _ (by omega) (by omega) h.two, keep _ _ (by omega) (by omega) h.e8, h2.1, h2.2.1, h2.2.2 w h.be, h.lt⟩
theorem fraction_NewD (n d : Nat) (hd : 0 < d) (hn : Lib.nDigits n ≤ 400000) (hdd : Lib.nDigits d ≤ 400000) (w : World) (hS : St w) :
    Calls Tryz.prog 125 #[.string (D n), .string (D d)] w fun e w' => e = .returned (.tuple #[Rv (Rat.divInt (n : Int) (d : Int)), .int .i64 0]) ∧ Below w.heap.size w w' := by
  have h := fraction_New n d (by omega) (by rw [nd_nat]; exact hn) (by rw [nd_nat]; exact hdd) w hS
  rw [I_nat, I_nat] at h; exact h
theorem wp_via {P : Program} {c : Code} {Q : Exit → Act → World → Prop} {a : Act} {w : World} (M : Act → Act → World → Prop) (h : c.wp P (nrm (M a)) a w) (k : ∀ a' w', M a a' w' → Q .normal a' w') : c.wp P Q a w :=
  Code.wp_mono (nrm_mono k) h

set_option linter.unusedSimpArgs false in
set_option maxHeartbeats 3200000 in
set_option maxRecDepth 100000 in
theorem enc_ends (B lb : Nat) (vp vs : Value) (ps : List Nat) (qs : List Rat) (n b : Nat) (w : World) (hS : St w) (hL : LG w B lb vp vs ps qs n) (hlen : qs.length = ps.length) (hpr : ∀ p ∈ ps, primeB (p : Int) = true) (hsz : ∀ q ∈ qs, Sz 400 q) (hl : ps.length ≤ 50) (hl0 : 0 < ps.length) (hn : n ≤ 1000) (hb : b ≤ n) :
    Calls Tryz.prog 64 #[.pointer (some ⟨lb, 0, none⟩), .int .i64 (b : Int)] w fun e w' => e = .returned (.tuple #[Rv (endsQ ps qs b).1, Rv (endsQ ps qs b).2]) ∧ Below w.heap.size w w' := by
  have hpw := fun W hW => enc_power b (by omega) W hW
  obtain ⟨g, cap, hlbo, hg, hrow⟩ := hL.ex
  have hLG := hL
  have hsz0 := hL.sz
  have hpr0 := hL.pr
  rcases hsz0 with ⟨h0, _⟩ | ⟨_, gs, os, cs, rfl, hrs⟩
  · exfalso; unfold prs at h0; rw [List.map_eq_nil_iff] at h0; subst h0; simp at hlen; omega
  rcases hpr0 with ⟨h0, _⟩ | ⟨_, gp, op, cp, rfl, hrp⟩
  · exfalso; unfold nums at h0; rw [List.map_eq_nil_iff] at h0; subst h0; simp at hl0
  have e1 : (nums ps).length = ps.length := by unfold nums; rw [List.length_map]
  have e2 : (prs qs).length = ps.length := by unfold prs; rw [List.length_map, hlen]
  rw [e1, e2] at hlbo hLG
  have HLG := Lib.hid hLG
  have HLB := Lib.hid hlbo
  have HRS := Lib.hid hrs
  have HRP := Lib.hid hrp
  have HE := Lib.hid (And.intro e1 e2)
  have HK := Lib.hid (K2.new w hS ⟨#[48]⟩ ⟨#[49]⟩ ⟨#[48]⟩ ⟨#[49]⟩)
  have HLQ := Lib.hid hlen
  have HPR := Lib.hid hpr
  have HSZ := Lib.hid hsz
  have HZ : Hid (I (0 : Rat).num = ⟨#[48]⟩ ∧ D (0 : Rat).den = ⟨#[49]⟩) := ⟨by decide +kernel, by decide +kernel⟩
  clear hL hLG hlbo hrs hrp e1 e2 hlen hpr hsz hrow hg
  go_enter Tryz.func64, Tryz.ntmps64
  go_wp2_with fail
  generalize (w.alloc (.cells #[.string ⟨#[48]⟩, .string ⟨#[49]⟩] 42)).alloc (.cells #[.string ⟨#[48]⟩, .string ⟨#[49]⟩] 42) = W at HK ⊢
  refine (hpw _ HK.out.st).mono ?_
  rintro e w1 ⟨rfl, hb1⟩
  have HK1 := Lib.hid (HK.out.below hb1)
  clear hb1 hpw
  have hlb := HLB.out.below HK1.out.be
  have c1 := hlb.cell 1 (by simp)
  simp only [List.getElem_cons_succ, List.getElem_cons_zero] at c1
  clear hlb
  go_wp2
  go_loopw [25] (fun i wr => ∃ (m : Nat) (lo hi : Rat), i = .int .i64 (m : Int) ∧ m ≤ ps.length ∧
    Hid (Bo wr w.heap.size w.heap.size 42 [.string (I lo.num), .string (D lo.den)]) ∧ Hid (Bo wr w.heap.size (w.heap.size + 1) 42 [.string (I hi.num), .string (D hi.den)]) ∧
    Hid (endsFrom b (ps.drop m) (qs.drop m) (lo, hi) = endsQ ps qs b) ∧ Hid (Sz (1 + 1501 * m) lo ∧ Sz (1 + 1501 * m) hi) ∧ Hid (Below w.heap.size w wr)) (fun i _ => ps.length - (intOf i).toNat)
  case atStart =>
    refine ⟨0, 0, 0, rfl, by omega, ?_, ?_, rfl, ⟨Sz_zero, Sz_zero⟩, HK1.out.be⟩
    · show Bo _ _ _ _ _; rw [HZ.out.1, HZ.out.2]; exact HK1.out.one
    · show Bo _ _ _ _ _; rw [HZ.out.1, HZ.out.2]; exact HK1.out.two
  case round =>
    obtain ⟨m, lo, hi, rfl, hm, H4, H5, HF, HS0, HB⟩ := hrel
    rename World => wr
    by_cases hlt : m < ps.length
    · obtain ⟨k1, k2⟩ := (HRS.out.b HB.out).2 m (by rw [HE.out.2]; exact hlt)
      rw [prs_get] at k1 k2
      have k0 := (HRP.out.b HB.out).2 m (by rw [HE.out.1]; exact hlt)
      rw [nums_get hlt] at k0
      have hfs := endsFrom_step (b := b) (acc := (lo, hi)) hlt (by rw [HLQ.out]; exact hlt)
      have hqz := HSZ.out (qs.getD m 0) (by rw [List.getD_eq_getElem?_getD, List.getElem?_eq_getElem (by rw [HLQ.out]; exact hlt)]; exact List.getElem_mem _)
      obtain ⟨p', hp1, hp2, hp3, hp4, hp5, hp6⟩ := primeB_mem (HPR.out (ps.getD m 2) (by rw [List.getD_eq_getElem?_getD, List.getElem?_eq_getElem hlt]; exact List.getElem_mem hlt))
      obtain rfl : p' = ps.getD m 2 := by omega
      have hstp := Sz_step (b := b) (acc := (lo, hi)) hp3 hp4 (by omega) hqz HS0.out
      have hat := fun W hW hLW hq => enc_at B lb (.slice (some ⟨gp, op, none⟩) ps.length cp) (.slice (some ⟨gs, os, none⟩) ps.length cs) ps qs n m b W hW hLW hlt hq hp3 hp4 hn hb (by omega)
      have HAT := Lib.hid hat
      have HFS := Lib.hid hfs
      have HQZ := Lib.hid hqz
      have HSTP := Lib.hid hstp
      have HPP := Lib.hid (And.intro hp3 hp4)
      clear hat hfs hqz hstp hp1 hp2 hp3 hp4 hp5 hp6
      generalize hpe : ps.getD m 2 = p at *
      generalize hqe : qs.getD m 0 = q at *
      have HPE := Lib.hid (And.intro hpe hqe)
      clear hpe hqe
      have HBX := Lib.hid (box1 wr (I q.num) (D q.den))
      have hsg := fun W => fraction_Sign q W
      unfold Rv at hsg
      by_cases hq : q.num = 0
      · have hs0 : q.num.sign = 0 := by rw [hq]; rfl
        have hes : endStep b (lo, hi) p q = (lo, hi) := by unfold endStep; rw [if_pos hq]
        rw [hs0] at hsg
        have HES := Lib.hid hes
        clear hq hs0 hes HAT
        go_wp2_with fail
        generalize wr.alloc (.cells #[.string (I q.num), .string (D q.den)] 42) = W at HBX ⊢
        refine (hsg _).mono ?_
        rintro e w2 ⟨rfl, hb2⟩
        have hbb := bT HBX.out.2 hb2
        have H42 := Lib.hid (H4.out.below hbb)
        have H52 := Lib.hid (H5.out.below hbb)
        have HB2 := Lib.hid (bT HB.out hbb)
        clear hbb hb2 hsg
        go_wp2
        go_roundw
        case rel =>
          refine ⟨m + 1, lo, hi, by go_num, by omega, H42.out, H52.out, ?_, ⟨HS0.out.1.mono (by omega), HS0.out.2.mono (by omega)⟩, HB2.out⟩
          have := HFS.out
          rw [HES.out, HF.out] at this; exact this.symm
        case measure => simp [intOf]; omega
      · have hs0 : (q.num.sign == 0) = false := by rw [beq_eq_false_iff_ne]; intro h; exact hq (Int.sign_eq_zero_iff_zero.1 h)
        have HQ := Lib.hid hq
        clear hq
        go_wp2_with fail
        generalize wr.alloc (.cells #[.string (I q.num), .string (D q.den)] 42) = W at HBX ⊢
        refine (hsg _).mono ?_
        rintro e w2 ⟨rfl, hb2⟩
        have hbb := bT HBX.out.2 hb2
        have H42 := Lib.hid (H4.out.below hbb)
        have H52 := Lib.hid (H5.out.below hbb)
        have HB2 := Lib.hid (bT HB.out hbb)
        have ho8 := HBX.out.1.below hb2
        have d0 := ho8.cell 0 (by simp)
        have d1 := ho8.cell 1 (by simp)
        have hlt8 := ho8.lt.2
        have H8 := Lib.hid ho8
        have hwr : w.heap.size + 1 < wr.heap.size := H5.out.lt.2
        have HWR := Lib.hid hwr
        clear hbb hb2 hsg ho8 hwr
        go_wp2
        refine wp_via (fun a0 a' V => ∃ b9 b10, a' = (((a0.put (some 33) (V2 (I q.num) (D q.den))).put (some 34) (V2 (I q.num) (D q.den))).put (some 9) (.pointer (some ⟨b9, 0, none⟩))).put (some 10) (.pointer (some ⟨b10, 0, none⟩)) ∧ Hid (EB w V wr.heap.size b9 b10 lo hi q q q)) ?_ ?_
        · have HEB := Lib.hid (EB.start H42.out H52.out (H8.out.mono HB.out.size) HB2.out HWR.out)
          go_region
          all_goals first
            | exact ⟨w2.heap.size, w2.heap.size + 1, rfl, HEB.out.1⟩
            | exact ⟨w2.heap.size + 1, w2.heap.size, rfl, HEB.out.2⟩
        clear d0 d1 hlt8 H42 H52 H8 HB2 HBX k0 k1 k2 hs0
        rintro a' W ⟨b9, b10, rfl, HEB⟩
        simp only [Act.put, List.setIfInBounds_toArray, List.set_cons_zero, List.set_cons_succ]
        have hlb := HLB.out.below HEB.out.be
        have c0 := hlb.cell 0 (by simp)
        simp only [List.getElem_cons_zero] at c0
        have k0 := (HRP.out.b HEB.out.be).2 m (by rw [HE.out.1]; exact hlt)
        rw [nums_get hlt, HPE.out.1] at k0
        by_cases hp2 : p = 2
        · have hpn : ((p : Int) != 2) = false := by rw [bne_eq_false_iff_eq]; omega
          have hab : endA p q b = q ∧ endB p q b = q := by unfold endA endB; rw [if_pos hp2, if_pos hp2]; exact ⟨rfl, rfl⟩
          have hst : endStep b (lo, hi) p q = (lo + minQ q q, hi + maxQ q q) := by unfold endStep; rw [if_neg HQ.out, hab.1, hab.2]
          have hst1 : (endStep b (lo, hi) p q).1 = lo + minQ q q := by rw [hst]
          have hst2 : (endStep b (lo, hi) p q).2 = hi + maxQ q q := by rw [hst]
          clear hst hab hp2
          go_wp2
          have hszl := HS0.out
          have hszx := (And.intro (HQZ.out.mono (show 400 ≤ 1500 by decide)) (HQZ.out.mono (show 400 ≤ 1500 by decide)))
          have hlim : 1 + 1501 * m ≤ 80000 := by omega
          have hmin := fun W hW => fraction_Min q q ((hszx.1.mono (show 1500 ≤ 100000 by decide))) ((hszx.2.mono (show 1500 ≤ 100000 by decide))) W hW
          have hmax := fun W hW => fraction_Max q q ((hszx.1.mono (show 1500 ≤ 100000 by decide))) ((hszx.2.mono (show 1500 ≤ 100000 by decide))) W hW
          have hadl := fun W hW => fraction_Add lo (minQ q q) (hszl.1.mono (by omega)) ((hszx.1.min hszx.2).mono (by omega)) W hW
          have hadh := fun W hW => fraction_Add hi (maxQ q q) (hszl.2.mono (by omega)) ((hszx.1.max hszx.2).mono (by omega)) W hW
          rw [← hst1] at hadl
          rw [← hst2] at hadh
          unfold Rv at hmin hmax hadl hadh
          generalize hs4 : I (endStep b (lo, hi) p q).1.num = s4 at *
          generalize ht4 : D (endStep b (lo, hi) p q).1.den = t4 at *
          generalize hs5 : I (endStep b (lo, hi) p q).2.num = s5 at *
          generalize ht5 : D (endStep b (lo, hi) p q).2.den = t5 at *
          have HSTR := Lib.hid (And.intro hs4 (And.intro ht4 (And.intro hs5 ht5)))
          have HMIN := Lib.hid hmin
          have HMAX := Lib.hid hmax
          have HADL := Lib.hid hadl
          have HADH := Lib.hid hadh
          clear hszl hszx hmin hmax hadl hadh hs4 ht4 hs5 ht5 hst1 hst2 hlim
          have hT0 : EB w W.drew wr.heap.size b9 b10 lo hi q q q := HEB.out.below (Below.refl _ _).drew
          refine AnyT.region (T := fun V => EB w V wr.heap.size b9 b10 lo hi q q q) (late := fun j => [10, 11].contains j) (by kernel_rfl) ?_
          refine AnyT.take2 (i := 0) (v := ?_) rfl (by kernel_rfl) (by kernel_rfl) (by kernel_rfl) rfl (by kernel_rfl) (by kernel_rfl) (fun _ _ _ h => h) (Or.inl ⟨by rfl, ?_⟩) hT0 ?_
          rotate_left 1
          · intro V hV; obtain ⟨v0, v1, v2, v3, v4, v5, v6, v7⟩ := hV.cells; go_simp; first | done | with_reducible rfl
          try simp only [Act.put, List.setIfInBounds_toArray, List.set_cons_zero, List.set_cons_succ]
          refine AnyT.take2 (i := 1) (v := ?_) rfl (by kernel_rfl) (by kernel_rfl) (by kernel_rfl) rfl (by kernel_rfl) (by kernel_rfl) (fun _ _ _ h => h) (Or.inl ⟨by rfl, ?_⟩) hT0 ?_
          rotate_left 1
          · intro V hV; obtain ⟨v0, v1, v2, v3, v4, v5, v6, v7⟩ := hV.cells; go_simp; first | done | with_reducible rfl
          try simp only [Act.put, List.setIfInBounds_toArray, List.set_cons_zero, List.set_cons_succ]
          refine AnyT.take2 (i := 2) (v := ?_) rfl (by kernel_rfl) (by kernel_rfl) (by kernel_rfl) rfl (by kernel_rfl) (by kernel_rfl) (fun _ _ _ h => h) (Or.inl ⟨by rfl, ?_⟩) hT0 ?_
          rotate_left 1
          · intro V hV; obtain ⟨v0, v1, v2, v3, v4, v5, v6, v7⟩ := hV.cells; go_simp; first | done | with_reducible rfl
          try simp only [Act.put, List.setIfInBounds_toArray, List.set_cons_zero, List.set_cons_succ]
          refine AnyT.take2 (i := 5) (v := ?_) rfl (by kernel_rfl) (by kernel_rfl) (by kernel_rfl) rfl (by kernel_rfl) (by kernel_rfl) (fun _ _ _ h => h) (Or.inl ⟨by rfl, ?_⟩) hT0 ?_
          rotate_left 1
          · intro V hV; obtain ⟨v0, v1, v2, v3, v4, v5, v6, v7⟩ := hV.cells; go_simp; first | done | with_reducible rfl
          try simp only [Act.put, List.setIfInBounds_toArray, List.set_cons_zero, List.set_cons_succ]
          refine AnyT.take2 (i := 6) (v := ?_) rfl (by kernel_rfl) (by kernel_rfl) (by kernel_rfl) rfl (by kernel_rfl) (by kernel_rfl) (fun _ _ _ h => h) (Or.inl ⟨by rfl, ?_⟩) hT0 ?_
          rotate_left 1
          · intro V hV; obtain ⟨v0, v1, v2, v3, v4, v5, v6, v7⟩ := hV.cells; go_simp; first | done | with_reducible rfl
          try simp only [Act.put, List.setIfInBounds_toArray, List.set_cons_zero, List.set_cons_succ]
          refine AnyT.take2 (i := 7) (v := ?_) rfl (by kernel_rfl) (by kernel_rfl) (by kernel_rfl) rfl (by kernel_rfl) (by kernel_rfl) (fun _ _ _ h => h) (Or.inl ⟨by rfl, ?_⟩) hT0 ?_
          rotate_left 1
          · intro V hV; obtain ⟨v0, v1, v2, v3, v4, v5, v6, v7⟩ := hV.cells; go_simp; first | done | with_reducible rfl
          try simp only [Act.put, List.setIfInBounds_toArray, List.set_cons_zero, List.set_cons_succ]
          refine AnyT.one (i := 3) (by kernel_rfl) rfl (by rfl) (fun K hK => ?_)
          go_simp
          (go_at_call 83; (with_reducible refine Calls.mono (HMIN.out _ (hS.b hT0.be)) ?_); rintro e x1 ⟨rfl, y1⟩; have E1 := hT0.below y1)
          go_wp2_with fail
          refine hK.out _ _ (fun _ => E1) ?_
          clear hK K
          try simp only [Act.put, List.setIfInBounds_toArray, List.set_cons_zero, List.set_cons_succ]
          refine AnyT.one (i := 4) (by kernel_rfl) rfl (by rfl) (fun K hK => ?_)
          go_simp
          (go_at_call 82; (with_reducible refine Calls.mono (HADL.out _ (hS.b E1.be)) ?_); rintro e x2 ⟨rfl, y2⟩; have E2 := E1.below y2)
          go_wp2_with fail
          refine hK.out _ _ (fun _ => E2) ?_
          clear hK K
          try simp only [Act.put, List.setIfInBounds_toArray, List.set_cons_zero, List.set_cons_succ]
          refine AnyT.one (i := 8) (by kernel_rfl) rfl (by rfl) (fun K hK => ?_)
          go_simp
          (go_at_call 84; (with_reducible refine Calls.mono (HMAX.out _ (hS.b E2.be)) ?_); rintro e x3 ⟨rfl, y3⟩; have E3 := E2.below y3)
          go_wp2_with fail
          refine hK.out _ _ (fun _ => E3) ?_
          clear hK K
          try simp only [Act.put, List.setIfInBounds_toArray, List.set_cons_zero, List.set_cons_succ]
          refine AnyT.one (i := 9) (by kernel_rfl) rfl (by rfl) (fun K hK => ?_)
          go_simp
          (go_at_call 82; (with_reducible refine Calls.mono (HADH.out _ (hS.b E3.be)) ?_); rintro e x4 ⟨rfl, y4⟩; have E4 := E3.below y4)
          go_wp2_with fail
          refine hK.out _ _ (fun _ => E4) ?_
          clear hK K
          try simp only [Act.put, List.setIfInBounds_toArray, List.set_cons_zero, List.set_cons_succ]
          have HPUT := Lib.hid (two_put E4.one E4.two (by omega) s4 t4 s5 t5)
          obtain ⟨⟨a0, a1, a2, a3⟩, a4, a5, a6, a7, a8, a9, ⟨a10, a11⟩, ⟨a12, a13⟩, a14⟩ := two_facts E4.one E4.two (by omega) s4 t4
          have HE4 := Lib.hid E4
          clear E1 E2 E3 E4
          refine AnyT.one (i := 10) (by kernel_rfl) rfl (by rfl) (fun K hK => ?_)
          go_simp
          refine hK.out _ _ (fun h => by cases h) ?_
          clear hK K
          try simp only [Act.put, List.setIfInBounds_toArray, List.set_cons_zero, List.set_cons_succ]
          refine AnyT.one (i := 11) (by kernel_rfl) rfl (by rfl) (fun K hK => ?_)
          go_simp
          refine hK.out _ _ (fun h => by cases h) ?_
          clear hK K
          try simp only [Act.put, List.setIfInBounds_toArray, List.set_cons_zero, List.set_cons_succ]
          refine AnyT.done (by kernel_rfl) ?_ _
          go_wp2
          go_roundw
          case rel =>
            refine ⟨m + 1, (endStep b (lo, hi) p q).1, (endStep b (lo, hi) p q).2, by go_num, by omega, ?_, ?_, ?_, ?_, HPUT.out.2.2 w HE4.out.be⟩
            · show Bo _ _ _ _ _; rw [HSTR.out.1, HSTR.out.2.1]; exact HPUT.out.1
            · show Bo _ _ _ _ _; rw [HSTR.out.2.2.1, HSTR.out.2.2.2]; exact HPUT.out.2.1
            · have := HFS.out
              rw [HF.out] at this; exact this.symm
            · have := HSTP.out
              exact ⟨this.1.mono (by omega), this.2.mono (by omega)⟩
          case measure => simp [intOf]; omega
        · have hpn : ((p : Int) != 2) = true := by rw [bne_iff_ne]; omega
          have hb2p := nDigits_pow2 b
          have hnl := lowN_nd (p := p) (j := b) HPP.out.1 HPP.out.2
          have hnl1 : Lib.nDigits (lowN p b + 1) ≤ b + 4 := nDigits_two (by omega) (by have h := lowN_small (p := p) (j := b) HPP.out.1 HPP.out.2; have h2 : 2 ^ (b + 4) = 2 ^ (b + 3) * 2 := Nat.pow_succ ..; omega)
          obtain ⟨n1, hn1⟩ : ∃ x, Rat.divInt ((lowN p b : Nat) : Int) ((2 ^ b : Nat) : Int) = x := ⟨_, rfl⟩
          obtain ⟨n2, hn2⟩ : ∃ x, Rat.divInt ((lowN p b + 1 : Nat) : Int) ((2 ^ b : Nat) : Int) = x := ⟨_, rfl⟩
          have hab : endA p q b = q * n1 ∧ endB p q b = q * n2 := by unfold endA endB; rw [if_neg hp2, if_neg hp2, hn1, hn2]; exact ⟨rfl, rfl⟩
          have hnew1 := fun W hW => fraction_NewD (lowN p b) (2 ^ b) (Nat.two_pow_pos b) (by omega) (by omega) W hW
          have hnew2 := fun W hW => fraction_NewD (lowN p b + 1) (2 ^ b) (Nat.two_pow_pos b) (by omega) (by omega) W hW
          have hadd1 := fun W hW => whole_AddD (lowN p b) 1 (by omega) (by decide +kernel) W hW
          rw [D_one] at hadd1
          rw [hn1] at hnew1
          rw [hn2] at hnew2
          have hsz1 : Sz 1003 n1 := by
            have h := Sz_divInt (n := (lowN p b : Int)) (d := ((2 ^ b : Nat) : Int)) (by have := Nat.two_pow_pos b; omega)
            rw [nd_nat, nd_nat, hn1] at h; exact ⟨by omega, by omega⟩
          have hsz2 : Sz 1004 n2 := by
            have h := Sz_divInt (n := ((lowN p b + 1 : Nat) : Int)) (d := ((2 ^ b : Nat) : Int)) (by have := Nat.two_pow_pos b; omega)
            rw [nd_nat, nd_nat, hn2] at h; exact ⟨by omega, by omega⟩
          have hmul1 := fun W hW => fraction_Mul q n1 (HQZ.out.mono (show 400 ≤ 200000 by decide)) (hsz1.mono (show 1003 ≤ 200000 by decide)) W hW
          have hmul2 := fun W hW => fraction_Mul q n2 (HQZ.out.mono (show 400 ≤ 200000 by decide)) (hsz2.mono (show 1004 ≤ 200000 by decide)) W hW
          have hsxy : Sz 1500 (q * n1) ∧ Sz 1500 (q * n2) := ⟨(HQZ.out.mul hsz1).mono (by omega), (HQZ.out.mul hsz2).mono (by omega)⟩
          have HSXY := Lib.hid hsxy
          have hst : endStep b (lo, hi) p q = (lo + minQ (q * n1) (q * n2), hi + maxQ (q * n1) (q * n2)) := by unfold endStep; rw [if_neg HQ.out, hab.1, hab.2]
          have hst1 : (endStep b (lo, hi) p q).1 = lo + minQ (q * n1) (q * n2) := by rw [hst]
          have hst2 : (endStep b (lo, hi) p q).2 = hi + maxQ (q * n1) (q * n2) := by rw [hst]
          clear hst hab hp2 hsz1 hsz2 hsxy hn1 hn2 hb2p hnl hnl1
          unfold Rv at hnew1 hnew2 hmul1 hmul2
          obtain ⟨x, hx⟩ : ∃ z, q * n1 = z := ⟨_, rfl⟩
          obtain ⟨y, hy⟩ : ∃ z, q * n2 = z := ⟨_, rfl⟩
          rw [hx] at hmul1 hst1 hst2 HSXY
          rw [hy] at hmul2 hst1 hst2 HSXY
          clear hx hy
          have HN1 := Lib.hid hnew1
          have HN2 := Lib.hid hnew2
          have HA1 := Lib.hid hadd1
          have HM1 := Lib.hid hmul1
          have HM2 := Lib.hid hmul2
          have HST12 := Lib.hid (And.intro hst1 hst2)
          clear hnew1 hnew2 hadd1 hmul1 hmul2 hst1 hst2
          go_wp2_with fail
          refine (HAT.out W (hS.b HEB.out.be) (HLG.out.below HEB.out.be) HQ.out).mono ?_
          rintro e w3 ⟨rfl, z3⟩
          have E3 := HEB.out.below z3
          go_wp2_with fail
          refine (HN1.out _ (hS.b E3.be)).mono ?_
          rintro e w4 ⟨rfl, z4⟩
          have E4 := E3.below z4
          have HX4 := Lib.hid (box1 w4 (I n1.num) (D n1.den))
          clear E3
          go_wp2_with fail
          generalize w4.alloc (.cells #[.string (I n1.num), .string (D n1.den)] 42) = W5 at HX4 ⊢
          have E5 := E4.below HX4.out.2
          have hw4 : w.heap.size ≤ w4.heap.size := E4.be.size
          have h12 : BoR W5 w.heap.size w4.heap.size n1 := HX4.out.1.mono hw4
          generalize w4.heap.size = c12 at *
          clear E4 HX4
          refine (HA1.out _ (hS.b E5.be)).mono ?_
          rintro e w6 ⟨rfl, z6⟩
          have E6 := E5.below z6
          have h12b := h12.below z6
          clear E5 h12
          go_wp2_with fail
          refine (HN2.out _ (hS.b E6.be)).mono ?_
          rintro e w7 ⟨rfl, z7⟩
          have E7 := E6.below z7
          have h12c := h12b.below z7
          have HX8 := Lib.hid (box1 w7 (I n2.num) (D n2.den))
          have hw7 : w.heap.size ≤ w7.heap.size := E7.be.size
          have HE7 := Lib.hid E7
          have H12 := Lib.hid h12c
          clear E6 h12b E7 h12c z3 z4 z6 z7
          go_wp2
          have hT8 : EB w (w7.alloc (.cells #[.string (I n2.num), .string (D n2.den)] 42)).drew wr.heap.size b9 b10 lo hi q q q ∧ BoR (w7.alloc (.cells #[.string (I n2.num), .string (D n2.den)] 42)).drew w.heap.size c12 n1 ∧ BoR (w7.alloc (.cells #[.string (I n2.num), .string (D n2.den)] 42)).drew w.heap.size w7.heap.size n2 :=
            ⟨(HE7.out.below HX8.out.2).below (Below.refl _ _).drew, (H12.out.below HX8.out.2).below (Below.refl _ _).drew, (HX8.out.1.mono hw7).below (Below.refl _ _).drew⟩
          refine AnyT.region (T := fun V => EB w V wr.heap.size b9 b10 lo hi q q q ∧ BoR V w.heap.size c12 n1 ∧ BoR V w.heap.size w7.heap.size n2) (late := fun j => [6, 7].contains j) (by kernel_rfl) ?_
          generalize (w7.alloc (.cells #[.string (I n2.num), .string (D n2.den)] 42)).drew = W8 at hT8 ⊢
          clear HE7 H12 HX8
          refine AnyT.take2 (i := 0) (v := ?_) rfl (by kernel_rfl) (by kernel_rfl) (by kernel_rfl) rfl (by kernel_rfl) (by kernel_rfl) (fun _ _ _ h => h) (Or.inl ⟨by rfl, ?_⟩) hT8 ?_
          rotate_left 1
          · intro V hV; have v0 := hV.1.e8.cell 0 (by simp); have v1 := hV.1.e8.cell 1 (by simp); have v2 := hV.2.1.cell 0 (by simp); have v3 := hV.2.1.cell 1 (by simp); have v4 := hV.2.2.cell 0 (by simp); have v5 := hV.2.2.cell 1 (by simp); clear hV; go_simp; first | done | with_reducible rfl
          try simp only [Act.put, List.setIfInBounds_toArray, List.set_cons_zero, List.set_cons_succ]
          refine AnyT.take2 (i := 1) (v := ?_) rfl (by kernel_rfl) (by kernel_rfl) (by kernel_rfl) rfl (by kernel_rfl) (by kernel_rfl) (fun _ _ _ h => h) (Or.inl ⟨by rfl, ?_⟩) hT8 ?_
          rotate_left 1
          · intro V hV; have v0 := hV.1.e8.cell 0 (by simp); have v1 := hV.1.e8.cell 1 (by simp); have v2 := hV.2.1.cell 0 (by simp); have v3 := hV.2.1.cell 1 (by simp); have v4 := hV.2.2.cell 0 (by simp); have v5 := hV.2.2.cell 1 (by simp); clear hV; go_simp; first | done | with_reducible rfl
          try simp only [Act.put, List.setIfInBounds_toArray, List.set_cons_zero, List.set_cons_succ]
          refine AnyT.take2 (i := 3) (v := ?_) rfl (by kernel_rfl) (by kernel_rfl) (by kernel_rfl) rfl (by kernel_rfl) (by kernel_rfl) (fun _ _ _ h => h) (Or.inl ⟨by rfl, ?_⟩) hT8 ?_
          rotate_left 1
          · intro V hV; have v0 := hV.1.e8.cell 0 (by simp); have v1 := hV.1.e8.cell 1 (by simp); have v2 := hV.2.1.cell 0 (by simp); have v3 := hV.2.1.cell 1 (by simp); have v4 := hV.2.2.cell 0 (by simp); have v5 := hV.2.2.cell 1 (by simp); clear hV; go_simp; first | done | with_reducible rfl
          try simp only [Act.put, List.setIfInBounds_toArray, List.set_cons_zero, List.set_cons_succ]
          refine AnyT.take2 (i := 4) (v := ?_) rfl (by kernel_rfl) (by kernel_rfl) (by kernel_rfl) rfl (by kernel_rfl) (by kernel_rfl) (fun _ _ _ h => h) (Or.inl ⟨by rfl, ?_⟩) hT8 ?_
          rotate_left 1
          · intro V hV; have v0 := hV.1.e8.cell 0 (by simp); have v1 := hV.1.e8.cell 1 (by simp); have v2 := hV.2.1.cell 0 (by simp); have v3 := hV.2.1.cell 1 (by simp); have v4 := hV.2.2.cell 0 (by simp); have v5 := hV.2.2.cell 1 (by simp); clear hV; go_simp; first | done | with_reducible rfl
          try simp only [Act.put, List.setIfInBounds_toArray, List.set_cons_zero, List.set_cons_succ]
          refine AnyT.one (i := 2) (by kernel_rfl) rfl (by rfl) (fun K hK => ?_)
          go_simp
          (go_at_call 38; (with_reducible refine Calls.mono (HM1.out _ (hS.b hT8.1.be)) ?_); rintro e x1 ⟨rfl, y1⟩; have T1 := And.intro (hT8.1.below y1) (And.intro (hT8.2.1.below y1) (hT8.2.2.below y1)))
          go_wp2_with fail
          refine hK.out _ _ (fun _ => T1) ?_
          clear hK K
          try simp only [Act.put, List.setIfInBounds_toArray, List.set_cons_zero, List.set_cons_succ]
          refine AnyT.one (i := 5) (by kernel_rfl) rfl (by rfl) (fun K hK => ?_)
          go_simp
          (go_at_call 38; (with_reducible refine Calls.mono (HM2.out _ (hS.b T1.1.be)) ?_); rintro e x2 ⟨rfl, y2⟩; have T2 := And.intro (T1.1.below y2) (And.intro (T1.2.1.below y2) (T1.2.2.below y2)))
          go_wp2_with fail
          refine hK.out _ _ (fun _ => T2) ?_
          clear hK K
          try simp only [Act.put, List.setIfInBounds_toArray, List.set_cons_zero, List.set_cons_succ]
          have HEB2 := Lib.hid (T2.1.put x y)
          obtain ⟨⟨a0, a1, a2, a3⟩, a4, a5, a6, a7, a8, a9, ⟨a10, a11⟩, ⟨a12, a13⟩, a14⟩ := two_facts T2.1.e9 T2.1.e10 T2.1.lt.2.2.2 (I x.num) (D x.den)
          clear T1 T2 hT8
          refine AnyT.one (i := 6) (by kernel_rfl) rfl (by rfl) (fun K hK => ?_)
          go_simp
          refine hK.out _ _ (fun h => by cases h) ?_
          clear hK K
          try simp only [Act.put, List.setIfInBounds_toArray, List.set_cons_zero, List.set_cons_succ]
          refine AnyT.one (i := 7) (by kernel_rfl) rfl (by rfl) (fun K hK => ?_)
          go_simp
          refine hK.out _ _ (fun h => by cases h) ?_
          clear hK K
          try simp only [Act.put, List.setIfInBounds_toArray, List.set_cons_zero, List.set_cons_succ]
          refine AnyT.done (by kernel_rfl) ?_ _
          generalize ((((x2.setCell ⟨b9, 0, none⟩ (.string (I x.num))).setCell ⟨b9, 1, none⟩ (.string (D x.den))).setCell ⟨b10, 0, none⟩ (.string (I y.num))).setCell ⟨b10, 1, none⟩ (.string (D y.den))) = W9 at HEB2 ⊢
          clear a0 a1 a2 a3 a4 a5 a6 a7 a8 a9 a10 a11 a12 a13 a14
          have hst1 := HST12.out.1
          have hst2 := HST12.out.2
          go_wp2
          have hszl := HS0.out
          have hszx := HSXY.out
          have hlim : 1 + 1501 * m ≤ 80000 := by omega
          have hmin := fun W hW => fraction_Min x y ((hszx.1.mono (show 1500 ≤ 100000 by decide))) ((hszx.2.mono (show 1500 ≤ 100000 by decide))) W hW
          have hmax := fun W hW => fraction_Max x y ((hszx.1.mono (show 1500 ≤ 100000 by decide))) ((hszx.2.mono (show 1500 ≤ 100000 by decide))) W hW
          have hadl := fun W hW => fraction_Add lo (minQ x y) (hszl.1.mono (by omega)) ((hszx.1.min hszx.2).mono (by omega)) W hW
          have hadh := fun W hW => fraction_Add hi (maxQ x y) (hszl.2.mono (by omega)) ((hszx.1.max hszx.2).mono (by omega)) W hW
          rw [← hst1] at hadl
          rw [← hst2] at hadh
          unfold Rv at hmin hmax hadl hadh
          generalize hs4 : I (endStep b (lo, hi) p q).1.num = s4 at *
          generalize ht4 : D (endStep b (lo, hi) p q).1.den = t4 at *
          generalize hs5 : I (endStep b (lo, hi) p q).2.num = s5 at *
          generalize ht5 : D (endStep b (lo, hi) p q).2.den = t5 at *
          have HSTR := Lib.hid (And.intro hs4 (And.intro ht4 (And.intro hs5 ht5)))
          have HMIN := Lib.hid hmin
          have HMAX := Lib.hid hmax
          have HADL := Lib.hid hadl
          have HADH := Lib.hid hadh
          clear hszl hszx hmin hmax hadl hadh hs4 ht4 hs5 ht5 hst1 hst2 hlim
          have hT0 : EB w W9.drew wr.heap.size b9 b10 lo hi q x y := HEB2.out.below (Below.refl _ _).drew
          refine AnyT.region (T := fun V => EB w V wr.heap.size b9 b10 lo hi q x y) (late := fun j => [10, 11].contains j) (by kernel_rfl) ?_
          refine AnyT.take2 (i := 0) (v := ?_) rfl (by kernel_rfl) (by kernel_rfl) (by kernel_rfl) rfl (by kernel_rfl) (by kernel_rfl) (fun _ _ _ h => h) (Or.inl ⟨by rfl, ?_⟩) hT0 ?_
          rotate_left 1
          · intro V hV; obtain ⟨v0, v1, v2, v3, v4, v5, v6, v7⟩ := hV.cells; go_simp; first | done | with_reducible rfl
          try simp only [Act.put, List.setIfInBounds_toArray, List.set_cons_zero, List.set_cons_succ]
          refine AnyT.take2 (i := 1) (v := ?_) rfl (by kernel_rfl) (by kernel_rfl) (by kernel_rfl) rfl (by kernel_rfl) (by kernel_rfl) (fun _ _ _ h => h) (Or.inl ⟨by rfl, ?_⟩) hT0 ?_
          rotate_left 1
          · intro V hV; obtain ⟨v0, v1, v2, v3, v4, v5, v6, v7⟩ := hV.cells; go_simp; first | done | with_reducible rfl
          try simp only [Act.put, List.setIfInBounds_toArray, List.set_cons_zero, List.set_cons_succ]
          refine AnyT.take2 (i := 2) (v := ?_) rfl (by kernel_rfl) (by kernel_rfl) (by kernel_rfl) rfl (by kernel_rfl) (by kernel_rfl) (fun _ _ _ h => h) (Or.inl ⟨by rfl, ?_⟩) hT0 ?_
          rotate_left 1
          · intro V hV; obtain ⟨v0, v1, v2, v3, v4, v5, v6, v7⟩ := hV.cells; go_simp; first | done | with_reducible rfl
          try simp only [Act.put, List.setIfInBounds_toArray, List.set_cons_zero, List.set_cons_succ]
          refine AnyT.take2 (i := 5) (v := ?_) rfl (by kernel_rfl) (by kernel_rfl) (by kernel_rfl) rfl (by kernel_rfl) (by kernel_rfl) (fun _ _ _ h => h) (Or.inl ⟨by rfl, ?_⟩) hT0 ?_
          rotate_left 1
          · intro V hV; obtain ⟨v0, v1, v2, v3, v4, v5, v6, v7⟩ := hV.cells; go_simp; first | done | with_reducible rfl
          try simp only [Act.put, List.setIfInBounds_toArray, List.set_cons_zero, List.set_cons_succ]
          refine AnyT.take2 (i := 6) (v := ?_) rfl (by kernel_rfl) (by kernel_rfl) (by kernel_rfl) rfl (by kernel_rfl) (by kernel_rfl) (fun _ _ _ h => h) (Or.inl ⟨by rfl, ?_⟩) hT0 ?_
          rotate_left 1
          · intro V hV; obtain ⟨v0, v1, v2, v3, v4, v5, v6, v7⟩ := hV.cells; go_simp; first | done | with_reducible rfl
          try simp only [Act.put, List.setIfInBounds_toArray, List.set_cons_zero, List.set_cons_succ]
          refine AnyT.take2 (i := 7) (v := ?_) rfl (by kernel_rfl) (by kernel_rfl) (by kernel_rfl) rfl (by kernel_rfl) (by kernel_rfl) (fun _ _ _ h => h) (Or.inl ⟨by rfl, ?_⟩) hT0 ?_
          rotate_left 1
          · intro V hV; obtain ⟨v0, v1, v2, v3, v4, v5, v6, v7⟩ := hV.cells; go_simp; first | done | with_reducible rfl
          try simp only [Act.put, List.setIfInBounds_toArray, List.set_cons_zero, List.set_cons_succ]
          refine AnyT.one (i := 3) (by kernel_rfl) rfl (by rfl) (fun K hK => ?_)
          go_simp
          (go_at_call 83; (with_reducible refine Calls.mono (HMIN.out _ (hS.b hT0.be)) ?_); rintro e r1 ⟨rfl, t1⟩; have E1 := hT0.below t1)
          go_wp2_with fail
          refine hK.out _ _ (fun _ => E1) ?_
          clear hK K
          try simp only [Act.put, List.setIfInBounds_toArray, List.set_cons_zero, List.set_cons_succ]
          refine AnyT.one (i := 4) (by kernel_rfl) rfl (by rfl) (fun K hK => ?_)
          go_simp
          (go_at_call 82; (with_reducible refine Calls.mono (HADL.out _ (hS.b E1.be)) ?_); rintro e r2 ⟨rfl, t2⟩; have E2 := E1.below t2)
          go_wp2_with fail
          refine hK.out _ _ (fun _ => E2) ?_
          clear hK K
          try simp only [Act.put, List.setIfInBounds_toArray, List.set_cons_zero, List.set_cons_succ]
          refine AnyT.one (i := 8) (by kernel_rfl) rfl (by rfl) (fun K hK => ?_)
          go_simp
          (go_at_call 84; (with_reducible refine Calls.mono (HMAX.out _ (hS.b E2.be)) ?_); rintro e r3 ⟨rfl, t3⟩; have E3 := E2.below t3)
          go_wp2_with fail
          refine hK.out _ _ (fun _ => E3) ?_
          clear hK K
          try simp only [Act.put, List.setIfInBounds_toArray, List.set_cons_zero, List.set_cons_succ]
          refine AnyT.one (i := 9) (by kernel_rfl) rfl (by rfl) (fun K hK => ?_)
          go_simp
          (go_at_call 82; (with_reducible refine Calls.mono (HADH.out _ (hS.b E3.be)) ?_); rintro e r4 ⟨rfl, t4'⟩; have E4 := E3.below t4')
          go_wp2_with fail
          refine hK.out _ _ (fun _ => E4) ?_
          clear hK K
          try simp only [Act.put, List.setIfInBounds_toArray, List.set_cons_zero, List.set_cons_succ]
          have HPUT := Lib.hid (two_put E4.one E4.two (by omega) s4 t4 s5 t5)
          obtain ⟨⟨a0, a1, a2, a3⟩, a4, a5, a6, a7, a8, a9, ⟨a10, a11⟩, ⟨a12, a13⟩, a14⟩ := two_facts E4.one E4.two (by omega) s4 t4
          have HE4 := Lib.hid E4
          clear E1 E2 E3 E4
          refine AnyT.one (i := 10) (by kernel_rfl) rfl (by rfl) (fun K hK => ?_)
          go_simp
          refine hK.out _ _ (fun h => by cases h) ?_
          clear hK K
          try simp only [Act.put, List.setIfInBounds_toArray, List.set_cons_zero, List.set_cons_succ]
          refine AnyT.one (i := 11) (by kernel_rfl) rfl (by rfl) (fun K hK => ?_)
          go_simp
          refine hK.out _ _ (fun h => by cases h) ?_
          clear hK K
          try simp only [Act.put, List.setIfInBounds_toArray, List.set_cons_zero, List.set_cons_succ]
          refine AnyT.done (by kernel_rfl) ?_ _
          go_wp2
          go_roundw
          case rel =>
            refine ⟨m + 1, (endStep b (lo, hi) p q).1, (endStep b (lo, hi) p q).2, by go_num, by omega, ?_, ?_, ?_, ?_, HPUT.out.2.2 w HE4.out.be⟩
            · show Bo _ _ _ _ _; rw [HSTR.out.1, HSTR.out.2.1]; exact HPUT.out.1
            · show Bo _ _ _ _ _; rw [HSTR.out.2.2.1, HSTR.out.2.2.2]; exact HPUT.out.2.1
            · have := HFS.out
              rw [HF.out] at this; exact this.symm
            · have := HSTP.out
              exact ⟨this.1.mono (by omega), this.2.mono (by omega)⟩
          case measure => simp [intOf]; omega
    · obtain rfl : m = ps.length := by omega
      have hend := HF.out
      rw [endsFrom_end (Nat.le_refl _)] at hend
      have HEND := Lib.hid hend
      clear hend
      have HT := Lib.hid (two_put H4.out H5.out (by omega) (I lo.num) (D lo.den) (I hi.num) (D hi.den))
      obtain ⟨a0, a1, a2, a3, a4, a5, a6, a7, a8, a9⟩ := two_facts H4.out H5.out (by omega) (I lo.num) (D lo.den)
      generalize hv4 : I lo.num = s4 at *
      generalize hw4 : D lo.den = t4 at *
      generalize hv5 : I hi.num = s5 at *
      generalize hw5 : D hi.den = t5 at *
      have HVV := Lib.hid (And.intro hv4 (And.intro hw4 (And.intro hv5 hw5)))
      clear hv4 hw4 hv5 hw5
      go_wp2
      go_region
      go_wp2
      refine box_ret2 rfl rfl rfl (HT.out.1.below (Below.refl _ _).drew) (HT.out.2.1.below (Below.refl _ _).drew) Tryz.underlying42 rfl sizeRat rfl rfl ?_
      refine ⟨?_, bT (HT.out.2.2 w HB.out) (Below.refl _ _).drew⟩
      rw [← HEND.out]
      unfold Rv
      rw [HVV.out.1, HVV.out.2.1, HVV.out.2.2.1, HVV.out.2.2.2]
end Go.Proofs.YtbihoedcbmnccaaGreatDoor
/- enclosure: sign, zero. -/
namespace Go.Proofs.YtbihoedcbmnccaaGreatDoor
attribute [local go_sem ↓] Go.wp_at_zero Go.wp_at_succ
open Go.RowKit

/-- What an enclosure decides. -/
def signE (lo hi : Rat) : Int := if 0 ≤ lo.num.sign then 1 else if hi.num.sign ≤ 0 then -1 else 0
set_option maxHeartbeats 1600000 in
set_option maxRecDepth 100000 in
theorem enc_sign (lo hi : Rat) (w : World) (hS : St w) : Calls Tryz.prog 72 #[Rv lo, Rv hi] w fun e w' => e = .returned (.int .i64 (signE lo hi)) ∧ Below w.heap.size w w' := by
  have h1 := fun W => fraction_Sign lo W
  have h2 := fun W => fraction_Sign hi W
  have HK := Lib.hid (K2.new w hS (I lo.num) (D lo.den) (I hi.num) (D hi.den))
  unfold Rv at h1 h2 ⊢
  unfold signE
  generalize lo.num.sign = a at *
  generalize hi.num.sign = b at *
  generalize I lo.num = s at *
  generalize D lo.den = t at *
  generalize I hi.num = s' at *
  generalize D hi.den = t' at *
  by_cases ha : 0 ≤ a
  · rw [if_pos ha]
    go_enter Tryz.func72, Tryz.ntmps72
    go_wp2_with fail
    generalize (w.alloc (.cells #[.string s, .string t] 42)).alloc (.cells #[.string s', .string t'] 42) = W at HK ⊢
    refine (h1 _).mono ?_
    rintro e w1 ⟨rfl, hb1⟩
    go_wp2
    go_ret; exact ⟨rfl, bT HK.out.be hb1⟩
  · rw [if_neg ha]
    by_cases hb : b ≤ 0
    · rw [if_pos hb]
      go_enter Tryz.func72, Tryz.ntmps72
      go_wp2_with fail
      generalize (w.alloc (.cells #[.string s, .string t] 42)).alloc (.cells #[.string s', .string t'] 42) = W at HK ⊢
      refine (h1 _).mono ?_
      rintro e w1 ⟨rfl, hb1⟩
      have hk := HK.out.below hb1
      obtain ⟨_, d0, d1, d2, d3⟩ := hk.all
      have HK1 := Lib.hid hk
      clear hk hb1
      go_wp2_with fail
      refine (h2 _).mono ?_
      rintro e w2 ⟨rfl, hb2⟩
      go_wp2
      go_ret; exact ⟨rfl, bT HK1.out.be hb2⟩
    · rw [if_neg hb]
      go_enter Tryz.func72, Tryz.ntmps72
      go_wp2_with fail
      generalize (w.alloc (.cells #[.string s, .string t] 42)).alloc (.cells #[.string s', .string t'] 42) = W at HK ⊢
      refine (h1 _).mono ?_
      rintro e w1 ⟨rfl, hb1⟩
      have hk := HK.out.below hb1
      obtain ⟨_, d0, d1, d2, d3⟩ := hk.all
      have HK1 := Lib.hid hk
      clear hk hb1
      go_wp2_with fail
      refine (h2 _).mono ?_
      rintro e w2 ⟨rfl, hb2⟩
      go_wp2
      go_ret; exact ⟨rfl, bT HK1.out.be hb2⟩
set_option maxHeartbeats 1600000 in
theorem zero_fn (q : Rat) (w : World) : Calls Tryz.prog 135 #[Rv q] w fun e w' => e = .returned (.bool (decide (q.num ≠ 0))) ∧ Below w.heap.size w w' := by
  have h1 := fun W => fraction_Sign q W
  have HA := Lib.hid (box1 w (I q.num) (D q.den))
  have hd : (q.num.sign != 0) = decide (q.num ≠ 0) := by
    by_cases h : q.num = 0
    · rw [h]; rfl
    · rw [decide_eq_true h, bne_iff_ne]; intro k; exact h (Int.sign_eq_zero_iff_zero.1 k)
  unfold Rv at h1 ⊢
  generalize q.num.sign = a at *
  generalize decide (q.num ≠ 0) = d at *
  generalize I q.num = s at *
  generalize D q.den = t at *
  go_enter Tryz.func135, Tryz.ntmps135
  go_wp2_with fail
  refine (h1 _).mono ?_
  rintro e w1 ⟨rfl, hb1⟩
  go_wp2
  go_ret; exact ⟨rfl, bT HA.out.2 hb1⟩
/-- All coefficients are 0. -/
def zeroQ (qs : List Rat) : Bool := qs.all fun q => decide (q.num = 0)
set_option maxHeartbeats 1600000 in
set_option maxRecDepth 100000 in
theorem index_zero (vs : Value) (qs : List Rat) (w : World) (hx : SizeAt w vs (prs qs)) (hl : qs.length ≤ 100000) :
    Calls Tryz.prog 173 #[vs, .func (.func 135) #[] #[]] w fun e w' => ∃ r : Int, e = .returned (.int .i64 r) ∧ (decide (0 ≤ r) = !zeroQ qs) ∧ Below w.heap.size w w' := by
  rcases hx with ⟨h0, a, c, rfl⟩ | ⟨h0, gs, os, cs, rfl, hrs⟩
  · have hq : qs = [] := by unfold prs at h0; rwa [List.map_eq_nil_iff] at h0
    subst hq
    go_enter Tryz.func173, Tryz.ntmps173
    go_wp2
    go_loopw [8] (fun i wr => i = .int .i64 0 ∧ wr = w) (fun _ _ => 0)
    case atStart => exact ⟨rfl, rfl⟩
    case round =>
      obtain ⟨rfl, rfl⟩ := hrel
      go_wp2
      go_ret; exact ⟨-1, rfl, by decide, Below.refl _ _⟩
  · have e2 : (prs qs).length = qs.length := by unfold prs; rw [List.length_map]
    rw [e2]
    have HRS := Lib.hid hrs
    have HE := Lib.hid e2
    clear hrs e2 h0
    go_enter Tryz.func173, Tryz.ntmps173
    go_wp2
    go_loopw [8] (fun i wr => ∃ m : Nat, i = .int .i64 (m : Int) ∧ m ≤ qs.length ∧ Hid (∀ i, i < m → (qs.getD i 0).num = 0) ∧ Hid (Below w.heap.size w wr)) (fun i _ => qs.length - (intOf i).toNat)
    case atStart => exact ⟨0, rfl, by omega, fun i h => by omega, Below.refl _ _⟩
    case round =>
      obtain ⟨m, rfl, hm, HZ, HB⟩ := hrel
      rename World => wr
      by_cases hlt : m < qs.length
      · obtain ⟨k1, k2⟩ := (HRS.out.b HB.out).2 m (by rw [HE.out]; exact hlt)
        rw [prs_get] at k1 k2
        have hmem : qs.getD m 0 ∈ qs := by rw [List.getD_eq_getElem?_getD, List.getElem?_eq_getElem hlt]; exact List.getElem_mem hlt
        have hz := fun W => zero_fn (qs.getD m 0) W
        unfold Rv at hz
        generalize hqe : qs.getD m 0 = q at *
        have HQE := Lib.hid hqe
        have HMEM := Lib.hid hmem
        clear hqe hmem
        by_cases hq : q.num = 0
        · have hd : decide (q.num ≠ 0) = false := decide_eq_false (fun h => h hq)
          rw [hd] at hz
          have HQ := Lib.hid hq
          clear hq hd
          go_wp2_with fail
          refine (hz _).mono ?_
          rintro e w2 ⟨rfl, hb2⟩
          have HB2 := Lib.hid (bT HB.out hb2)
          clear hb2
          go_wp2
          go_roundw
          case rel =>
            refine ⟨m + 1, by go_num, by omega, ?_, HB2.out⟩
            intro i hi
            rcases Nat.lt_or_ge i m with h | h
            · exact HZ.out i h
            · obtain rfl : i = m := by omega
              rw [HQE.out]; exact HQ.out
          case measure => simp [intOf]; omega
        · have hd : decide (q.num ≠ 0) = true := decide_eq_true hq
          rw [hd] at hz
          have HQ := Lib.hid hq
          clear hq hd
          go_wp2_with fail
          refine (hz _).mono ?_
          rintro e w2 ⟨rfl, hb2⟩
          have HB2 := Lib.hid (bT HB.out hb2)
          clear hb2
          go_wp2
          go_ret
          refine ⟨m, rfl, ?_, HB2.out⟩
          have h1 : zeroQ qs = false := by
            unfold zeroQ; rw [List.all_eq_false]
            exact ⟨q, HMEM.out, by simpa using HQ.out⟩
          rw [h1]; exact decide_eq_true (by omega)
      · obtain rfl : m = qs.length := by omega
        go_wp2
        go_ret
        refine ⟨-1, rfl, ?_, HB.out⟩
        have h1 : zeroQ qs = true := by
          unfold zeroQ; rw [List.all_eq_true]
          intro q hq
          obtain ⟨i, hi, rfl⟩ := List.getElem_of_mem hq
          have := HZ.out i hi
          rw [List.getD_eq_getElem?_getD, List.getElem?_eq_getElem hi] at this
          simpa using this
        rw [h1]; rfl
set_option maxHeartbeats 1600000 in
theorem enc_zero (vs : Value) (qs : List Rat) (w : World) (hx : SizeAt w vs (prs qs)) (hl : qs.length ≤ 100000) : Calls Tryz.prog 69 #[vs] w fun e w' => e = .returned (.bool (zeroQ qs)) ∧ Below w.heap.size w w' := by
  have hi := index_zero vs qs w hx hl
  have hc : Calls Tryz.prog 134 #[vs, .func (.func 135) #[] #[]] w fun e w' => e = .returned (.bool (!zeroQ qs)) ∧ Below w.heap.size w w' := by
    clear hx
    generalize zeroQ qs = z at *
    go_enter Tryz.func134, Tryz.ntmps134
    go_wp2_with fail
    refine hi.mono ?_
    rintro e w1 ⟨r, rfl, hr, hb1⟩
    go_wp2
    go_ret
    refine ⟨?_, hb1⟩
    first | rfl | (rw [← hr]; rfl)
  clear hi hx
  generalize zeroQ qs = z at *
  go_enter Tryz.func69, Tryz.ntmps69
  go_wp2_with fail
  refine hc.mono ?_
  rintro e w1 ⟨rfl, hb1⟩
  go_wp2
  go_ret
  refine ⟨?_, hb1⟩
  cases z <;> rfl
end Go.Proofs.YtbihoedcbmnccaaGreatDoor
/- enclosure: Enclose. -/
namespace Go.Proofs.YtbihoedcbmnccaaGreatDoor
attribute [local go_sem ↓] Go.wp_at_zero Go.wp_at_succ
open Go.RowKit

theorem results_three {fn : Func} {p q u : Tmp} {ty : TypeId} (h : fn.results = #[.cell p ty, .cell q ty, .tmp u]) (tmps : Array Value) (P : Program) (w : World) :
    (results fn tmps).run P w = ((asAddr (tmps.getD p undef)).run P w).andThen fun a w₁ => ((loadVar ty a).run P w₁).andThen fun v w₂ => ((asAddr (tmps.getD q undef)).run P w₂).andThen fun c w₃ => ((loadVar ty c).run P w₃).andThen fun x w₄ => .ok (.tuple #[v, x, tmps.getD u undef]) w₄ := by
  simp only [results, h]
  simp [Sem.run_bind, Result.andThen]
/-- The end of a function with two results in blocks and a word. -/
theorem box_ret3 {P : Program} {fn : Func} {R : Ending → World → Prop} {a : Act} {w : World} {p q u : Tmp} {ty : TypeId} {B b c : Nat} {vs us : List Value} {d : TypeDesc} (h : fn.results = #[.cell p ty, .cell q ty, .tmp u])
    (hp : a.tmps.getD p undef = .pointer (some ⟨b, 0, none⟩)) (hq : a.tmps.getD q undef = .pointer (some ⟨c, 0, none⟩)) (hb : Bo w B b ty vs) (hc : Bo w B c ty us)
    (hu : P.underlying ty = some d) (hd : (match d with | .struct _ | .array _ _ => true | _ => false) = true) (hi : (P.info? ty).map (·.size) = some vs.length) (hj : us.length = vs.length) (hf : a.defers = [])
    (hR : R (.returned (.tuple #[.agg vs.toArray, .agg us.toArray, a.tmps.getD u undef])) w) : bodyPost P fn R .ret a w := by
  refine bodyPost_ret (v := .tuple #[.agg vs.toArray, .agg us.toArray, a.tmps.getD u undef]) ?_ hf hR
  have hl := run_loadVar_row (P := P) w b ty ty vs.toArray _ d hb.heap hu hd (by simpa using hi)
  have hm := run_loadVar_row (P := P) w c ty ty us.toArray _ d hc.heap hu hd (by simpa [hj] using hi)
  rw [results_three h, hp, hq]
  simp [asAddr, hl, hm]
/-- A right size in memory: primes and fractions. -/
structure Right (w : World) (vp vs : Value) (ps : List Nat) (qs : List Rat) : Prop where
  pr : IntsAt w vp (nums ps)
  sz : SizeAt w vs (prs qs)
  len : qs.length = ps.length
  prime : ∀ p ∈ ps, primeB (p : Int) = true
  dig : ∀ q ∈ qs, Sz 400 q
  pos : 0 < ps.length
  six : ps.length ≤ 6
  ok : errSize (nums ps) (prs qs) = 0
theorem Right.b {w w' : World} {vp vs : Value} {ps : List Nat} {qs : List Rat} (h : Right w vp vs ps qs) (hb : Below w.heap.size w w') : Right w' vp vs ps qs :=
  ⟨h.pr.b hb, h.sz.b hb, h.len, h.prime, h.dig, h.pos, h.six, h.ok⟩
theorem I_size_nd (n : Int) : (I n).size ≤ nd n + 1 := by
  by_cases h : n < 0
  · rw [I_neg_size h, D_size]; unfold nd; omega
  · rw [I_nonneg (by omega), D_size]; unfold nd; rw [show n.toNat = n.natAbs by omega]; omega
theorem Right.check {w : World} {vp vs : Value} {ps : List Nat} {qs : List Rat} (h : Right w vp vs ps qs) (hS : St w) :
    Calls Tryz.prog 20 #[vp, vs] w fun e w' => e = .returned (.int .i64 0) ∧ Below w.heap.size w w' := by
  have := size_Check vp vs (nums ps) (prs qs) w hS h.pr h.sz (by
    intro x hx
    unfold prs at hx
    obtain ⟨q, hq, rfl⟩ := List.mem_map.1 hx
    have hd := h.dig q hq
    refine ⟨?_, ?_⟩
    · have := I_size_nd q.num; have := hd.1; show (I q.num).size ≤ _; omega
    · show (D q.den).size ≤ _; rw [D_size]; have := hd.2; omega) (by unfold prs; rw [List.length_map, h.len]; have := h.six; omega) (by unfold nums; rw [List.length_map]; have := h.six; omega)
  rw [h.ok] at this; exact this

set_option maxHeartbeats 3200000 in
set_option maxRecDepth 100000 in
theorem enc_Enclose (vp vs : Value) (ps : List Nat) (qs : List Rat) (n : Nat) (w : World) (hS : St w) (hR : Right w vp vs ps qs) (hn : n ≤ 1000) :
    Calls Tryz.prog 21 #[vp, vs, .int .i64 (n : Int)] w fun e w' => e = .returned (.tuple #[Rv (endsQ ps qs n).1, Rv (endsQ ps qs n).2, .int .i64 0]) ∧ Below w.heap.size w w' := by
  have hck := fun W (hW : Below w.heap.size w W) => (hR.b hW).check (hS.b hW)
  have hop := fun W (hW : Below w.heap.size w W) => enc_open vp vs ps qs n W (hS.b hW) (hR.pr.b hW) (hR.sz.b hW) hR.len hR.prime (by have := hR.six; omega) hn hR.pos
  have hen := fun B lb W (hW : Below w.heap.size w W) hL => enc_ends B lb vp vs ps qs n n W (hS.b hW) hL hR.len hR.prime hR.dig (by have := hR.six; omega) hR.pos hn (Nat.le_refl _)
  have HK := Lib.hid (K2.new w hS ⟨#[]⟩ ⟨#[]⟩ ⟨#[]⟩ ⟨#[]⟩)
  unfold Rv at hen ⊢
  generalize I (endsQ ps qs n).1.num = s4 at *
  generalize D (endsQ ps qs n).1.den = t4 at *
  generalize I (endsQ ps qs n).2.num = s5 at *
  generalize D (endsQ ps qs n).2.den = t5 at *
  clear hR
  go_enter Tryz.func21, Tryz.ntmps21
  go_wp2_with fail
  generalize (w.alloc (.cells #[.string ⟨#[]⟩, .string ⟨#[]⟩] 42)).alloc (.cells #[.string ⟨#[]⟩, .string ⟨#[]⟩] 42) = W at HK ⊢
  refine (hck _ HK.out.be).mono ?_
  rintro e w1 ⟨rfl, hb1⟩
  have HK1 := Lib.hid (HK.out.below hb1)
  clear hb1 hck HK
  go_wp2_with fail
  refine (hop _ HK1.out.be).mono ?_
  rintro e w2 ⟨lb, rfl, hL, hb2⟩
  have HK2 := Lib.hid (HK1.out.below hb2)
  clear hb2 hop HK1
  go_wp2_with fail
  refine (hen _ lb _ HK2.out.be hL).mono ?_
  rintro e w3 ⟨rfl, hb3⟩
  have HK3 := Lib.hid (HK2.out.below hb3)
  clear hb3 hen HK2 hL
  obtain ⟨⟨a0, a1, a2, a3⟩, a4, a5, a6, a7, a8, a9, ⟨a10, a11⟩, ⟨a12, a13⟩, a14⟩ := two_facts HK3.out.one HK3.out.two (by omega) s4 t4
  have hput := two_put HK3.out.one HK3.out.two (by omega) s4 t4 s5 t5
  have HPUT := Lib.hid hput
  have hbe := hput.2.2 w HK3.out.be
  have HBE := Lib.hid hbe
  have hff := two_facts hput.1 hput.2.1 (by omega) s4 t4
  have hp2 := two_put hput.1 hput.2.1 (by omega) s4 t4 s5 t5
  have HFF := Lib.hid hff
  have HP2 := Lib.hid hp2
  clear hput hbe hff hp2
  go_wp2
  generalize ((((w3.setCell ⟨w.heap.size, 0, none⟩ (.string s4)).setCell ⟨w.heap.size, 1, none⟩ (.string t4)).setCell ⟨w.heap.size + 1, 0, none⟩ (.string s5)).setCell ⟨w.heap.size + 1, 1, none⟩ (.string t5)) = W4 at HPUT HBE HFF HP2 ⊢
  clear a0 a1 a2 a3 a4 a5 a6 a7 a8 a9 a10 a11 a12 a13 a14 HK3
  obtain ⟨⟨a0, a1, a2, a3⟩, a4, a5, a6, a7, a8, a9, ⟨a10, a11⟩, ⟨a12, a13⟩, a14⟩ := HFF.out
  go_region
  go_wp2
  refine box_ret3 rfl rfl rfl (HP2.out.1.below (Below.refl _ _).drew) (HP2.out.2.1.below (Below.refl _ _).drew) Tryz.underlying42 rfl sizeRat rfl rfl ?_
  exact ⟨rfl, bT (HP2.out.2.2 w HBE.out) (Below.refl _ _).drew⟩
end Go.Proofs.YtbihoedcbmnccaaGreatDoor
