/- append(v, make([]T, n)...): the law of the zeros that are appended, turned out of the kit's own law at a row that the call owns. -/
import Derived.Test.YtbihoedcbmnccaaGreatDoorK2
import Derived.Laws.IdiomCopy
import Derived.Laws.Rows
import Derived.ArgAppend
import Derived.Maps.AppendAt
import Derived.WalkLawsBesides
namespace Go.Proofs.YtbihoedcbmnccaaGreatDoor
open Go.RowKit

theorem blk_frozen {w : World} {g : Nat} {t : TypeId} {cs : Array Value} (h : w.heap[g]? = some (.cells cs t (0, 0))) (i : Nat) : w.frozen? ⟨g, i, none⟩ = false := by simp [World.frozen?, h]
theorem blk_set {w : World} {g : Nat} {t : TypeId} {cs : Array Value} (h : w.heap[g]? = some (.cells cs t (0, 0))) (i : Nat) (u : Value) : (w.setCell ⟨g, i, none⟩ u).heap[g]? = some (.cells (cs.setIfInBounds i u) t (0, 0)) := by
  simp [World.setCell, Array.getElem?_modify, h]
theorem setCells_far {g : Nat} : ∀ (vs : List Value) (o : Nat) {w : World} (k : Nat), k ≠ g → (w.setCells g o vs).heap[k]? = w.heap[k]?
  | [], _, _, _, _ => rfl
  | v :: r, o, w, k, hk => by
    rw [World.setCells, setCells_far r (o + 1) k hk]
    exact Below.heap_setCell w ⟨g, o, none⟩ v k hk
theorem setCells_same (g : Nat) : ∀ (vs : List Value) (o : Nat) (w : World), (w.setCells g o vs).os = w.os ∧ (w.setCells g o vs).tape = w.tape ∧ (w.setCells g o vs).output = w.output ∧ (w.setCells g o vs).heap.size = w.heap.size
  | [], _, _ => ⟨rfl, rfl, rfl, rfl⟩
  | v :: r, o, w => by
    obtain ⟨h1, h2, h3, h4⟩ := setCells_same g r (o + 1) (w.setCell ⟨g, o, none⟩ v)
    rw [World.setCells]
    exact ⟨h1, h2, h3, by rw [h4]; simp [World.setCell]⟩
theorem setCells_row {g : Nat} {e : TypeId} : ∀ (vs : List Value) (o : Nat) (w : World) (cur : Array Value), w.heap[g]? = some (.cells cur e (0, 0)) → o + vs.length ≤ cur.size →
    ∃ cur', (w.setCells g o vs).heap[g]? = some (.cells cur' e (0, 0)) ∧ cur'.size = cur.size ∧ cur'.toList = cur.toList.take o ++ vs ++ cur.toList.drop (o + vs.length)
  | [], o, w, cur, h, _ => ⟨cur, h, rfl, by simp⟩
  | v :: r, o, w, cur, h, hl => by
    have h2 := blk_set h o v
    simp only [List.length_cons] at hl
    obtain ⟨cur', h3, h4, h5⟩ := setCells_row r (o + 1) (w.setCell ⟨g, o, none⟩ v) _ h2 (by simp; omega)
    refine ⟨cur', h3, by rw [h4]; simp, ?_⟩
    rw [h5, Array.toList_setIfInBounds]
    have ho : o < cur.toList.length := by rw [Array.length_toList]; omega
    rw [List.take_set, List.drop_set_of_lt (by omega)]
    simp only [List.length_cons]
    rw [show o + 1 + r.length = o + (r.length + 1) by omega]
    congr 1
    rw [List.take_succ_eq_append_getElem ho, List.set_append_right _ _ (by rw [List.length_take]; omega)]
    have ho' : o < cur.size := by omega
    simp [Nat.min_eq_left (Nat.le_of_lt ho')]
theorem add_plain (g j : Nat) : (⟨g, 0, none⟩ : Addr).add j = ⟨g, j, none⟩ := by unfold Addr.add; split <;> simp_all
section
variable {P : Program}
theorem run_append_zeros (w : World) (base : Nat) (t ti ty e : TypeId) (i : TypeInfo) (z : Value) (size bytes : Nat) (ht : P.underlying t = some (.slice e)) {k : IntKind} (hti : P.underlying ti = some (.int k)) (hi : P.info? e = some i) (hz : i.zero = some z)
    (hsize : i.size = size) (hby : i.bytes = bytes) (hzs : z.cells.size = size) (hsz : 0 < size) (hb0 : 0 < bytes)
    (v : Value) (n : Nat) (xs : List Value) (hown : w.ownsRow base e size v n xs) (kx : IntKind) (m : Nat) (h1 : ∀ u ∈ (Builtin.zeroCells z.cells m).toList, u.oneCell' = true)
    (hbytes : (n + m) * bytes ≤ 140737488355328) (hbase : base ≤ w.heap.size) :
    ∃ v' w', (Builtin.append_ #[t, ti] ty #[v, .int kx m]).run P w = .ok v' w' ∧ w'.ownsRow base e size v' (n + m) (xs ++ (Builtin.zeroCells z.cells m).toList) ∧ w.grownBy w' v.ownBlock ∧
      (v'.ownBlock = v.ownBlock ∨ v'.ownBlock = some w.heap.size) := by
  subst hsize
  subst hby
  have hle : n + m ≤ 140737488355328 := Nat.le_trans (Nat.le_mul_of_pos_right _ hb0) hbytes
  have h63 : n + m ≤ maxLen := by simp only [maxLen]; omega
  have hw : IntKind.i64.wrap (m : Int) = m := by rw [IntKind.wrap_i64]; omega
  have hw0 : IntKind.i64.wrap 0 = 0 := by rw [IntKind.wrap_i64]; rfl
  have hneg : ¬ ((m : Int) < 0) := by omega
  have hmb : m * i.bytes ≤ 140737488355328 := Nat.le_trans (Nat.mul_le_mul_right _ (Nat.le_add_left m n)) hbytes
  have hbig : ¬ (281474976710656 < (m : Int) * (i.bytes : Int)) := by
    rw [← Int.natCast_mul]
    omega
  have hsn : i.size ≠ 0 := by omega
  obtain ⟨news, hnews⟩ : ∃ news, news = (Builtin.zeroCells z.cells m).toList := ⟨_, rfl⟩
  rw [← hnews] at h1 ⊢
  have hl : news.length = m * i.size := by rw [hnews, Array.length_toList, size_zeroCells, hzs]
  have hna : Builtin.zeroCells z.cells m = news.toArray := by rw [hnews]
  have hlen : (xs ++ news).length = (n + m) * i.size := by rw [List.length_append, hown.1, hl, Nat.add_mul]
  have hnil : m = 0 → news = [] := fun h => List.eq_nil_of_length_eq_zero (by rw [hl, h, Nat.zero_mul])
  have grown : ∀ (old : Nat), old < n + m → ∀ (row : Option Nat),
      (w.drew.alloc (.cells (xs.toArray ++ news.toArray ++ Builtin.zeroCells z.cells (grownCap w (n + m) old e - (n + m))) e)).ownsRow base e i.size
        (.slice (some ⟨w.heap.size, 0, none⟩) (n + m) (grownCap w (n + m) old e)) (n + m) (xs ++ news) ∧
      w.grownBy (w.drew.alloc (.cells (xs.toArray ++ news.toArray ++ Builtin.zeroCells z.cells (grownCap w (n + m) old e - (n + m))) e)) row := by
    intro old ho row
    have hge := grownCap_ge w (n + m) old e
    have hcm : grownCap w (n + m) old e ≤ maxLen := grownCap_le_maxLen w (n + m) old e h63
    refine ⟨⟨hlen, .inr ⟨w.heap.size, _, _, rfl, hbase, heap_alloc_new w.drew _, hge, hcm, ?_, ?_⟩⟩, ⟨rfl, rfl, rfl, by simp, fun k hk _ => heap_alloc_old w.drew _ hk⟩⟩
    · simp only [Array.size_append, List.size_toArray, size_zeroCells, hzs, hown.1, hl, ← Nat.add_mul]
      congr 1
      omega
    · simp only [Array.toList_append, List.append_assoc]
      rw [← List.append_assoc, ← hlen]
      exact List.take_left
  have runs : ∀ (A : Option Addr) (cap : Nat), cap < n + m → (Builtin.firstCells i.size n (.slice A n cap)).run P w.drew = .ok xs.toArray w.drew → (Builtin.append_ #[t, ti] ty #[.slice A n cap, .int kx m]).run P w =
      .ok (.slice (some ⟨w.heap.size, 0, none⟩) (n + m) (grownCap w (n + m) cap e)) (w.drew.alloc (.cells (xs.toArray ++ news.toArray ++ Builtin.zeroCells z.cells (grownCap w (n + m) cap e - (n + m))) e)) := by
    intro A cap hcap hfo
    have hn : ¬ (n + m ≤ cap) := by omega
    have h63' : ¬ (9223372036854775807 < ((n : Int) + (m : Int))) := by omega
    have hfit := growslice_fits hcap hbytes
    have h48' : ¬ (281474976710656 < Builtin.nextslicecap (n + m) cap * i.bytes) := by omega
    by_cases hm : m = 0
    · have hnl := hnil hm
      subst hm
      rw [hnl]
      simp only [Nat.add_zero] at hn h63' h48' ⊢
      have h63'' : ¬ (9223372036854775807 < (n : Int)) := by omega
      simp [Builtin.append_, run_underlying ht, run_underlying hti, sizeOf, typeInfo, zeroValue, hi, hz, asInt, asIntOf, hw0, hn, h63'', h48', Question.forced, hfo, newRow, grownCap]
    · have hmz : ¬ (m * i.size = 0) := Nat.mul_ne_zero hm hsn
      simp [Builtin.append_, run_underlying ht, run_underlying hti, sizeOf, typeInfo, zeroValue, hi, hz, asInt, asIntOf, hw, hneg, hbig, hn, h63', h48', Question.forced, hfo, newRow, grownCap, hmz, hna]
      congr 2
      apply Array.ext'
      simp [List.append_assoc]
  rcases hown.2 with ⟨rfl, rfl⟩ | ⟨g, cap, cur, rfl, hbg, hg, hnc, hcm, hcs, htake⟩
  · have hx : xs = [] := List.eq_nil_of_length_eq_zero (by simpa using hown.1)
    subst hx
    by_cases hm : m = 0
    · have hnl := hnil hm
      subst hm
      rw [hnl]
      refine ⟨.slice none 0 0, w, ?_, World.ownsRow_nil w base e i.size, ⟨rfl, rfl, rfl, Nat.le_refl _, fun _ _ _ => rfl⟩, Or.inl rfl⟩
      simp [Builtin.append_, run_underlying ht, run_underlying hti, sizeOf, typeInfo, hi, asInt, asIntOf, hw0]
    · have hgr := grown 0 (by omega) (Value.ownBlock (.slice none 0 0))
      exact ⟨_, _, runs none 0 (by omega) (by simp [Builtin.firstCells]), hgr.1, hgr.2, Or.inr rfl⟩
  · by_cases hroom : n + m ≤ cap
    · have hfit : n * i.size + news.length ≤ cur.size := by rw [hl, hcs, ← Nat.add_mul]; exact Nat.mul_le_mul_right _ hroom
      obtain ⟨cur', h3, h4, h5⟩ := setCells_row news (n * i.size) w cur hg hfit
      obtain ⟨s1, s2, s3, s4⟩ := setCells_same g news (n * i.size) w
      have hst := run_storeCells_cells (P := P) g (n * i.size) news 0 w (fun j hj => by rw [cell_of_row w g _ cur e (0, 0) hg]; simp; omega) (fun j _ => blk_frozen hg _) h1
      simp only [Nat.add_zero] at hst
      refine ⟨.slice (some ⟨g, 0, none⟩) (n + m) cap, w.setCells g (n * i.size) news, ?_, ⟨hlen, .inr ⟨g, cap, cur', rfl, hbg, h3, hroom, hcm, by rw [h4, hcs], ?_⟩⟩, ⟨s1, s2, s3, by rw [s4]; exact Nat.le_refl _, fun k _ hk => setCells_far news _ k (fun e => hk (by simp [Value.ownBlock, e]))⟩, Or.inl rfl⟩
      · by_cases hm : m = 0
        · have hnl := hnil hm
          subst hm
          rw [hnl] at hst ⊢
          simp [Builtin.append_, run_underlying ht, run_underlying hti, sizeOf, typeInfo, hi, asInt, asIntOf, hw0, hnc, add_plain, hst]
        · have hmz : ¬ (m * i.size = 0) := Nat.mul_ne_zero hm hsn
          simp [Builtin.append_, run_underlying ht, run_underlying hti, sizeOf, typeInfo, zeroValue, hi, hz, asInt, asIntOf, hw, hneg, hbig, hroom, hmz, hna, add_plain, hst]
      · rw [h5]
        have h6 : cur.toList.take (n * i.size) = xs := htake
        rw [h6, ← hlen]
        exact List.take_left
    · have holds : ∀ j u, xs[j]? = some u → w.cell? ((⟨g, 0, none⟩ : Addr).add j) = some u := hown.cells (g := g) rfl
      have hgr := grown cap (by omega) (Value.ownBlock (.slice (some ⟨g, 0, none⟩) n cap))
      exact ⟨_, _, runs (some ⟨g, 0, none⟩) cap (by omega) (run_firstCells_some (P := P) w.drew i.size n _ n cap xs hown.1 (by simpa using holds)), hgr.1, hgr.2, Or.inr rfl⟩
end
theorem zeroCells_one (z : Value) (m : Nat) : (Builtin.zeroCells #[z] m).toList = List.replicate m z := by
  apply List.ext_getElem (by simp [Builtin.zeroCells])
  intro j h1 h2
  simp [Builtin.zeroCells, Nat.mod_one]
/-- The walk's form, at words. -/
theorem wpList_append_zeros {ops : Array Oper} {rest : List Oper} {o : Oper} {a : Act} {Q : Exit → Act → World → Prop} (w : World) (hgd : o.guard = none) (s x : Operand) (t ti : TypeId)
    (ho : o.op = .call { callee := .builtin .append, args := #[s, x], argTypes := #[t, ti] })
    (B : Nat) (ht : Tryz.prog.underlying t = some (.slice 151)) {k : IntKind} (hti : Tryz.prog.underlying ti = some (.int k))
    (v : Value) (xs : List Nat) (hs : a.eval s = v) (hown : Ow w B v xs) (kx : IntKind) (m : Nat) (N : Int) (hx : a.eval x = .int kx N) (hN : N = (m : Int))
    (hlen : xs.length + m ≤ 1000000000) (hB : B ≤ w.heap.size)
    (h : ∀ v' w', Ow w' B v' (xs ++ List.replicate m 0) → w.grownBy w' v.ownBlock → (v'.ownBlock = v.ownBlock ∨ v'.ownBlock = some w.heap.size) → wpList Tryz.prog ops Q rest (a.put o.dst v') w') : wpList Tryz.prog ops Q (o :: rest) a w := by
  subst hN
  obtain ⟨i0, hi, hz0, hz1, hz2⟩ := info_parts info_u64
  have hzl : (Builtin.zeroCells (Value.int .u64 0).cells m).toList = u64s (List.replicate m 0) := by
    rw [show (Value.int .u64 0).cells = #[Value.int .u64 0] from rfl, zeroCells_one]; unfold u64s; rw [List.map_replicate]; rfl
  obtain ⟨v1, w1, hr1, h1, hg, hat⟩ := run_append_zeros (P := Tryz.prog) w B t ti o.type 151 i0 (.int .u64 0) 1 8 ht hti hi hz0 hz1 hz2 rfl (by omega) (by omega) v xs.length (u64s xs) hown kx m
    (by intro u hu; rw [hzl] at hu; unfold u64s at hu; obtain ⟨y, _, rfl⟩ := List.mem_map.1 hu; rfl) (by omega) hB
  refine wpList_plain hgd fun K hK => ?_
  unfold Oper.wp execOp
  simp only [ho, resolve, invoke, builtin, Sem.run_bind, Sem.run_pure, Result.andThen_ok, List.map_toArray, List.map_cons, List.map_nil, hs, hx, hr1]
  refine hK _ _ (h v1 w1 ?_ hg hat)
  unfold Ow
  rw [List.length_append, List.length_replicate, u64s_append, ← hzl]
  exact h1
end Go.Proofs.YtbihoedcbmnccaaGreatDoor
/- decimal: Add, Sub, Mul, Compare. -/
namespace Go.Proofs.YtbihoedcbmnccaaGreatDoor
open Go.RowKit

theorem digs_D (n : Nat) : Digs (D n).data.toList := by rw [D_list]; exact decDigits_digits n
/-- cut at a number's text. -/
theorem cut_D (n : Nat) (w : World) (hn : Lib.nDigits n ≤ 1000000) :
    Calls Tryz.prog 112 #[.string (D n)] w fun e w' =>
      ∃ g cap zs, e = .returned (sv g zs.length cap) ∧ Ow w' w.heap.size (sv g zs.length cap) zs ∧ Lim base zs ∧ Trimmed zs ∧ val base zs = n ∧ zs.length ≤ 1000000 ∧ Below w.heap.size w w' := by
  refine (cut_any (D n) w (digs_D n) (by rw [D_size]; omega)).mono ?_
  rintro e w1 ⟨g, cap, zs, h1, h2, h3, h4, h5, h6, h7⟩
  rw [D_list, dval_dec] at h5
  rw [D_size] at h6
  exact ⟨g, cap, zs, h1, h2, h3, h4, h5, by omega, h7⟩
/-- text at trimmed pieces that somebody owns. -/
theorem text_any (B g cap : Nat) (xs : List Nat) (w : World) (hO : Ow w B (sv g xs.length cap) xs) (hx : Lim base xs) (tx : Trimmed xs) (hsz : xs.length ≤ 10000000) :
    Calls Tryz.prog 114 #[sv g xs.length cap] w fun e w' => e = .returned (.string (D (val base xs))) ∧ Below w.heap.size w w' := by
  rcases Nat.eq_zero_or_pos xs.length with h | h
  · have : xs = [] := List.eq_nil_of_length_eq_zero h
    subst this
    exact text_nil g cap w
  · exact text_pos g 0 cap xs w hx tx h hO.rd hsz

theorem own_shape {w : World} {B : Nat} {v : Value} {xs : List Nat} (h : Ow w B v xs) (hne : 0 < xs.length) : ∃ g cap, v = sv g xs.length cap := by
  rcases h.2 with ⟨_, h0⟩ | ⟨g, cap, cur, e, _⟩
  · omega
  · exact ⟨g, cap, e⟩

set_option maxHeartbeats 400000 in
theorem add_small (a b : Nat) (ha : Lib.nDigits a ≤ 18) (hb : Lib.nDigits b ≤ 18) (w : World) (hS : St w) :
    Calls Tryz.prog 58 #[.string (D a), .string (D b)] w fun e w' => e = .returned (.string (D (a + b))) ∧ Below w.heap.size w w' := by
  have h1 : a < 10 ^ 18 := lt_of_nDigits_le ha
  have h2 : b < 10 ^ 18 := lt_of_nDigits_le hb
  have hab : ((a + b : Nat) : Int) = (a : Int) + (b : Int) := Int.natCast_add ..
  go_enter Tryz.func58, Tryz.ntmps58
  go_wp2_with fail
  refine (decimal_both a b ha hb _).mono ?_
  rintro e w1 ⟨rfl, hb1⟩
  go_wp2_with fail
  rw [← hab]
  refine (decimal_Of (a + b) (by omega) _ (hS.b hb1)).mono ?_
  rintro e w2 ⟨rfl, hb2⟩
  go_wp2
  go_ret; exact ⟨rfl, bT hb1 hb2⟩

/-- What is known of two numbers' pieces that were cut one after the other. -/
theorem back_sum {xs ys zs : List Nat} {c : Nat} (h : BackInv xs ys 0 (ys.length + 1) zs c) (hl : xs.length = ys.length + 1) (hx : xs.getD ys.length 0 = 0) (hlx : Lim base xs) (hly : Lim base ys) : val base zs = val base xs + val base ys := by
  have hs := h.sum
  rw [Nat.zero_add, List.take_of_length_le (by rw [h.len]; omega), List.take_of_length_le (l := xs) (by omega), List.take_of_length_le (l := ys) (by omega), Nat.pow_zero, Nat.one_mul] at hs
  have h1 := val_lt hly
  have h2 : val base xs < base ^ ys.length := by
    have e := val_take_succ base xs ys.length (by omega)
    rw [List.take_of_length_le (by omega), hx, Nat.mul_zero, Nat.add_zero] at e
    rw [e]
    have := val_lt (hlx.take ys.length)
    rwa [List.length_take, Nat.min_eq_left (by omega)] at this
  have hc := h.carry
  rw [Nat.pow_succ] at hs
  generalize base ^ ys.length = P at hs h1 h2
  have h3 : 2 * P ≤ P * base := by rw [Nat.mul_comm 2 P]; exact Nat.mul_le_mul_left _ (by decide)
  generalize P * base = Q at hs h3
  rcases Nat.eq_zero_or_pos c with h0 | h0
  · subst h0; rw [Nat.mul_zero, Nat.add_zero] at hs; exact hs
  · obtain rfl : c = 1 := by omega
    rw [Nat.mul_one] at hs
    omega
set_option maxHeartbeats 1600000 in
set_option maxRecDepth 100000 in
/-- The long way, the first number having no fewer pieces. -/
theorem add_long (a b : Nat) (ha : Lib.nDigits a ≤ 1000000) (hb : Lib.nDigits b ≤ 1000000) (h : ¬ (Lib.nDigits a ≤ 18 ∧ Lib.nDigits b ≤ 18)) (w : World) :
    Calls Tryz.prog 58 #[.string (D a), .string (D b)] w fun e w' => e = .returned (.string (D (a + b))) ∧ Below w.heap.size w w' := by
  obtain ⟨i0, hi, hz0, hz1, hz2⟩ := info_parts info_u64
  go_enter Tryz.func58, Tryz.ntmps58
  go_wp2_with fail
  refine (decimal_both_no a b h _).mono ?_
  rintro e w1 ⟨rfl, hb1⟩
  go_wp2_with fail
  refine (cut_D a _ ha).mono ?_
  rintro e w2 ⟨gp, capp, xs, rfl, hop, lx, tx, vx, sx, hb2⟩
  go_wp2_with fail
  refine (cut_D b _ hb).mono ?_
  rintro e w3 ⟨gq, capq, ys, rfl, hoq, ly, ty, vy, sy, hb3⟩
  have HOP := Lib.hid ((hop.mono hb1.size).below hb3)
  have HOQ := Lib.hid (hoq.mono (bT hb1 hb2).size)
  have hgp := hop.capb.2.2.2
  have hgq := hoq.capb.2.2.2
  clear hop hoq
  have HB := Lib.hid (bT hb1 (bT hb2 hb3))
  clear hb1 hb2 hb3
  -- the two ways
  by_cases hlt : xs.length < ys.length
  · have hlt' : (xs.length : Int) < (ys.length : Int) := by omega
    have hlen : 0 < ys.length := by
      rcases Nat.eq_zero_or_pos ys.length with h0 | h0
      · exfalso
        have e1 : xs = [] := List.eq_nil_of_length_eq_zero (by omega)
        have e2 : ys = [] := List.eq_nil_of_length_eq_zero (by omega)
        rw [e1, val_nil] at vx
        rw [e2, val_nil] at vy
        subst vx vy
        exact h ⟨by decide +kernel, by decide +kernel⟩
      · exact h0
    have hgne : gq ≠ gp := by omega
    have hB3 := HB.out.size
    have hbp := HOP.out.capb.2.2.2
    have hbq := HOQ.out.capb.2.2.2
    have HV := Lib.hid (And.intro vx vy)
    have HL := Lib.hid (And.intro ly lx)
    clear vx vy lx ly tx ty h
    go_wp2_with (at_builtin; go_loud (refine wpList_append_own_at _ rfl _ _ 153 rfl w.heap.size 151 i0 (.int .u64 0) 1 8 Tryz.underlying153 hi hz0 hz1 hz2 rfl (by omega) (sv gq ys.length capq) ys.length (u64s ys) rfl (HOQ.out.alloc _) ⟨w3.heap.size, 0, none⟩ 1 1 [.int .u64 0] rfl rfl (news1 _ _ _) (one1 _ _) (by unfold maxLen; omega) (by omega) (by simp; omega) ?_); intro v4 w4 hown4 hg4 hn4 hat4)
    have hO4 : Ow w4 w.heap.size v4 (ys ++ [0]) := by unfold Ow; rw [List.length_append, u64s_append]; exact hown4
    clear hown4 hn4
    obtain ⟨g4, cap4, rfl⟩ := own_shape hO4 (by simp)
    have hg4q : g4 ≠ gp := by
      rcases hat4 with e | e
      · simp [Value.ownBlock] at e; omega
      · simp [Value.ownBlock] at e; omega
    have HQ4 : Hid (Ow w4 w.heap.size (sv gp xs.length capp) xs) := by
      have h1 := HOP.out.alloc (.cells #[.int .u64 0] 151)
      exact h1.kept hg4 (by simp [Value.ownBlock]; omega)
    have HB4 := Lib.hid (belowG (HB.out.trans (((Below.refl _ _).alloc (Nat.le_refl _) (.cells #[.int .u64 0] 151)).mono HB.out.size)) hg4 (Nat.le_trans HB.out.size (by simp)) (fun g hg => by simp [Value.ownBlock] at hg; omega))
    have H4 := Lib.hid hO4
    have h4s := hO4.capb.2.2.2
    clear hO4 hat4 hg4
    rw [List.length_append, List.length_singleton] at *
    go_wp2_with fail
    go_simp
    go_wp2_with (at_builtin; refine wpList_append_zeros w4 rfl _ _ 153 3 rfl w.heap.size Tryz.underlying153 Tryz.underlying3 (sv gp xs.length capp) xs rfl HQ4.out .i64 (ys.length - xs.length) _ rfl (by omega) (by omega) (by omega) ?_; intro v5 w5 hown5 hg5 hat5)
    have hO5 := hown5
    clear hown5
    have hl5 : (xs ++ List.replicate (ys.length - xs.length) 0).length = ys.length := by rw [List.length_append, List.length_replicate]; omega
    obtain ⟨g5, cap5, rfl⟩ := own_shape hO5 (by rw [hl5]; exact hlen)
    have hg54 : g5 ≠ g4 := by
      rcases hat5 with e | e
      · simp [Value.ownBlock] at e; omega
      · simp [Value.ownBlock] at e; omega
    have H54 : Hid (Ow w5 w.heap.size (sv g4 (ys ++ [0]).length cap4) (ys ++ [0])) := by
      have h1 := H4.out
      rw [show ys.length + 1 = (ys ++ [0]).length by simp] at h1
      exact h1.kept hg5 (by simp [Value.ownBlock]; exact fun e => hg4q e)
    have HB5 := Lib.hid (belowG HB4.out hg5 HB4.out.size (fun g hg => by simp [Value.ownBlock] at hg; omega))
    have hbk := back_any w.heap.size g4 cap4 g5 0 cap5 (ys ++ [0]) (xs ++ List.replicate (ys.length - xs.length) 0) 0 w5 ((HL.out.1).append (Lim.one base_pos)) ((HL.out.2).append (Lim.zeros base_pos _)) H54.out hO5.rd hg54 (by rw [hl5]; simp) (by simp; omega)
    rw [List.length_append, List.length_singleton] at hbk
    have HL5 := Lib.hid hl5
    clear hl5 hO5 hat5 hg5
    refine hbk.mono ?_
    rintro e w6 ⟨rfl, zs, c, hI, hO6, hg6⟩
    have hzl : zs.length = ys.length + 1 := by rw [hI.len]; simp
    have hsum := back_sum hI (by rw [HL5.out]; simp) (by rw [HL5.out]; simp [List.getD_eq_getElem?_getD]) ((HL.out.1).append (Lim.one base_pos)) ((HL.out.2).append (Lim.zeros base_pos _))
    rw [val_append, val_one, Nat.mul_zero, Nat.add_zero, val_append, val_replicate, Nat.mul_zero, Nat.add_zero, HV.out.2, HV.out.1] at hsum
    have htr := trim_any w.heap.size g4 cap4 zs w6 (by rw [hzl]; exact hO6)
    rw [hzl] at htr
    have HZL := Lib.hid hzl
    have HS := Lib.hid hsum
    have HI := Lib.hid hI.lim
    clear hsum hzl hI hbk
    go_wp2_with fail
    refine htr.mono ?_
    rintro e w7 ⟨n', hn', rfl, ht, hv, rfl⟩
    have HVV := Lib.hid hv
    clear hv
    have hO7 : Ow w7 w.heap.size (sv g4 (zs.take n').length cap4) (zs.take n') := by
      have h1 := hO6
      rw [← HZL.out] at h1
      exact Ow.pre h1 (by rw [HZL.out]; exact hn')
    have hmin : (zs.take n').length = n' := by rw [List.length_take, HZL.out]; omega
    have htx := text_any w.heap.size g4 cap4 (zs.take n') w7 hO7 (HI.out.take _) ht (by omega)
    rw [hmin, HVV.out, HS.out] at htx
    clear hmin
    go_wp2_with fail
    refine htx.mono ?_
    rintro e w8 ⟨rfl, hb8⟩
    go_wp2
    go_ret
    refine ⟨by rw [Nat.add_comm a b]; rfl, bT ?_ hb8⟩
    exact belowG HB5.out hg6 HB5.out.size (fun g hg => by cases hg; omega)
  · have hlt' : ¬ (xs.length : Int) < (ys.length : Int) := by omega
    have hlen : 0 < xs.length := by
      rcases Nat.eq_zero_or_pos xs.length with h0 | h0
      · exfalso
        have e1 : xs = [] := List.eq_nil_of_length_eq_zero (by omega)
        have e2 : ys = [] := List.eq_nil_of_length_eq_zero (by omega)
        rw [e1, val_nil] at vx
        rw [e2, val_nil] at vy
        subst vx vy
        exact h ⟨by decide +kernel, by decide +kernel⟩
      · exact h0
    have hgne : gp ≠ gq := by omega
    have hB3 := HB.out.size
    have hbp := HOP.out.capb.2.2.2
    have hbq := HOQ.out.capb.2.2.2
    have HV := Lib.hid (And.intro vx vy)
    have HL := Lib.hid (And.intro lx ly)
    clear vx vy lx ly tx ty h
    go_wp2_with (at_builtin; go_loud (refine wpList_append_own_at _ rfl _ _ 153 rfl w.heap.size 151 i0 (.int .u64 0) 1 8 Tryz.underlying153 hi hz0 hz1 hz2 rfl (by omega) (sv gp xs.length capp) xs.length (u64s xs) rfl (HOP.out.alloc _) ⟨w3.heap.size, 0, none⟩ 1 1 [.int .u64 0] rfl rfl (news1 _ _ _) (one1 _ _) (by unfold maxLen; omega) (by omega) (by simp; omega) ?_); intro v4 w4 hown4 hg4 hn4 hat4)
    have hO4 : Ow w4 w.heap.size v4 (xs ++ [0]) := by unfold Ow; rw [List.length_append, u64s_append]; exact hown4
    clear hown4 hn4
    obtain ⟨g4, cap4, rfl⟩ := own_shape hO4 (by simp)
    have hg4q : g4 ≠ gq := by
      rcases hat4 with e | e
      · simp [Value.ownBlock] at e; omega
      · simp [Value.ownBlock] at e; omega
    have HQ4 : Hid (Ow w4 w.heap.size (sv gq ys.length capq) ys) := by
      have h1 := HOQ.out.alloc (.cells #[.int .u64 0] 151)
      exact h1.kept hg4 (by simp [Value.ownBlock]; omega)
    have HB4 := Lib.hid (belowG (HB.out.trans (((Below.refl _ _).alloc (Nat.le_refl _) (.cells #[.int .u64 0] 151)).mono HB.out.size)) hg4 (Nat.le_trans HB.out.size (by simp)) (fun g hg => by simp [Value.ownBlock] at hg; omega))
    have H4 := Lib.hid hO4
    have h4s := hO4.capb.2.2.2
    clear hO4 hat4 hg4
    rw [List.length_append, List.length_singleton] at *
    go_wp2_with fail
    go_simp
    go_wp2_with (at_builtin; refine wpList_append_zeros w4 rfl _ _ 153 3 rfl w.heap.size Tryz.underlying153 Tryz.underlying3 (sv gq ys.length capq) ys rfl HQ4.out .i64 (xs.length - ys.length) _ rfl (by omega) (by omega) (by omega) ?_; intro v5 w5 hown5 hg5 hat5)
    have hO5 := hown5
    clear hown5
    have hl5 : (ys ++ List.replicate (xs.length - ys.length) 0).length = xs.length := by rw [List.length_append, List.length_replicate]; omega
    obtain ⟨g5, cap5, rfl⟩ := own_shape hO5 (by rw [hl5]; exact hlen)
    have hg54 : g5 ≠ g4 := by
      rcases hat5 with e | e
      · simp [Value.ownBlock] at e; omega
      · simp [Value.ownBlock] at e; omega
    have H54 : Hid (Ow w5 w.heap.size (sv g4 (xs ++ [0]).length cap4) (xs ++ [0])) := by
      have h1 := H4.out
      rw [show xs.length + 1 = (xs ++ [0]).length by simp] at h1
      exact h1.kept hg5 (by simp [Value.ownBlock]; exact fun e => hg4q e)
    have HB5 := Lib.hid (belowG HB4.out hg5 HB4.out.size (fun g hg => by simp [Value.ownBlock] at hg; omega))
    have hbk := back_any w.heap.size g4 cap4 g5 0 cap5 (xs ++ [0]) (ys ++ List.replicate (xs.length - ys.length) 0) 0 w5 ((HL.out.1).append (Lim.one base_pos)) ((HL.out.2).append (Lim.zeros base_pos _)) H54.out hO5.rd hg54 (by rw [hl5]; simp) (by simp; omega)
    rw [List.length_append, List.length_singleton] at hbk
    have HL5 := Lib.hid hl5
    clear hl5 hO5 hat5 hg5
    refine hbk.mono ?_
    rintro e w6 ⟨rfl, zs, c, hI, hO6, hg6⟩
    have hzl : zs.length = xs.length + 1 := by rw [hI.len]; simp
    have hsum := back_sum hI (by rw [HL5.out]; simp) (by rw [HL5.out]; simp [List.getD_eq_getElem?_getD]) ((HL.out.1).append (Lim.one base_pos)) ((HL.out.2).append (Lim.zeros base_pos _))
    rw [val_append, val_one, Nat.mul_zero, Nat.add_zero, val_append, val_replicate, Nat.mul_zero, Nat.add_zero, HV.out.1, HV.out.2] at hsum
    have htr := trim_any w.heap.size g4 cap4 zs w6 (by rw [hzl]; exact hO6)
    rw [hzl] at htr
    have HZL := Lib.hid hzl
    have HS := Lib.hid hsum
    have HI := Lib.hid hI.lim
    clear hsum hzl hI hbk
    go_wp2_with fail
    refine htr.mono ?_
    rintro e w7 ⟨n', hn', rfl, ht, hv, rfl⟩
    have HVV := Lib.hid hv
    clear hv
    have hO7 : Ow w7 w.heap.size (sv g4 (zs.take n').length cap4) (zs.take n') := by
      have h1 := hO6
      rw [← HZL.out] at h1
      exact Ow.pre h1 (by rw [HZL.out]; exact hn')
    have hmin : (zs.take n').length = n' := by rw [List.length_take, HZL.out]; omega
    have htx := text_any w.heap.size g4 cap4 (zs.take n') w7 hO7 (HI.out.take _) ht (by omega)
    rw [hmin, HVV.out, HS.out] at htx
    clear hmin
    go_wp2_with fail
    refine htx.mono ?_
    rintro e w8 ⟨rfl, hb8⟩
    go_wp2
    go_ret
    refine ⟨rfl, bT ?_ hb8⟩
    exact belowG HB5.out hg6 HB5.out.size (fun g hg => by cases hg; omega)
theorem decimal_Add (a b : Nat) (ha : Lib.nDigits a ≤ 1000000) (hb : Lib.nDigits b ≤ 1000000) (w : World) (hS : St w) :
    Calls Tryz.prog 58 #[.string (D a), .string (D b)] w fun e w' => e = .returned (.string (D (a + b))) ∧ Below w.heap.size w w' := by
  by_cases h : Lib.nDigits a ≤ 18 ∧ Lib.nDigits b ≤ 18
  · exact add_small a b h.1 h.2 w hS
  · exact add_long a b ha hb h w
end Go.Proofs.YtbihoedcbmnccaaGreatDoor
/- decimal: Compare, Mul, Sub. -/
namespace Go.Proofs.YtbihoedcbmnccaaGreatDoor
open Go.RowKit

theorem less_digits : ∀ (l r : List UInt8), Digs l → Digs r → l.length = r.length → Op.bytesLess l r = decide (dval 0 l < dval 0 r)
  | [], [], _, _, _ => by simp [Op.bytesLess, dval_nil]
  | [], _ :: _, _, _, h => by simp at h
  | _ :: _, [], _, _, h => by simp at h
  | x :: l, y :: r, hl, hr, h => by
    have hx := hl x (List.mem_cons_self ..)
    have hy := hr y (List.mem_cons_self ..)
    have hl' : Digs l := fun b hb => hl b (List.mem_cons_of_mem _ hb)
    have hr' : Digs r := fun b hb => hr b (List.mem_cons_of_mem _ hb)
    have hlen : l.length = r.length := by simpa using h
    have ih := less_digits l r hl' hr' hlen
    have b1 := dval_lt l fun b hb => (hl' b hb).2
    have b2 := dval_lt r fun b hb => (hr' b hb).2
    rw [← hlen] at b2
    rw [dval_cons, dval_cons, dval_acc l, dval_acc r, ← hlen, Nat.zero_mul, Nat.zero_add, Nat.zero_add]
    have ex := dv_eq x
    have ey := dv_eq y
    have key : ∀ a b P u v : Nat, a < b → u < P → a * P + u < b * P + v := fun a b P u v h1 h2 => by
      have : (a + 1) * P ≤ b * P := Nat.mul_le_mul_right _ h1
      rw [Nat.add_mul] at this; omega
    generalize 10 ^ l.length = P at *
    rcases Nat.lt_trichotomy x.toNat y.toNat with c | c | c
    · have hxy : x < y := c
      rw [decide_eq_true (key _ _ P _ _ (by omega) b1)]
      simp [Op.bytesLess, hxy]
    · have e : x = y := UInt8.toNat_inj.1 c
      subst e
      have : Op.bytesLess (x :: l) (x :: r) = Op.bytesLess l r := by simp [Op.bytesLess]
      rw [this, ih]; congr 1; rw [eq_iff_iff]; omega
    · have hxy : ¬ x < y := fun hh => by have : x.toNat < y.toNat := hh; omega
      have hne : x ≠ y := fun hh => by rw [hh] at c; omega
      rw [decide_eq_false (by have := key _ _ P _ (dval 0 l) (show dv y < dv x by omega) b2; omega)]
      simp [Op.bytesLess, hxy, hne]
theorem less_D (a b : Nat) (h : (D a).size = (D b).size) : Op.bytesLess (D a).toList (D b).toList = decide (a < b) := by
  rw [ba_list, ba_list, less_digits _ _ (digs_D a) (digs_D b) (by simpa using h), D_list, D_list, dval_dec, dval_dec]
theorem list_D (a b : Nat) : ((D a).toList == (D b).toList) = decide (a = b) := by
  rw [ba_list, ba_list, Bool.eq_iff_iff, beq_iff_eq, decide_eq_true_iff]
  exact ⟨fun h => D_inj (ba_ext h), fun h => by rw [h]⟩
set_option maxHeartbeats 400000 in
theorem decimal_Compare (a b : Nat) (ha : Lib.nDigits a ≤ 1000000) (hb : Lib.nDigits b ≤ 1000000) (w : World) :
    Calls Tryz.prog 59 #[.string (D a), .string (D b)] w fun e w' => e = .returned (.int .i64 (cmp3 a b)) ∧ Below w.heap.size w w' := by
  have sa := D_size a
  have sb := D_size b
  by_cases h : (D a).size = (D b).size
  · have hne : (((D a).size : Int) != ((D b).size : Int)) = false := by rw [bne_eq_false_iff_eq]; omega
    have h1 := less_D a b h
    have h2 := list_D a b
    rcases Nat.lt_trichotomy a b with c | c | c
    · rw [cmp3_lt c]
      rw [decide_eq_true c] at h1
      clear h2 h sa sb
      go_enter Tryz.func59, Tryz.ntmps59
      go_wp2
      go_ret; exact ⟨rfl, Below.refl _ _⟩
    · subst c
      rw [cmp3_eq]
      rw [decide_eq_false (Nat.lt_irrefl _)] at h1
      clear h2 h sa sb hne
      go_enter Tryz.func59, Tryz.ntmps59
      go_wp2
      all_goals (go_ret; exact ⟨rfl, Below.refl _ _⟩)
    · rw [cmp3_gt c]
      rw [decide_eq_false (by omega)] at h1
      rw [decide_eq_false (by omega)] at h2
      clear h sa sb
      go_enter Tryz.func59, Tryz.ntmps59
      go_wp2
      go_ret; exact ⟨rfl, Below.refl _ _⟩
  · have hne : (((D a).size : Int) != ((D b).size : Int)) = true := by rw [bne_iff_ne]; omega
    have hw : wrap64 (((D a).size : Int) - ((D b).size : Int)) = ((D a).size : Int) - ((D b).size : Int) := by unfold wrap64; omega
    rcases Nat.lt_trichotomy (D a).size (D b).size with c | c | c
    · have hab : a < b := by
        rcases Nat.lt_or_ge a b with h' | h'
        · exact h'
        · have := nDigits_mono h'; omega
      rw [cmp3_lt hab]
      go_enter Tryz.func59, Tryz.ntmps59
      go_wp2
      go_ret; exact ⟨ret_int (by omega), Below.refl _ _⟩
    · exact absurd c h
    · have hab : b < a := by
        rcases Nat.lt_or_ge b a with h' | h'
        · exact h'
        · have := nDigits_mono h'; omega
      rw [cmp3_gt hab]
      go_enter Tryz.func59, Tryz.ntmps59
      go_wp2
      go_ret; exact ⟨ret_int (by omega), Below.refl _ _⟩

/-! ### Mul -/
theorem nd_mul (a b : Nat) : Lib.nDigits (a * b) ≤ Lib.nDigits a + Lib.nDigits b := by
  apply nDigits_le (by have := Lib.nDigits_pos a; omega)
  rw [Nat.pow_add]
  exact Nat.mul_lt_mul'' (Lib.lt_pow_nDigits a) (Lib.lt_pow_nDigits b)
theorem len_of_lt {b k : Nat} (hb : 1 < b) {l : List Nat} (tl : Trimmed l) (h : val b l < b ^ k) : l.length ≤ k := by
  rcases Nat.lt_or_ge k l.length with c | c
  · exfalso
    have h1 := tl.ge (b := b) (by omega) (by intro e; subst e; simp at c)
    have h2 : b ^ k ≤ b ^ (l.length - 1) := Nat.pow_le_pow_right (by omega) (by omega)
    exact Nat.lt_irrefl _ (Nat.lt_of_le_of_lt (Nat.le_trans h2 h1) h)
  · exact c
set_option maxHeartbeats 800000 in
set_option maxRecDepth 100000 in
theorem decimal_Mul (a b : Nat) (ha : Lib.nDigits a ≤ 1000000) (hb : Lib.nDigits b ≤ 1000000) (w : World) (hS : St w) :
    Calls Tryz.prog 146 #[.string (D a), .string (D b)] w fun e w' => e = .returned (.string (D (a * b))) ∧ Below w.heap.size w w' := by
  have sa := D_size a
  have sb := D_size b
  by_cases h : (D a).size + (D b).size ≤ 18
  · have h1 : a < 10 ^ 18 := lt_of_nDigits_le (by omega)
    have h2 : b < 10 ^ 18 := lt_of_nDigits_le (by omega)
    have h3 : a * b < 10 ^ 18 := lt_of_nDigits_le (Nat.le_trans (nd_mul a b) (by omega))
    have hab : ((a * b : Nat) : Int) = (a : Int) * (b : Int) := Int.natCast_mul ..
    have hab0 : 0 ≤ (a : Int) * (b : Int) := by omega
    have hab1 : (a : Int) * (b : Int) ≤ 1000000000000000000 := by omega
    have hda : Lib.nDigits a ≤ 18 := by omega
    have hdb : Lib.nDigits b ≤ 18 := by omega
    have HAB := Lib.hid hab
    clear hab sa sb h1 h2 h3
    go_enter Tryz.func146, Tryz.ntmps146
    go_wp2_with fail
    refine (decimal_both a b hda hdb _).mono ?_
    rintro e w1 ⟨rfl, hb1⟩
    go_wp2_with fail
    rw [← HAB.out]
    refine (decimal_Of (a * b) (by rw [← HAB.out] at hab1; omega) _ (hS.b hb1)).mono ?_
    rintro e w2 ⟨rfl, hb2⟩
    go_wp2
    go_ret; exact ⟨rfl, bT hb1 hb2⟩
  · have hno : 18 < ((D a).size : Int) + ((D b).size : Int) := by omega
    have hza : (D a).size ≤ 1000000 := by omega
    have hzb : (D b).size ≤ 1000000 := by omega
    clear sa sb h
    go_enter Tryz.func146, Tryz.ntmps146
    go_wp2_with fail
    refine (cut_D a _ ha).mono ?_
    rintro e w2 ⟨gp, capp, xs, rfl, hop, lx, tx, vx, sx, hb2⟩
    go_wp2_with fail
    refine (cut_D b _ hb).mono ?_
    rintro e w3 ⟨gq, capq, ys, rfl, hoq, ly, ty, vy, sy, hb3⟩
    have HV := Lib.hid (And.intro vx vy)
    clear vx vy
    have htm := times_any gp 0 capp gq 0 capq xs ys w3 lx ly (hop.below hb3).rd hoq.rd (by omega) (by omega)
    go_wp2_with fail
    refine htm.mono ?_
    rintro e w4 ⟨g, cap, zs, rfl, ho, lz, tz, vz, hb4⟩
    rw [HV.out.1, HV.out.2] at vz
    have hzs : zs.length ≤ xs.length + ys.length := len_of_lt (b := base) (by decide) tz (by rw [vz, Nat.pow_add, ← HV.out.1, ← HV.out.2]; exact Nat.mul_lt_mul'' (val_lt lx) (val_lt ly))
    have htx := text_any _ g cap zs w4 ho lz tz (by omega)
    rw [vz] at htx
    clear vz
    go_wp2_with fail
    refine htx.mono ?_
    rintro e w5 ⟨rfl, hb5⟩
    go_wp2
    go_ret; exact ⟨rfl, bT hb2 (bT hb3 (bT hb4 hb5))⟩

/-! ### Sub -/
theorem take_diff {xs ys zs : List Nat} {b : Nat} (h : TakeInv xs ys 1 0 (ys.length + 1) zs b 0) (hl : xs.length = ys.length + 1) (hle : val base ys ≤ val base xs) : val base zs + val base ys = val base xs := by
  have hs := h.sum
  rw [Nat.zero_add, List.take_of_length_le (by rw [h.len]; omega), List.take_of_length_le (l := xs) (by omega), List.take_of_length_le (l := ys) (by omega), Nat.pow_zero, Nat.one_mul, Nat.one_mul, Nat.add_zero] at hs
  have hz := val_lt h.lim
  rw [h.len, hl] at hz
  have hb := h.borrow
  rcases Nat.eq_zero_or_pos b with h0 | h0
  · subst h0; rw [Nat.mul_zero, Nat.add_zero] at hs; exact hs
  · obtain rfl : b = 1 := by omega
    rw [Nat.mul_one] at hs
    omega
set_option maxHeartbeats 1600000 in
set_option maxRecDepth 100000 in
theorem sub_long (a b : Nat) (ha : Lib.nDigits a ≤ 1000000) (hb : Lib.nDigits b ≤ 1000000) (h : ¬ (Lib.nDigits a ≤ 18 ∧ Lib.nDigits b ≤ 18)) (hle : b ≤ a) (w : World) :
    Calls Tryz.prog 60 #[.string (D a), .string (D b)] w fun e w' => e = .returned (.tuple #[.string (D (a - b)), .int .i64 0]) ∧ Below w.heap.size w w' := by
  obtain ⟨i0, hi, hz0, hz1, hz2⟩ := info_parts info_u64
  have hc3 : ¬ (cmp3 a b < 0) := by unfold cmp3; split <;> (try split) <;> omega
  obtain ⟨c3, hc3e⟩ : ∃ c, cmp3 a b = c := ⟨_, rfl⟩
  have hcmp := decimal_Compare a b ha hb w
  rw [hc3e] at hcmp hc3
  clear hc3e
  go_enter Tryz.func60, Tryz.ntmps60
  go_wp2_with fail
  refine hcmp.mono ?_
  rintro e w0 ⟨rfl, hb0⟩
  go_wp2_with fail
  refine (decimal_both_no a b h _).mono ?_
  rintro e w1 ⟨rfl, hb1⟩
  go_wp2_with fail
  refine (cut_D a _ ha).mono ?_
  rintro e w2 ⟨gp, capp, xs, rfl, hop, lx, tx, vx, sx, hb2⟩
  have HB := Lib.hid (bT hb0 (bT hb1 hb2))
  have hB2 := HB.out.size
  have HOP := Lib.hid (hop.mono (bT hb0 hb1).size)
  have hgp := HOP.out.capb.2.2.2
  clear hop hb0 hb1 hb2 hcmp
  have hlen : 0 < xs.length := by
    rcases Nat.eq_zero_or_pos xs.length with h0 | h0
    · exfalso
      rw [List.eq_nil_of_length_eq_zero h0, val_nil] at vx
      subst vx
      obtain rfl : b = 0 := by omega
      exact h ⟨by decide +kernel, by decide +kernel⟩
    · exact h0
  have HV := Lib.hid vx
  clear vx h
  go_wp2_with (at_builtin; refine wpList_append_own_at _ rfl _ _ 153 rfl w.heap.size 151 i0 (.int .u64 0) 1 8 Tryz.underlying153 hi hz0 hz1 hz2 rfl (by omega) (sv gp xs.length capp) xs.length (u64s xs) rfl (HOP.out.alloc _) ⟨w2.heap.size, 0, none⟩ 1 1 [.int .u64 0] rfl rfl (news1 _ _ _) (one1 _ _) (by unfold maxLen; omega) (by omega) (by simp; omega) ?_; intro v4 w4 hown4 hg4 hn4 hat4)
  have hO4 : Ow w4 w.heap.size v4 (xs ++ [0]) := by unfold Ow; rw [List.length_append, u64s_append]; exact hown4
  clear hown4 hn4
  obtain ⟨g4, cap4, rfl⟩ := own_shape hO4 (by simp)
  have hg4r : w.heap.size ≤ g4 ∧ g4 < w4.heap.size := hO4.capb.2.2.2
  have HB4 := Lib.hid (belowG (HB.out.trans (((Below.refl _ _).alloc (Nat.le_refl _) (.cells #[.int .u64 0] 151)).mono HB.out.size)) hg4 (Nat.le_trans HB.out.size (by simp)) (fun g hg => by simp [Value.ownBlock] at hg; omega))
  have H4 := Lib.hid hO4
  clear hO4 hat4 hg4
  rw [List.length_append, List.length_singleton] at *
  refine (cut_D b _ hb).mono ?_
  rintro e w5 ⟨gq, capq, ys, rfl, hoq, ly, ty, vy, sy, hb5⟩
  have hgq := hoq.capb.2.2.2
  have HOQ := Lib.hid (hoq.mono HB4.out.size)
  have HB5 := Lib.hid (bT HB4.out hb5)
  have h45 : w4.heap.size ≤ w5.heap.size := hb5.size
  have hlen2 : ys.length ≤ xs.length := trimmed_length (b := base) (by decide) lx ty ly (by rw [HV.out, vy]; exact hle)
  have HW := Lib.hid vy
  clear vy hoq
  have H5 : Hid (Ow w5 w.heap.size (sv g4 ([0].length + xs.length) cap4) (xs ++ [0])) := by
    have h1 := H4.out
    rw [show xs.length + 1 = (xs ++ [0]).length by simp] at h1
    have h2 := h1.below hb5
    show Ow _ _ _ _
    rw [show [0].length + xs.length = (xs ++ [0]).length by simp; omega]; exact h2
  clear hb5
  go_wp2_with fail
  go_simp
  go_wp2_with fail
  refine (cut_D b _ hb).mono ?_
  rintro e w6 ⟨gr, capr, ys2, rfl, hor, lr, tr, vr, sr, hb6⟩
  have hsame : ys2 = ys := trimmed_eq (by decide) lr ly tr ty (by rw [vr, HW.out])
  subst hsame
  have HOQ6 := Lib.hid (HOQ.out.below hb6)
  have H6 : Hid (Ow w6 w.heap.size (sv g4 (xs ++ [0]).length cap4) (xs ++ [0])) := by
    have h1 := H5.out
    rw [show [0].length + xs.length = (xs ++ [0]).length by simp; omega] at h1
    exact h1.below hb6
  have HB6 := Lib.hid (bT HB5.out hb6)
  have h56 : w5.heap.size ≤ w6.heap.size := hb6.size
  have hBB := HB6.out.size
  clear vr hor hb6 H5 HOQ
  go_wp2_with (at_builtin; refine wpList_append_zeros w6 rfl _ _ 153 3 rfl w.heap.size Tryz.underlying153 Tryz.underlying3 (sv gq ys2.length capq) ys2 rfl HOQ6.out .i64 (xs.length - ys2.length) _ rfl (by omega) (by omega) (by omega) ?_; intro v7 w7 hown7 hg7 hat7)
  have hl5 : (ys2 ++ List.replicate (xs.length - ys2.length) 0).length = xs.length := by rw [List.length_append, List.length_replicate]; omega
  obtain ⟨g7, cap7, rfl⟩ := own_shape hown7 (by rw [hl5]; exact hlen)
  have hg74 : g7 ≠ g4 := by
    rcases hat7 with e | e
    · simp [Value.ownBlock] at e; omega
    · simp [Value.ownBlock] at e; omega
  have H74 : Hid (Ow w7 w.heap.size (sv g4 (xs ++ [0]).length cap4) (xs ++ [0])) := H6.out.kept hg7 (by simp [Value.ownBlock]; omega)
  have HB7 := Lib.hid (belowG HB6.out hg7 HB6.out.size (fun g hg => by simp [Value.ownBlock] at hg; omega))
  have hbk := take_any w.heap.size g4 cap4 g7 0 cap7 (xs ++ [0]) (ys2 ++ List.replicate (xs.length - ys2.length) 0) 1 0 w7 (lx.append (Lim.one base_pos)) (ly.append (Lim.zeros base_pos _)) (by decide) H74.out hown7.rd hg74 (by rw [hl5]; simp) (by simp; omega)
  rw [List.length_append, List.length_singleton] at hbk
  have HL5 := Lib.hid hl5
  clear hl5 hown7 hat7 hg7
  refine hbk.mono ?_
  rintro e w8 ⟨zs, bo, rfl, hI, hO8, hg8⟩
  have hzl : zs.length = xs.length + 1 := by rw [hI.len]; simp
  have hsum := take_diff hI (by rw [HL5.out]; simp) (by rw [val_append, val_replicate, Nat.mul_zero, Nat.add_zero, val_append, val_one, Nat.mul_zero, Nat.add_zero, HV.out, HW.out]; exact hle)
  rw [val_append, val_replicate, Nat.mul_zero, Nat.add_zero, val_append, val_one, Nat.mul_zero, Nat.add_zero, HV.out, HW.out] at hsum
  have hsub : val base zs = a - b := by omega
  have htr := trim_any w.heap.size g4 cap4 zs w8 (by rw [hzl]; exact hO8)
  rw [hzl] at htr
  have HZL := Lib.hid hzl
  have HS := Lib.hid hsub
  have HI := Lib.hid hI.lim
  clear hsum hzl hI hbk hsub
  generalize decide (0 < bo) = bo'
  go_wp2_with fail
  refine htr.mono ?_
  rintro e w9 ⟨n', hn', rfl, ht, hv, rfl⟩
  have HVV := Lib.hid hv
  clear hv
  have hO9 : Ow w9 w.heap.size (sv g4 (zs.take n').length cap4) (zs.take n') := by
    have h1 := hO8
    rw [← HZL.out] at h1
    exact Ow.pre h1 (by rw [HZL.out]; exact hn')
  have hmin : (zs.take n').length = n' := by rw [List.length_take, HZL.out]; omega
  have htx := text_any w.heap.size g4 cap4 (zs.take n') w9 hO9 (HI.out.take _) ht (by omega)
  rw [hmin, HVV.out, HS.out] at htx
  clear hmin
  go_wp2_with fail
  refine htx.mono ?_
  rintro e w10 ⟨rfl, hb10⟩
  go_wp2
  go_ret2
  refine ⟨rfl, bT ?_ hb10⟩
  exact belowG HB7.out hg8 HB7.out.size (fun g hg => by cases hg; omega)
set_option maxHeartbeats 400000 in
theorem sub_small (a b : Nat) (ha : Lib.nDigits a ≤ 18) (hb : Lib.nDigits b ≤ 18) (hle : b ≤ a) (w : World) (hS : St w) :
    Calls Tryz.prog 60 #[.string (D a), .string (D b)] w fun e w' => e = .returned (.tuple #[.string (D (a - b)), .int .i64 0]) ∧ Below w.heap.size w w' := by
  have h1 : a < 10 ^ 18 := lt_of_nDigits_le ha
  have h2 : b < 10 ^ 18 := lt_of_nDigits_le hb
  have hab : ((a - b : Nat) : Int) = (a : Int) - (b : Int) := by omega
  have HAB := Lib.hid hab
  clear hab
  have hc3 : ¬ (cmp3 a b < 0) := by unfold cmp3; split <;> (try split) <;> omega
  obtain ⟨c3, hc3e⟩ : ∃ c, cmp3 a b = c := ⟨_, rfl⟩
  have hcmp := decimal_Compare a b (by omega) (by omega) w
  rw [hc3e] at hcmp hc3
  clear hc3e
  go_enter Tryz.func60, Tryz.ntmps60
  go_wp2_with fail
  refine hcmp.mono ?_
  rintro e w0 ⟨rfl, hb0⟩
  go_wp2_with fail
  refine (decimal_both a b ha hb _).mono ?_
  rintro e w1 ⟨rfl, hb1⟩
  go_wp2_with fail
  rw [← HAB.out]
  refine (decimal_Of (a - b) (by omega) _ (hS.b (bT hb0 hb1))).mono ?_
  rintro e w2 ⟨rfl, hb2⟩
  go_wp2
  go_ret2; exact ⟨rfl, bT hb0 (bT hb1 hb2)⟩
theorem decimal_Sub (a b : Nat) (ha : Lib.nDigits a ≤ 1000000) (hb : Lib.nDigits b ≤ 1000000) (hle : b ≤ a) (w : World) (hS : St w) :
    Calls Tryz.prog 60 #[.string (D a), .string (D b)] w fun e w' => e = .returned (.tuple #[.string (D (a - b)), .int .i64 0]) ∧ Below w.heap.size w w' := by
  by_cases h : Lib.nDigits a ≤ 18 ∧ Lib.nDigits b ≤ 18
  · exact sub_small a b h.1 h.2 hle w hS
  · exact sub_long a b ha hb h hle w
end Go.Proofs.YtbihoedcbmnccaaGreatDoor
/- Plain: one digit of a long division is guessed from the first places (after Knuth). -/
namespace Go.Proofs.YtbihoedcbmnccaaGreatDoor

/-- The guess from two places is not too small. b = bl + P (v2 + β v1), A = al + P (a2 + β high). -/
theorem guess_ge {β P q b bl v1 v2 A al a2 high : Nat} (hb : b = bl + P * (v2 + β * v1)) (hA : A = al + P * (a2 + β * high)) (hal : al < P) (ha2 : a2 < β) (hq : q * b ≤ A) : q * v1 ≤ high := by
  rcases Nat.lt_or_ge high (q * v1) with h | h
  · exfalso
    have h1 : P * (β * (high + 1)) ≤ P * (β * (q * v1)) := Nat.mul_le_mul_left _ (Nat.mul_le_mul_left _ h)
    have h2 : P * (β * (q * v1)) ≤ q * b := by
      rw [hb, Nat.mul_add, Nat.mul_left_comm q P, Nat.mul_add q, Nat.mul_add P, Nat.mul_left_comm q β]; omega
    have h3 : P * (a2 + 1 + β * high) ≤ P * (β * (high + 1)) := Nat.mul_le_mul_left _ (by rw [Nat.mul_add, Nat.mul_one]; omega)
    rw [Nat.mul_add P (a2 + 1), Nat.mul_add P a2 1, Nat.mul_one] at h3
    rw [Nat.mul_add P a2] at hA
    omega
  · exact h
/-- Where the third place says that the guess is too great, it is. -/
theorem guess_down {β P q b bl v1 v2 A al a2 high g r : Nat} (hb : b = bl + P * (v2 + β * v1)) (hA : A = al + P * (a2 + β * high)) (hal : al < P) (hq : q * b ≤ A) (hg : g * v1 + r = high) (hge : q ≤ g) (ht : r * β + a2 < g * v2) : q < g := by
  rcases Nat.lt_or_ge q g with h | h
  · exact h
  · exfalso
    obtain rfl : q = g := Nat.le_antisymm hge h
    have h1 : P * (a2 + 1 + β * high) ≤ P * (q * v2 + β * (q * v1)) := Nat.mul_le_mul_left _ (by rw [← hg, Nat.mul_add, Nat.mul_comm β r]; omega)
    have h2 : P * (q * v2 + β * (q * v1)) ≤ q * b := by
      rw [hb, Nat.mul_add q bl, Nat.mul_left_comm q P, Nat.mul_add q v2, Nat.mul_left_comm q β]; omega
    rw [Nat.mul_add P (a2 + 1), Nat.mul_add P a2 1, Nat.mul_one] at h1
    rw [Nat.mul_add P a2] at hA
    omega
/-- Where nothing speaks against the guess, it is at most 1 too great. -/
theorem guess_le {β P b bl v1 v2 A al a2 high g r : Nat} (hb : b = bl + P * (v2 + β * v1)) (hbl : bl < P) (hA : A = al + P * (a2 + β * high)) (hv2 : v2 < β) (hv1 : 0 < v1) (hg : g * v1 + r = high) (hgβ : g < β) (ht : β ≤ r ∨ g * v2 ≤ r * β + a2) : g * b ≤ A + b := by
  rcases Nat.eq_zero_or_pos g with h0 | h0
  · subst h0; rw [Nat.zero_mul]; exact Nat.zero_le _
  obtain ⟨k, rfl⟩ : ∃ k, g = k + 1 := ⟨g - 1, by omega⟩
  rw [Nat.add_mul k 1 b, Nat.one_mul]
  apply Nat.add_le_add_right
  -- k b ≤ A
  have h1 : k * b ≤ P * (k * (v2 + β * v1 + 1)) := by
    rw [hb, Nat.mul_left_comm P k]
    refine Nat.mul_le_mul_left k ?_
    rw [Nat.mul_add P _ 1, Nat.mul_one]; omega
  have h2 : k * (v2 + β * v1 + 1) ≤ a2 + β * high := by
    have e1 : β * high = β * ((k + 1) * v1) + β * r := by rw [← hg, Nat.mul_add]
    have e2 : β * ((k + 1) * v1) = k * (β * v1) + β * v1 := by rw [Nat.add_mul, Nat.one_mul, Nat.mul_add, Nat.mul_left_comm β k]
    have e3 : k * (v2 + β * v1 + 1) = k * v2 + k * (β * v1) + k := by rw [Nat.mul_add, Nat.mul_add, Nat.mul_one]
    have e4 : β ≤ β * v1 := Nat.le_mul_of_pos_right _ hv1
    rw [e1, e2, e3]
    rcases ht with h | h
    · have : k * v2 ≤ β * r := by
        have : k * v2 ≤ β * β := Nat.mul_le_mul (by omega) (by omega)
        exact Nat.le_trans this (Nat.mul_le_mul_left _ h)
      omega
    · rw [Nat.add_mul, Nat.one_mul, Nat.mul_comm r β] at h
      omega
  have h3 : P * (k * (v2 + β * v1 + 1)) ≤ P * (a2 + β * high) := Nat.mul_le_mul_left _ h2
  omega

/-- A row's number by its two first places, and by three. -/
theorem split2 {b : Nat} (l : List Nat) (n : Nat) (hn : n + 2 = l.length) : val b l = val b (l.take n) + b ^ n * (l.getD n 0 + b * l.getD (n + 1) 0) := by
  have h1 := val_take_drop b l n (by omega)
  rw [val_drop_succ b l n (by omega), val_drop_succ b l (n + 1) (by omega), List.drop_eq_nil_of_le (by omega), val_nil, Nat.mul_zero, Nat.add_zero] at h1
  exact h1
theorem split3 {b : Nat} (l : List Nat) (i n : Nat) (hn : i + n + 2 < l.length) (hz : val b (l.drop (i + n + 3)) = 0) :
    val b (l.drop i) = val b ((l.drop i).take n) + b ^ n * (l.getD (i + n) 0 + b * (l.getD (i + n + 2) 0 * b + l.getD (i + n + 1) 0)) := by
  have h1 := val_take_drop b (l.drop i) n (by rw [List.length_drop]; omega)
  rw [List.drop_drop, val_drop_succ b l (i + n) (by omega), val_drop_succ b l (i + n + 1) (by omega), val_drop_succ b l (i + n + 2) (by omega), hz, Nat.mul_zero, Nat.add_zero] at h1
  rw [h1, Nat.mul_comm (l.getD (i + n + 2) 0) b, Nat.add_comm (b * l.getD (i + n + 2) 0)]; simp only [Nat.add_zero]

/-- What holds of the long division's rows, the places from i on done: V is the first number. -/
structure DivInv (V : Nat) (bs : List Nat) (i : Nat) (ws os : List Nat) : Prop where
  lima : Lim base ws
  limo : Lim base os
  sum : V = val base bs * (base ^ i * val base (os.drop i)) + val base ws
  rest : val base (ws.drop i) < val base bs
  low : i ≤ os.length
/-- The part above the window is 0. -/
theorem high_zero {bs ws : List Nat} {i : Nat} (hl : Lim base bs) (ha : val base (ws.drop (i + 1)) < val base bs) (hlen : i + 1 + bs.length ≤ ws.length) : val base (ws.drop (i + bs.length + 1)) = 0 := by
  have h1 := val_take_drop base (ws.drop (i + 1)) bs.length (by rw [List.length_drop]; omega)
  rw [List.drop_drop, show i + 1 + bs.length = i + bs.length + 1 by omega] at h1
  have h2 := val_lt hl
  rcases Nat.eq_zero_or_pos (val base (ws.drop (i + bs.length + 1))) with h | h
  · exact h
  · exfalso
    have : base ^ bs.length * 1 ≤ base ^ bs.length * val base (ws.drop (i + bs.length + 1)) := Nat.mul_le_mul_left _ h
    omega
/-- The window's number before, and after the multiple is taken away. -/
theorem take_window {bs ws zs : List Nat} {g i bo : Nat} (h : TakeInv ws bs g i (bs.length + 1) zs bo 0) (hlen : i + bs.length + 1 ≤ ws.length) (hz : val base (ws.drop (i + bs.length + 1)) = 0) :
    val base (zs.drop i) + g * val base bs = val base (ws.drop i) + base ^ (bs.length + 1) * bo ∧ val base (zs.drop i) < base ^ (bs.length + 1) ∧ val base (zs.take i) = val base (ws.take i) ∧ val base (zs.drop (i + bs.length + 1)) = 0 := by
  have hl := h.len
  have hs := h.sum
  rw [show bo + 0 = bo from rfl, List.take_of_length_le (l := bs) (by omega), show i + (bs.length + 1) = i + bs.length + 1 by omega] at hs
  have hr := h.rest
  rw [show i + (bs.length + 1) = i + bs.length + 1 by omega] at hr
  have hzz : val base (zs.drop (i + bs.length + 1)) = 0 := by rw [hr]; exact hz
  have w1 := val_take_drop base zs (i + bs.length + 1) (by omega)
  have w2 := val_take_drop base ws (i + bs.length + 1) hlen
  rw [hzz, Nat.mul_zero, Nat.add_zero] at w1
  rw [hz, Nat.mul_zero, Nat.add_zero] at w2
  have w3 := val_take_drop base zs i (by omega)
  have w4 := val_take_drop base ws i (by omega)
  have w5 := val_take_drop base (zs.drop i) (bs.length + 1) (by rw [List.length_drop]; omega)
  rw [List.drop_drop, ← Nat.add_assoc, hzz, Nat.mul_zero, Nat.add_zero] at w5
  have w6 := val_lt ((h.lim.drop i).take (bs.length + 1))
  rw [List.length_take, List.length_drop, Nat.min_eq_left (by omega), ← w5] at w6
  have hlow : val base (zs.take i) = val base (ws.take i) := by rw [h.low]
  refine ⟨?_, w6, hlow, hzz⟩
  rw [← w1, ← w2, w3, w4, hlow, show i + bs.length + 1 = i + (bs.length + 1) by omega, Nat.pow_add, Nat.mul_assoc (base ^ i)] at hs
  apply Nat.eq_of_mul_eq_mul_left (Nat.pow_pos base_pos : 0 < base ^ i)
  rw [Nat.mul_add, Nat.mul_add]
  omega
theorem back_window {bs ws zs : List Nat} {i c : Nat} (h : BackInv ws bs i (bs.length + 1) zs c) (hlen : i + bs.length + 1 ≤ ws.length) (hz : val base (ws.drop (i + bs.length + 1)) = 0) :
    val base (zs.drop i) + base ^ (bs.length + 1) * c = val base (ws.drop i) + val base bs ∧ val base (zs.drop i) < base ^ (bs.length + 1) ∧ val base (zs.take i) = val base (ws.take i) := by
  have hl := h.len
  have hs := h.sum
  rw [List.take_of_length_le (l := bs) (by omega), show i + (bs.length + 1) = i + bs.length + 1 by omega] at hs
  have hr := h.rest
  rw [show i + (bs.length + 1) = i + bs.length + 1 by omega] at hr
  have hzz : val base (zs.drop (i + bs.length + 1)) = 0 := by rw [hr]; exact hz
  have w1 := val_take_drop base zs (i + bs.length + 1) (by omega)
  have w2 := val_take_drop base ws (i + bs.length + 1) hlen
  rw [hzz, Nat.mul_zero, Nat.add_zero] at w1
  rw [hz, Nat.mul_zero, Nat.add_zero] at w2
  have w3 := val_take_drop base zs i (by omega)
  have w4 := val_take_drop base ws i (by omega)
  have w5 := val_take_drop base (zs.drop i) (bs.length + 1) (by rw [List.length_drop]; omega)
  rw [List.drop_drop, ← Nat.add_assoc, hzz, Nat.mul_zero, Nat.add_zero] at w5
  have w6 := val_lt ((h.lim.drop i).take (bs.length + 1))
  rw [List.length_take, List.length_drop, Nat.min_eq_left (by omega), ← w5] at w6
  have hlow : val base (zs.take i) = val base (ws.take i) := by rw [h.low]
  refine ⟨?_, w6, hlow⟩
  rw [← w1, ← w2, w3, w4, hlow, show i + bs.length + 1 = i + (bs.length + 1) by omega, Nat.pow_add, Nat.mul_assoc (base ^ i)] at hs
  apply Nat.eq_of_mul_eq_mul_left (Nat.pow_pos base_pos : 0 < base ^ i)
  rw [Nat.mul_add, Nat.mul_add]
  omega
/-- A step of the long division. -/
theorem div_step {V q i : Nat} {bs ws zs os : List Nat} (h : DivInv V bs (i + 1) ws os) (hq : q < base) (hz : Lim base zs) (hlow : val base (zs.take i) = val base (ws.take i)) (hlen : zs.length = ws.length) (hil : i ≤ ws.length)
    (he : val base (zs.drop i) + q * val base bs = val base (ws.drop i)) (hr : val base (zs.drop i) < val base bs) : DivInv V bs i zs (os.set i q) := by
  have hio : i < os.length := h.low
  refine ⟨hz, h.limo.set _ hq, ?_, hr, by rw [List.length_set]; omega⟩
  rw [val_drop_succ base (os.set i q) i (by rw [List.length_set]; exact hio), drop_set_after, List.getD_eq_getElem?_getD, List.getElem?_set_self hio, Option.getD_some]
  have hs := h.sum
  have w3 := val_take_drop base zs i (by omega)
  have w4 := val_take_drop base ws i hil
  rw [w4, ← he, ← hlow] at hs
  rw [w3, hs, Nat.pow_succ, Nat.mul_add (base ^ i) q, Nat.mul_add (val base bs), Nat.mul_add (base ^ i), Nat.mul_assoc (base ^ i), Nat.mul_left_comm (val base bs) (base ^ i) q, Nat.mul_comm (val base bs) q]
  omega
end Go.Proofs.YtbihoedcbmnccaaGreatDoor
