/- Printed by a program of the session's own (wip/myprint.sh): the kit's printer, with texts of the session's own for some functions. -/
import Derived.Test.YtomcjcoehahikaaMStoreRunsx0
import Derived.Test.YtomcjcoehahikaaMStoreRunsx1
import Derived.Test.YtomcjcoehahikaaMStoreRunsx2
import Derived.Test.YtomcjcoehahikaaMStoreRunsx3
import Derived.Test.YtomcjcoehahikaaMStoreRunsx4
import Derived.Test.YtomcjcoehahikaaMStoreRunsx5
import Derived.Test.YtomcjcoehahikaaMStoreRunsx6
namespace Go.Proofs.Ytomcjcoehahikaa.MStoreRuns
open Go.RowKit Go.Proofs.YtomcjcoehahikaaW.PrintWords Go.Proofs.YtomcjcoehahikaaW.PrintLast Go.Proofs.YtomcjcoehahikaaW.PrintMore
attribute [local go_sem] max2_int min2_int max_two min_two max_three min_three max_four min_four   -- for this text's walks alone
set_option linter.unusedVariables false
set_option linter.unusedSimpArgs false

attribute [local go_sem high] eqA60
/-! ### chain_Put: function 17 -/
/-! copy at elements of several cells -/
theorem run_copy_rowk (w : World) (dT sT ty elem : TypeId) (sz : Nat) (g o dLen dCap : Nat) (a : Addr) (sLen sCap : Nat) (cur : Array Value) (t : TypeId) (cs : List Value)
    (hu : Try.prog.underlying dT = some (.slice elem)) (hs : (Try.prog.info? elem).map (·.size) = some sz)
    (hg : w.heap[g]? = some (.cells cur t (0, 0))) (hn : cs.length = Nat.min sLen dLen * sz)
    (hsrc : ∀ j v, cs[j]? = some v → w.cell? (a.add j) = some v) (hfit : o + cs.length ≤ cur.size) (h1 : ∀ v ∈ cs, v.oneCell' = true) :
    (Builtin.copy_ #[dT, sT] ty #[.slice (some ⟨g, o, none⟩) dLen dCap, .slice (some a) sLen sCap]).run Try.prog w =
      .ok (goInt (Nat.min sLen dLen)) (w.setRow g (cur.toList.take o ++ cs ++ cur.toList.drop (o + cs.length)).toArray) := by
  have hl := run_loadCells_list (P := Try.prog) w a cs hsrc
  have hst := run_storeCells_at Try.prog g o t cs 0 cur w hg (by simpa using hfit) h1
  cases hq : Try.prog.info? elem with
  | none => simp [hq] at hs
  | some i =>
    have hi : i.size = sz := by simpa [hq] using hs
    have hn2 : Nat.min sLen dLen * sz = cs.length := hn.symm
    simp [Builtin.copy_, run_underlying hu, Builtin.lenOf, Builtin.firstCells, sizeOf, typeInfo, hq, hi, hn2, hl, hst]
def vs6 (l : List S31) : List Value := l.flatMap v_list
theorem vs6_cons (x : S31) (l : List S31) : vs6 (x :: l) = v_list x ++ vs6 l := rfl
theorem vs6_append (a b : List S31) : vs6 (a ++ b) = vs6 a ++ vs6 b := by simp [vs6]
theorem vs6_length (l : List S31) : (vs6 l).length = l.length * 6 := by
  induction l with
  | nil => rfl
  | cons x r ih => rw [vs6_cons, List.length_append, ih]; simp [v_list]; omega
theorem vs6_take (l : List S31) : ∀ i, (vs6 l).take (i * 6) = vs6 (l.take i) := by
  induction l with
  | nil => intro i; simp [vs6]
  | cons x r ih =>
    intro i
    cases i with
    | zero => simp [vs6]
    | succ i =>
      rw [vs6_cons, List.take_succ_cons, vs6_cons, List.take_append, show (i + 1) * 6 - (v_list x).length = i * 6 by simp [v_list]; omega, ih, List.take_of_length_le (by simp [v_list]; omega)]
theorem vs6_drop (l : List S31) : ∀ i, (vs6 l).drop (i * 6) = vs6 (l.drop i) := by
  induction l with
  | nil => intro i; simp [vs6]
  | cons x r ih =>
    intro i
    cases i with
    | zero => simp [vs6]
    | succ i =>
      rw [vs6_cons, List.drop_succ_cons, List.drop_append, show (i + 1) * 6 - (v_list x).length = i * 6 by simp [v_list]; omega, ih, List.drop_of_length_le (by simp [v_list]; omega), List.nil_append]
theorem vs6_one (l : List S31) : ∀ v ∈ vs6 l, v.oneCell' = true := by
  intro v hv
  obtain ⟨x, _, hx⟩ := List.mem_flatMap.1 hv
  simp only [v_list, List.mem_cons, List.not_mem_nil, or_false] at hx
  rcases hx with rfl | rfl | rfl | rfl | rfl | rfl <;> rfl
theorem vs6_reps (l : List S31) (w : World) (base : Nat) (ok : Nat → Prop) : Reps (k31.M w base ok) 6 l (vs6 l) := by
  refine ⟨by rw [vs6_length], fun j p hj => ?_⟩
  obtain ⟨h1, h2⟩ := List.getElem?_eq_some_iff.1 hj
  rw [vs6_drop, List.drop_eq_getElem_cons h1, h2, vs6_cons]
  have : (v_list p ++ vs6 (l.drop (j + 1))).take 6 = v_list p := rfl
  rw [this]
  exact v_M _ _ _ _
theorem vs6_of_reps (l : List S31) : ∀ {cs : List Value} {w : World} {base : Nat} {ok : Nat → Prop}, Reps (k31.M w base ok) 6 l cs → cs = vs6 l := by
  induction l with
  | nil => intro cs w base ok h; exact List.eq_nil_of_length_eq_zero (by simpa using h.1)
  | cons p r ih =>
    intro cs w base ok h
    have h0 := h.2 0 p rfl
    simp only [Nat.zero_mul, List.drop_zero] at h0
    have e0 := k31_openM h0
    have hr : cs.drop 6 = vs6 r := by
      refine ih (w := w) (base := base) (ok := ok) ⟨by have := h.1; simp only [List.length_cons] at this; rw [List.length_drop]; omega, fun j q hj => ?_⟩
      have := h.2 (j + 1) q (by simpa using hj)
      rw [List.drop_drop, show 6 + j * 6 = (j + 1) * 6 by omega]
      exact this
    rw [← List.take_append_drop 6 cs, hr, e0]
    rfl
/-- An own row of versions as cells, and back. -/
theorem v_own {W : World} {base : Nat} {ok : Nat → Prop} {v : Value} {l : List S31} (h : Kd.R k31 31 W base ok v l) : W.ownsRow base 31 6 v l.length (vs6 l) := by
  obtain ⟨_, inner, ho, hr⟩ := h
  rw [← vs6_of_reps l hr]
  exact ho
theorem v_row {W : World} {base : Nat} {v : Value} {l : List S31} (h : W.ownsRow base 31 6 v l.length (vs6 l)) : Kd.R k31 31 W base (fun _ => True) v l := ⟨fun _ _ => trivial, vs6 l, h, vs6_reps _ _ _ _⟩
theorem setRow_grown (w : World) (g : Nat) (cs : Array Value) : w.grownBy (w.setRow g cs) (some g) :=
  ⟨rfl, rfl, rfl, by simp [World.setRow], fun i hi hne => setRow_other w g i cs (fun e => hne (by rw [e]))⟩
/-- What Insert asks of its slice: an own row with its cells; what it asks of the value: a block of its own. -/
theorem take_len6 {α : Type} (a b : List α) (n : Nat) (h : n = a.length) : (a ++ b).take n = a := by subst h; simp
structure InS (W : World) (q c : Nat) (cur : Array Value) (l : List S31) : Prop where
  h : W.heap[q]? = some (.cells cur 31 (0, 0))
  s : cur.size = c * 6
  n : l.length ≤ c
  c : c ≤ 9223372036854775807
  t : cur.toList.take (l.length * 6) = vs6 l
theorem InS.at {W : World} {q c : Nat} {cur : Array Value} {l : List S31} (h : InS W q c cur l) : ∀ (j : Nat) (v : Value), (vs6 l)[j]? = some v → cur.toList[j]? = some v := by
  intro j v hj
  rw [← h.t, List.getElem?_take] at hj
  split at hj
  · exact hj
  · cases hj
theorem add_lit6 (q j : Nat) : (⟨q, 0, none⟩ : Addr).add j = ⟨q, j, none⟩ := by cases j <;> simp [Addr.add]
theorem add_lit6' (q i j : Nat) : (⟨q, i, none⟩ : Addr).add j = ⟨q, i + j, none⟩ := by cases j <;> simp [Addr.add]
theorem row_done {W : World} {q c base : Nat} {cur : Array Value} {l : List S31} (hb : base ≤ q) (h : W.heap[q]? = some (.cells cur 31 (0, 0))) (hs : cur.size = c * 6) (hn : l.length ≤ c) (hc : c ≤ 9223372036854775807) (ht : cur.toList.take (l.length * 6) = vs6 l) :
    Kd.R k31 31 W base (fun _ => True) (.slice (some ⟨q, 0, none⟩) l.length c) l := v_row ⟨by rw [vs6_length], .inr ⟨q, c, cur, rfl, hb, h, hn, hc, hs, ht⟩⟩
set_option maxRecDepth 100000 in
set_option maxHeartbeats 4000000 in
/-- Insert where there is room: in place. -/
theorem ins_room {W : World} {q c vb : Nat} {cur : Array Value} {l : List S31} {x : S31} (hI : InS W q c cur l) (hv : W.heap[vb]? = some (.cells (v_list x).toArray 31 (0, 0))) (hne : vb ≠ q) (i : Nat) (hi : i < l.length) (hroom : l.length + 1 ≤ c) (hl : l.length ≤ 1000000000) :
    Calls Try.prog 47 #[.slice (some ⟨q, 0, none⟩) l.length c, .int .i64 i, .slice (some ⟨vb, 0, none⟩) 1 1] W fun e W' =>
      e = .returned (.slice (some ⟨q, 0, none⟩) (l.length + 1) c) ∧ W.grownBy W' (some q) ∧ ∃ cur', W'.heap[q]? = some (.cells cur' 31 (0, 0)) ∧ cur'.size = c * 6 ∧ cur'.toList.take ((l.length + 1) * 6) = vs6 (l.take i ++ x :: l.drop i) := by
  obtain ⟨n, hn⟩ : ∃ n, n = l.length := ⟨_, rfl⟩
  have hov : ∀ lb cb, (callFunc 62 #[.slice (some ⟨vb, 0, none⟩) 1 1, .slice (some ⟨q, (i + 1) * 6, none⟩) lb cb]).run Try.prog W = .ok (.value (.bool false)) W := fun lb cb => by
    rw [run_callFunc_extern Try.func62 (by kernel_rfl) (by kernel_rfl) (by kernel_rfl) (e := Extern.SlicesOverlaps.overlaps #[22, 22] #[4]) (by kernel_rfl),
      Lib.run_overlaps_apart W 22 4 31 Try.underlying22 6 Try.sizeOf31 ⟨vb, 0, none⟩ ⟨q, (i + 1) * 6, none⟩ 1 1 lb cb hne 31 31 6 cur.size (by unfold World.shape?; rw [hv]; rfl) (by unfold World.shape?; rw [hI.h]) (by rw [hI.s]; omega) (blk_frozen hv _) (blk_frozen hv _)]
    rfl
  have hsz : (Try.prog.info? 31).map (·.size) = some 6 := by
    obtain ⟨i0, hi0, h0, h1, h2⟩ := info_parts info31
    rw [hi0]; simp [h1]
  -- the two rows that follow
  obtain ⟨R1, hR1⟩ : ∃ R1 : Array Value, R1 = (cur.toList.take ((i + 1) * 6) ++ vs6 (l.drop i) ++ cur.toList.drop ((i + 1) * 6 + (vs6 (l.drop i)).length)).toArray := ⟨_, rfl⟩
  have hcs : cur.toList.length = c * 6 := by rw [Array.length_toList]; exact hI.s
  have hdl : (vs6 (l.drop i)).length = (n - i) * 6 := by rw [vs6_length, List.length_drop, hn]
  have hR1s : R1.size = c * 6 := by rw [hR1]; simp only [List.size_toArray, List.length_append, List.length_take, List.length_drop, hdl, hcs]; omega
  obtain ⟨R2, hR2⟩ : ∃ R2 : Array Value, R2 = (R1.toList.take (i * 6) ++ v_list x ++ R1.toList.drop (i * 6 + (v_list x).length)).toArray := ⟨_, rfl⟩
  have hvl : (v_list x).length = 6 := rfl
  have hR2s : R2.size = c * 6 := by rw [hR2]; simp only [List.size_toArray, List.length_append, List.length_take, List.length_drop, hvl, Array.length_toList, hR1s]; omega
  have hcp1 : ∀ ty dc sc, (Builtin.copy_ #[22, 22] ty #[.slice (some ⟨q, (i + 1) * 6, none⟩) (n - i) dc, .slice (some ⟨q, i * 6, none⟩) (n + 1 - i) sc]).run Try.prog W.drew = .ok (goInt (Nat.min (n + 1 - i) (n - i))) (W.drew.setRow q R1) := fun ty dc sc => by
    rw [hR1]
    refine run_copy_rowk W.drew _ _ ty 31 6 q ((i + 1) * 6) (n - i) dc ⟨q, i * 6, none⟩ (n + 1 - i) sc cur 31 (vs6 (l.drop i)) Try.underlying22 hsz hI.h (by rw [hdl]; simp only [Nat.min_def]; split <;> omega) (fun j v hj => ?_) (by rw [hdl, hI.s]; omega) (vs6_one _)
    rw [add_lit6']
    refine (blk_cell (w := W.drew) hI.h _).trans ?_
    rw [← Array.getElem?_toList]
    refine hI.at _ _ ?_
    rw [← vs6_drop, List.getElem?_drop] at hj
    exact hj
  have hh1 : (W.drew.setRow q R1).heap[q]? = some (.cells R1 31 (0, 0)) := setRow_heap W.drew q cur R1 31 (0, 0) hI.h
  obtain ⟨W1, hW1⟩ : ∃ W1, W1 = W.drew.setRow q R1 := ⟨_, rfl⟩
  rw [← hW1] at hcp1 hh1
  have hg1 : W.grownBy W1 (some q) := by rw [hW1]; have hg := setRow_grown W.drew q R1; exact ⟨hg.os, hg.tape, hg.output, hg.size, hg.block⟩
  have hv1 : W1.heap[vb]? = some (.cells (v_list x).toArray 31 (0, 0)) := blk_grown hv hg1 (by simpa using hne)
  have hcp2 : ∀ ty dc, (Builtin.copy_ #[22, 22] ty #[.slice (some ⟨q, i * 6, none⟩) (n + 1 - i) dc, .slice (some ⟨vb, 0, none⟩) 1 1]).run Try.prog W1 = .ok (goInt (Nat.min 1 (n + 1 - i))) (W1.setRow q R2) := fun ty dc => by
    rw [hR2]
    refine run_copy_rowk W1 _ _ ty 31 6 q (i * 6) (n + 1 - i) dc ⟨vb, 0, none⟩ 1 1 R1 31 (v_list x) Try.underlying22 hsz hh1 (by rw [hvl]; simp only [Nat.min_def]; split <;> omega) (fun j v hj => ?_) (by rw [hvl, hR1s]; omega) (fun v hv => vs6_one [x] v (by simpa [vs6] using hv))
    rw [add_lit6]
    refine (blk_cell hv1 _).trans ?_
    simpa using hj
  have HF : Hid (W.grownBy (W1.setRow q R2) (some q) ∧ (W1.setRow q R2).heap[q]? = some (.cells R2 31 (0, 0)) ∧ R2.size = c * 6 ∧ R2.toList.take ((n + 1) * 6) = vs6 (l.take i ++ x :: l.drop i)) := by
    refine Lib.hid ⟨hg1.trans (setRow_grown W1 q R2), setRow_heap W1 q R1 R2 31 (0, 0) hh1, hR2s, ?_⟩
    have e1 : R1.toList.take (i * 6) = vs6 (l.take i) := by
      rw [hR1, List.append_assoc, List.take_append_of_le_length (by rw [List.length_take, hcs]; omega), List.take_take, show min (i * 6) ((i + 1) * 6) = i * 6 by omega, ← vs6_take, ← hI.t, List.take_take, show min (i * 6) (l.length * 6) = i * 6 by omega]
    have e2 : R1.toList.drop (i * 6 + 6) = vs6 (l.drop i) ++ cur.toList.drop ((i + 1) * 6 + (vs6 (l.drop i)).length) := by
      have ht : (cur.toList.take ((i + 1) * 6)).length = i * 6 + 6 := by rw [List.length_take, hcs]; omega
      rw [hR1, List.append_assoc, List.drop_append_of_le_length (by rw [ht]; exact Nat.le_refl _), List.drop_of_length_le (by rw [ht]; exact Nat.le_refl _), List.nil_append]
    rw [hR2, hvl, e1, e2, vs6_append, vs6_cons]
    have e3 : (vs6 (l.take i)).length = i * 6 := by rw [vs6_length, List.length_take]; omega
    have e4 : vs6 (l.take i) ++ v_list x ++ (vs6 (l.drop i) ++ cur.toList.drop ((i + 1) * 6 + (vs6 (l.drop i)).length)) = (vs6 (l.take i) ++ (v_list x ++ vs6 (l.drop i))) ++ cur.toList.drop ((i + 1) * 6 + (vs6 (l.drop i)).length) := by simp
    rw [e4]
    exact take_len6 _ _ _ (by simp only [List.length_append, e3, hvl, hdl]; omega)
  have hz2 : ¬ ((i : Int) = (n : Int)) := by omega
  have hw1 : IntKind.i64.wrap ((i : Int) + 1) = ((i + 1 : Nat) : Int) := by rw [IntKind.wrap_i64]; omega
  have hw2 : IntKind.i64.wrap ((n : Int) + 1) = ((n + 1 : Nat) : Int) := by rw [IntKind.wrap_i64]; omega
  have hz3 : ¬ ((c : Int) < ((n + 1 : Nat) : Int)) := by omega
  have hb2 : ¬ (c = i + 1) := by omega
  have hb4 : ¬ (c = i) := by omega
  have hc1 : ((n + 1 : Nat) : Int) ≤ (c : Int) := by omega
  have hc2 : ((i + 1 : Nat) : Int) ≤ ((n + 1 : Nat) : Int) := by omega
  have hc3 : (i : Int) ≤ (n : Int) + 1 := by omega
  have hc4 : (i : Int) ≤ (n : Int) := by omega
  have hin : i ≤ n := by omega
  have hb1 : (0 : Int) ≤ (i : Int) + 1 := by omega
  have mixed : Try.prog.follows .mixedOrders = true := by kernel_rfl
  subst hn
  clear hI hv hR1 hR2 hR1s hR2s hh1 hg1 hv1 hW1 hcs hdl hvl hsz
  go_enter Try.func47, Try.ntmps47
  go_wp2_with (simp only [hov])
  go_region_law_o (refine step_copy_runI rfl _ _ 22 22 rfl _ _ (by simp [Act.eval, Act.put]) (by simp [Act.eval, Act.put]) (hcp1 _ _ _) ?_)
  go_wp2_with (at_builtin; refine wpList_copy_runI _ rfl _ _ 22 22 rfl _ _ rfl rfl (hcp2 _ _) ?_)
  go_ret
  exact ⟨rfl, HF.out.1, R2, HF.out.2⟩
def zv : Value := .agg #[(.int .u64 0), (.int .u32 0), (.int .u32 0), (.int .u32 0), (.string ⟨#[]⟩), (.bool false)]
theorem zc_size (k : Nat) : (Builtin.zeroCells zv.cells k).size = k * 6 := by simp [Builtin.zeroCells, zv, Value.cells]
set_option maxRecDepth 100000 in
set_option maxHeartbeats 4000000 in
/-- Insert where there is no room: a new row. -/
theorem ins_grow {W : World} {q vb : Nat} {cur : Array Value} {l : List S31} {x : S31} (hI : InS W q l.length cur l) (hv : W.heap[vb]? = some (.cells (v_list x).toArray 31 (0, 0))) (i : Nat) (hi : i < l.length) (hl : l.length ≤ 1000000000) :
    Calls Try.prog 47 #[.slice (some ⟨q, 0, none⟩) l.length l.length, .int .i64 i, .slice (some ⟨vb, 0, none⟩) 1 1] W fun e W' =>
      ∃ G, e = .returned (.slice (some ⟨W.heap.size, 0, none⟩) (l.length + 1) G) ∧ W.grownBy W' none ∧ l.length + 1 ≤ G ∧ G ≤ 9223372036854775807 ∧ ∃ cur', W'.heap[W.heap.size]? = some (.cells cur' 31 (0, 0)) ∧ cur'.size = G * 6 ∧ cur'.toList.take ((l.length + 1) * 6) = vs6 (l.take i ++ x :: l.drop i) := by
  obtain ⟨n, hn⟩ : ∃ n, n = l.length := ⟨_, rfl⟩
  obtain ⟨i0, hi0, hz0, hzs, hzb⟩ := info_parts info31
  have hsz : (Try.prog.info? 31).map (·.size) = some 6 := by rw [hi0]; simp [hzs]
  have hqw : q < W.heap.size := blk_lt hI.h
  have hvw : vb < W.heap.size := blk_lt hv
  obtain ⟨N, hN⟩ : ∃ N, N = W.heap.size := ⟨_, rfl⟩
  have htl : (vs6 (l.take i)).length = i * 6 := by rw [vs6_length, List.length_take]; omega
  have hold : (Builtin.firstCells i0.size i (.slice (some ⟨q, 0, none⟩) i n)).run Try.prog W.drew = .ok (vs6 (l.take i)).toArray W.drew := by
    rw [hzs]
    exact run_firstCells_some W.drew 6 i ⟨q, 0, none⟩ i n (vs6 (l.take i)) htl (fun j v hj => by
      rw [add_lit6]
      refine (blk_cell (w := W.drew) hI.h _).trans ?_
      rw [← Array.getElem?_toList]
      refine hI.at _ _ ?_
      rw [← vs6_take, List.getElem?_take] at hj
      split at hj
      · exact hj
      · cases hj)
  obtain ⟨G, hG⟩ : ∃ G, G = grownCap W (n + 1) n 31 := ⟨_, rfl⟩
  have hGn : n + 1 ≤ G := by rw [hG]; exact grownCap_ge W _ _ _
  have hG63 : G ≤ 9223372036854775807 := by
    have := grownCap_le_maxLen W (n + 1) n 31 (by unfold maxLen; omega)
    rw [← hG] at this
    unfold maxLen at this
    omega
  obtain ⟨ROW, hROW⟩ : ∃ ROW : Array Value, ROW = (vs6 (l.take i)).toArray ++ Builtin.zeroCells zv.cells (n + 1 - i) ++ Builtin.zeroCells zv.cells (G - (n + 1)) := ⟨_, rfl⟩
  have hRs : ROW.size = G * 6 := by rw [hROW]; simp only [Array.size_append, List.size_toArray, zc_size, htl]; omega
  have hRt : ROW.toList.take (i * 6) = vs6 (l.take i) := by
    rw [hROW, Array.toList_append, Array.toList_append, List.append_assoc]
    exact take_len6 _ _ _ (by simpa using htl.symm)
  obtain ⟨W0, hW0⟩ : ∃ W0, W0 = (W.alloc (.cells ROW 31)).drew := ⟨_, rfl⟩
  have hrz : ∀ ty, (Builtin.append_ #[22, 3] ty #[.slice (some ⟨q, 0, none⟩) i n, .int .i64 ((n : Int) + 1 - (i : Int))]).run Try.prog W = .ok (.slice (some ⟨N, 0, none⟩) (n + 1) G) W0 := fun ty => by
    have h := Lib.run_append_grow_zeros W 22 3 ty 31 i0 zv .i64 .i64 Try.underlying22 Try.underlying3 hi0 hz0 (some ⟨q, 0, none⟩) i n (vs6 (l.take i)) hold (n + 1 - i) (by omega) (by omega) (by omega) (by omega) (by rw [hzb]; omega) (by rw [hzb, show i + (n + 1 - i) = n + 1 by omega]; exact growslice_fits (by omega) (by omega))
    rw [show i + (n + 1 - i) = n + 1 by omega, ← hG, ← hROW, ← hN] at h
    rw [hW0, show (n : Int) + 1 - (i : Int) = ((n + 1 - i : Nat) : Int) by omega]
    exact h
  have hh0 : W0.heap[N]? = some (.cells ROW 31 (0, 0)) := by rw [hW0, hN]; exact blk_new W _
  have hg0 : W.grownBy W0 none := by rw [hW0]; have hg := World.grownBy_alloc W (.cells ROW 31) none; exact ⟨hg.os, hg.tape, hg.output, hg.size, hg.block⟩
  have hq0 : W0.heap[q]? = some (.cells cur 31 (0, 0)) := blk_grown hI.h hg0 (by simp)
  have hv0 : W0.heap[vb]? = some (.cells (v_list x).toArray 31 (0, 0)) := blk_grown hv hg0 (by simp)
  have hvl : (v_list x).length = 6 := rfl
  have hdl : (vs6 (l.drop i)).length = (n - i) * 6 := by rw [vs6_length, List.length_drop, hn]
  obtain ⟨R1, hR1⟩ : ∃ R1 : Array Value, R1 = (ROW.toList.take (i * 6) ++ v_list x ++ ROW.toList.drop (i * 6 + (v_list x).length)).toArray := ⟨_, rfl⟩
  have hR1s : R1.size = G * 6 := by rw [hR1]; simp only [List.size_toArray, List.length_append, List.length_take, List.length_drop, hvl, Array.length_toList, hRs]; omega
  have hcpA : ∀ ty dc, (Builtin.copy_ #[22, 22] ty #[.slice (some ⟨N, i * 6, none⟩) (n + 1 - i) dc, .slice (some ⟨vb, 0, none⟩) 1 1]).run Try.prog W0 = .ok (goInt (Nat.min 1 (n + 1 - i))) (W0.setRow N R1) := fun ty dc => by
    rw [hR1]
    refine run_copy_rowk W0 _ _ ty 31 6 N (i * 6) (n + 1 - i) dc ⟨vb, 0, none⟩ 1 1 ROW 31 (v_list x) Try.underlying22 hsz hh0 (by rw [hvl]; simp only [Nat.min_def]; split <;> omega) (fun j v hj => ?_) (by rw [hvl, hRs]; omega) (fun v hv => vs6_one [x] v (by simpa [vs6] using hv))
    rw [add_lit6]
    refine (blk_cell hv0 _).trans ?_
    simpa using hj
  obtain ⟨W1, hW1⟩ : ∃ W1, W1 = W0.setRow N R1 := ⟨_, rfl⟩
  rw [← hW1] at hcpA
  have hh1 : W1.heap[N]? = some (.cells R1 31 (0, 0)) := by rw [hW1]; exact setRow_heap W0 N ROW R1 31 (0, 0) hh0
  have hq1 : W1.heap[q]? = some (.cells cur 31 (0, 0)) := by rw [hW1]; exact (setRow_other W0 N q R1 (by omega)).trans hq0
  have hg1 : W.grownBy W1 none := ⟨by rw [hW1]; exact hg0.os, by rw [hW1]; exact hg0.tape, by rw [hW1]; exact hg0.output, by rw [hW1]; have := hg0.size; simpa [World.setRow] using this, fun k hk hne => by rw [hW1, setRow_other W0 N k R1 (by omega)]; exact hg0.block k hk hne⟩
  obtain ⟨R2, hR2⟩ : ∃ R2 : Array Value, R2 = (R1.toList.take ((i + 1) * 6) ++ vs6 (l.drop i) ++ R1.toList.drop ((i + 1) * 6 + (vs6 (l.drop i)).length)).toArray := ⟨_, rfl⟩
  have hR2s : R2.size = G * 6 := by rw [hR2]; simp only [List.size_toArray, List.length_append, List.length_take, List.length_drop, hdl, Array.length_toList, hR1s]; omega
  have hcpB : ∀ ty dc sc, (Builtin.copy_ #[22, 22] ty #[.slice (some ⟨N, (i + 1) * 6, none⟩) (n - i) dc, .slice (some ⟨q, i * 6, none⟩) (n - i) sc]).run Try.prog W1.drew = .ok (goInt (Nat.min (n - i) (n - i))) (W1.drew.setRow N R2) := fun ty dc sc => by
    rw [hR2]
    refine run_copy_rowk W1.drew _ _ ty 31 6 N ((i + 1) * 6) (n - i) dc ⟨q, i * 6, none⟩ (n - i) sc R1 31 (vs6 (l.drop i)) Try.underlying22 hsz hh1 (by rw [hdl]; simp only [Nat.min_def]; split <;> omega) (fun j v hj => ?_) (by rw [hdl, hR1s]; omega) (vs6_one _)
    rw [add_lit6']
    refine (blk_cell (w := W1.drew) hq1 _).trans ?_
    rw [← Array.getElem?_toList]
    refine hI.at _ _ ?_
    rw [← vs6_drop, List.getElem?_drop] at hj
    exact hj
  have HF : Hid (W.grownBy (W1.drew.setRow N R2) none ∧ (W1.drew.setRow N R2).heap[N]? = some (.cells R2 31 (0, 0)) ∧ R2.size = G * 6 ∧ R2.toList.take ((n + 1) * 6) = vs6 (l.take i ++ x :: l.drop i)) := by
    refine Lib.hid ⟨⟨hg1.os, hg1.tape, hg1.output, by have := hg1.size; simpa [World.setRow] using this, fun k hk hne => by rw [setRow_other W1.drew N k R2 (by omega)]; exact hg1.block k hk hne⟩, setRow_heap W1.drew N R1 R2 31 (0, 0) hh1, hR2s, ?_⟩
    have e1 : R1.toList.take ((i + 1) * 6) = vs6 (l.take i) ++ v_list x := by
      rw [hR1, hRt]
      exact take_len6 _ _ _ (by simp only [List.length_append, htl, hvl]; omega)
    rw [hR2, e1, vs6_append, vs6_cons]
    have e4 : vs6 (l.take i) ++ v_list x ++ vs6 (l.drop i) ++ R1.toList.drop ((i + 1) * 6 + (vs6 (l.drop i)).length) = (vs6 (l.take i) ++ (v_list x ++ vs6 (l.drop i))) ++ R1.toList.drop ((i + 1) * 6 + (vs6 (l.drop i)).length) := by simp
    rw [e4]
    exact take_len6 _ _ _ (by simp only [List.length_append, htl, hvl, hdl]; omega)
  have hz2 : ¬ ((i : Int) = (n : Int)) := by omega
  have hw1 : IntKind.i64.wrap ((i : Int) + 1) = ((i + 1 : Nat) : Int) := by rw [IntKind.wrap_i64]; omega
  have hw2 : IntKind.i64.wrap ((n : Int) + 1) = ((n + 1 : Nat) : Int) := by rw [IntKind.wrap_i64]; omega
  have hb2 : ¬ (G = i + 1) := by omega
  have hb4 : ¬ (G = i) := by omega
  have hb5 : ¬ (n = i) := by omega
  have hc3 : (i : Int) ≤ (n : Int) + 1 := by omega
  have hc4 : (i : Int) ≤ (n : Int) := by omega
  have hin : i ≤ n := by omega
  have hb1 : (0 : Int) ≤ (i : Int) + 1 := by omega
  have mixed : Try.prog.follows .mixedOrders = true := by kernel_rfl
  subst hn
  have HG := Lib.hid (And.intro hGn hG63)
  subst hN
  clear hI hv hR1 hR2 hR1s hR2s hh1 hg1 hW1 hdl hvl hsz hROW hRs hRt hW0 hh0 hg0 hq0 hv0 hq1 hold htl hG hi0 hz0 hzs hzb
  go_enter Try.func47, Try.ntmps47
  go_wp2_with (first
    | (at_builtin; refine Lib.wpList_append_run _ rfl _ _ _ _ rfl _ _ rfl rfl _ _ (hrz _) ?_)
    | (at_builtin; refine wpList_copy_runI _ rfl _ _ 22 22 rfl _ _ rfl rfl (hcpA _ _) ?_))
  go_region_law_o (refine step_copy_runI rfl _ _ 22 22 rfl _ _ (by simp [Act.eval, Act.put]) (by simp [Act.eval, Act.put]) (hcpB _ _ _) ?_)
  go_wp2
  go_ret
  exact ⟨G, rfl, HF.out.1, HG.out.1, HG.out.2, R2, HF.out.2⟩
def InsP (W : World) (base : Nat) (v : Value) (l' : List S31) (e : Ending) (W' : World) : Prop := ∃ v', e = .returned v' ∧ Kd.R k31 31 W' base (fun _ => True) v' l' ∧ W.grownBy W' v.ownBlock
set_option maxRecDepth 100000 in
set_option maxHeartbeats 4000000 in
/-- Insert at the end. -/
theorem ins_end {W : World} {base c vb : Nat} {A : Option Addr} {l : List S31} {x : S31} (hR : Kd.R k31 31 W base (fun _ => True) (.slice A l.length c) l) (hb : base ≤ W.heap.size) (hv : W.heap[vb]? = some (.cells (v_list x).toArray 31 (0, 0))) (hl : l.length ≤ 1000000000) :
    Calls Try.prog 47 #[.slice A l.length c, .int .i64 l.length, .slice (some ⟨vb, 0, none⟩) 1 1] W (InsP W base (.slice A l.length c) (l ++ [x])) := by
  obtain ⟨A', c', e1, hc, _⟩ := Kd.R_reads hR
  injection e1 with e0 _ e3
  subst e0
  subst e3
  have hrd : ReadsRow (k31.M W base (fun _ => False)) k31.sz W (some ⟨vb, 0, none⟩) 1 [x] := by
    refine ⟨rfl, by omega, fun _ => ⟨⟨vb, 0, none⟩, rfl, fun j p hj => ?_⟩⟩
    cases j with
    | zero =>
      obtain rfl : x = p := by simpa using hj
      refine ⟨v_list x, rfl, v_M _ _ _ _, fun t u hu => ?_⟩
      rw [show 0 * k31.sz + t = t by omega, add_lit6]
      refine (blk_cell hv _).trans ?_
      simpa using hu
    | succ j => simp at hj
  have hn1 : (c : Int) < (l.length : Int) + 1 ∨ ¬ ((c : Int) < (l.length : Int) + 1) := Classical.em _
  have HN := Lib.hid (And.intro hR (And.intro hrd hb))
  clear hR hrd hn1 hb
  have hz : ((l.length : Nat) : Int) ≤ (c : Int) := by omega
  go_enter Try.func47, Try.ntmps47
  go_wp2_with (first | (at_builtin; refine Kd.R_append_rows k31 (w0 := W) (W := W) base rfl _ _ 22 31 _ 48 rfl Try.underlying22 info31 rfl (by decide) (by decide) (.slice A l.length c) l [x] (some ⟨vb, 0, none⟩) 1 1 (fun _ => True) (fun _ => False) rfl rfl HN.out.1 HN.out.2.1 (fun x cs h => h) (fun k h => h.elim) (fun _ _ => trivial) ?b1 ?b3 ?b2 ?_) | fail)
  all_goals first | exact Below.refl _ _ | exact HN.out.2.2 | omega | skip
  all_goals
    intro v1 W1 o1 _ g1 _
    have H1 := Lib.hid (And.intro o1 g1)
    clear o1 g1
    go_wp2
    go_ret
    exact ⟨v1, rfl, H1.out.1, by first | exact H1.out.2 | (cases A <;> exact H1.out.2)⟩
theorem ins_calls {W : World} {base c vb : Nat} {A : Option Addr} {l : List S31} {x : S31} (hR : Kd.R k31 31 W base (fun _ => True) (.slice A l.length c) l) (hb : base ≤ W.heap.size) (hv : W.heap[vb]? = some (.cells (v_list x).toArray 31 (0, 0))) (hne : ∀ y, (Value.slice A l.length c).ownBlock = some y → vb ≠ y) (i : Nat) (hi : i ≤ l.length) (hl : l.length ≤ 1000000000) :
    Calls Try.prog 47 #[.slice A l.length c, .int .i64 i, .slice (some ⟨vb, 0, none⟩) 1 1] W (InsP W base (.slice A l.length c) (l.take i ++ x :: l.drop i)) := by
  by_cases he : i = l.length
  · subst he
    rw [List.take_length, List.drop_length]
    exact ins_end hR hb hv hl
  · have ho := v_own hR
    rcases ho with ⟨h1, ⟨hv', h2⟩ | ⟨q, cap, cur, hv', h3, h4, h5, h6, h7, h8⟩⟩
    · omega
    injection hv' with e1 _ e3
    subst e1
    subst e3
    have hI : InS W q c cur l := ⟨h4, h7, h5, h6, h8⟩
    have hlen : (l.take i ++ x :: l.drop i).length = l.length + 1 := by simp; omega
    by_cases hr : l.length + 1 ≤ c
    · refine (ins_room hI hv (hne q rfl) i (by omega) hr hl).mono ?_
      rintro e W' ⟨rfl, hg, cur', k1, k2, k3⟩
      refine ⟨_, rfl, ?_, hg⟩
      rw [← hlen]
      exact row_done h3 k1 k2 (by omega) h6 (by rw [hlen]; exact k3)
    · obtain rfl : c = l.length := by omega
      refine (ins_grow hI hv i (by omega) hl).mono ?_
      rintro e W' ⟨G, rfl, hg, hG1, hG2, cur', k1, k2, k3⟩
      refine ⟨_, rfl, ?_, ⟨hg.os, hg.tape, hg.output, hg.size, fun k hk hn => hg.block k hk (by simp)⟩⟩
      rw [← hlen]
      exact row_done hb k1 k2 (by omega) hG2 (by rw [hlen]; exact k3)
/-! Put -/
attribute [local go_sem high] eqA27 eqA31
def pl_veq (x : S31) (a0 a1 a2 a3 : Int) (a4 : ByteArray) (a5 : Bool) : Bool := ((x.f0.f0 == a0 && (x.f0.f1 == a1)) && ((x.f1.f0 == a2 && (x.f1.f1 == a3)) && ((x.f2.toList == a4.toList && (x.f3 == a5)))))
def pl_ateq (x : S31) (a0 a1 : Int) : Bool := x.f0.f0 == a0 && (x.f0.f1 == a1)
def pl_ins (l : List S31) (i : Nat) (v : S31) : Option (List S31 × Int) := if 1000 ≤ l.length then some ([], 3) else some (l.take i ++ v :: l.drop i, 0)
def pl_put (l : List S31) (i : Nat) (a0 a1 a2 a3 : Int) (a4 : ByteArray) (a5 : Bool) : Option (List S31 × Int) := match l[i]? with
  | some y => if pl_veq y a0 a1 a2 a3 a4 a5 = true then some (l, 0) else if pl_ateq y a0 a1 = true then some ([], 40) else pl_ins l i ⟨⟨a0, a1⟩, ⟨a2, a3⟩, a4, a5⟩
  | none => pl_ins l i ⟨⟨a0, a1⟩, ⟨a2, a3⟩, a4, a5⟩
def chain_Put.f (k : Nat) (l0 : List S31) (a1_0 : Int) (a1_1 : Int) (a1_2 : Int) (a1_3 : Int) (a1_4 : ByteArray) (a1_5 : Bool) : Option (List S31 × Int) :=
  (chain_Right.f k l0).bind fun r => if r = true then (chain_fits.f a1_0 a1_1 a1_2 a1_3 a1_4 a1_5).bind fun ft => if ft = true then (chain_place.f k l0 a1_0 a1_1).bind fun i => pl_put l0 i.toNat a1_0 a1_1 a1_2 a1_3 a1_4 a1_5 else some ([], 1) else some ([], 1)
def PutP (w : World) (r1 : List S31) (r2 : Int) (e : Ending) (w' : World) : Prop := ∃ v0_ : Value, e = .returned (.tuple #[v0_, .int .i64 r2]) ∧ Kd.R k31 31 w' w.heap.size (fun _ => True) v0_ r1 ∧ Below w.heap.size w w'
def InsQ (w : World) (l' : List S31) (e : Ending) (W' : World) : Prop := ∃ v', e = .returned v' ∧ Kd.R k31 31 W' w.heap.size (fun _ => True) v' l' ∧ Below w.heap.size w W'
theorem ins_a {w W4 : World} {A4 : Option Addr} {c4 : Nat} {l : List S31} (a0 a1 a2 a3 : Int) (a4 : ByteArray) (a5 : Bool) (o4 : Kd.R k31 31 W4 w.heap.size (fun _ => True) (.slice A4 l.length c4) l) (b4 : Below w.heap.size w W4) (i : Nat) (hi : i ≤ l.length) (hl : l.length ≤ 1000000000) :
    Calls Try.prog 47 #[.slice A4 l.length c4, .int .i64 i, .slice (some ⟨W4.heap.size, 0, none⟩) 1 1] (W4.alloc (.cells #[.int .u64 a0, .int .u32 a1, .int .u32 a2, .int .u32 a3, .string a4, .bool a5] 31)) (InsQ w (l.take i ++ (⟨⟨a0, a1⟩, ⟨a2, a3⟩, a4, a5⟩ : S31) :: l.drop i)) := by
  have hs := b4.size
  refine (ins_calls (W := W4.alloc (.cells #[.int .u64 a0, .int .u32 a1, .int .u32 a2, .int .u32 a3, .string a4, .bool a5] 31)) (base := w.heap.size) (x := ⟨⟨a0, a1⟩, ⟨a2, a3⟩, a4, a5⟩) (Kd.R_alloc o4 _) (by simp; omega) (blk_new W4 _) (fun y hy => by have := Kd.R_lt o4 y hy; omega) i hi hl).mono ?_
  rintro e W5 ⟨v5, rfl, o5, g5⟩
  exact ⟨v5, rfl, o5, (below_alloc b4 _).grown g5 (by simp; omega) (fun y hy => Kd.R_base o4 y hy)⟩
theorem ins_b {w W4 : World} {A4 : Option Addr} {c4 vb : Nat} {l : List S31} (a0 a1 a2 a3 : Int) (a4 : ByteArray) (a5 : Bool) (o4 : Kd.R k31 31 W4 (vb + 1) (fun _ => True) (.slice A4 l.length c4) l) (b4 : Below w.heap.size w W4) (hv : W4.heap[vb]? = some (.cells #[.int .u64 a0, .int .u32 a1, .int .u32 a2, .int .u32 a3, .string a4, .bool a5] 31 (0, 0))) (hw : w.heap.size ≤ vb) (i : Nat) (hi : i ≤ l.length) (hl : l.length ≤ 1000000000) :
    Calls Try.prog 47 #[.slice A4 l.length c4, .int .i64 i, .slice (some ⟨vb, 0, none⟩) 1 1] W4 (InsQ w (l.take i ++ (⟨⟨a0, a1⟩, ⟨a2, a3⟩, a4, a5⟩ : S31) :: l.drop i)) := by
  refine (ins_calls (W := W4) (base := w.heap.size) (x := ⟨⟨a0, a1⟩, ⟨a2, a3⟩, a4, a5⟩) (Kd.R_lower o4 (by omega)) b4.size hv (fun y hy => by have := Kd.R_base o4 y hy; omega) i hi hl).mono ?_
  rintro e W5 ⟨v5, rfl, o5, g5⟩
  exact ⟨v5, rfl, o5, b4.grown g5 b4.size (fun y hy => by have := Kd.R_base o4 y hy; omega)⟩
set_option maxRecDepth 100000 in
set_option maxHeartbeats 1000000 in
theorem put_walk (k : Nat) (A0 : Option Addr) (c0 : Nat) (l0 : List (S31)) (a1_0 : Int) (a1_1 : Int) (a1_2 : Int) (a1_3 : Int) (a1_4 : ByteArray) (a1_5 : Bool) (r1 : List (S31)) (r2 : Int) (w : World) (hr0 : Kd.C k31 w A0 l0.length l0) (hc0 : l0.length ≤ c0) (h : chain_Put.f k l0 a1_0 a1_1 a1_2 a1_3 a1_4 a1_5 = some (r1, r2)) :
    Calls Try.prog 17 #[.slice A0 l0.length c0, .agg #[.int .u64 a1_0, .int .u32 a1_1, .int .u32 a1_2, .int .u32 a1_3, .string a1_4, .bool a1_5]] w (PutP w r1 r2) := by
  obtain ⟨b, hb⟩ : ∃ b, b = w.heap.size := ⟨_, rfl⟩
  obtain ⟨W, hW⟩ : ∃ W, W = w.alloc (.cells #[.int .u64 a1_0, .int .u32 a1_1, .int .u32 a1_2, .int .u32 a1_3, .string a1_4, .bool a1_5] 31) := ⟨_, rfl⟩
  have hbw : Below w.heap.size w W := by rw [hW]; exact below_alloc (Below.refl _ _) _
  have hbx : W.heap[b]? = some (.cells #[.int .u64 a1_0, .int .u32 a1_1, .int .u32 a1_2, .int .u32 a1_3, .string a1_4, .bool a1_5] 31 (0, 0)) := by rw [hW, hb]; exact blk_new w _
  have hWs : W.heap.size = w.heap.size + 1 := by rw [hW]; simp
  have HW := Lib.hid (And.intro hW (And.intro hb (And.intro hbw (And.intro hbx (And.intro hr0 hWs)))))
  clear hW hbw hbx hr0 hWs
  unfold chain_Put.f at h
  obtain ⟨r, h1, h⟩ := Option.bind_eq_some_iff.1 h
  have HR1 := Lib.hid h1
  clear h1
  go_enter Try.func17, Try.ntmps17
  go_wp2_with fail
  rw [← HW.out.1]
  simp only [← HW.out.2.1]
  clear hb
  refine (chain_Right.calls k A0 c0 l0 r W (Kd.C_below HW.out.2.2.2.2.1 HW.out.2.2.1) hc0 HR1.out).mono ?_
  rintro e W1 ⟨rfl, hb1⟩
  have HB1 : Hid (Below W.heap.size W W1) := Lib.hid hb1
  clear hb1
  have hbx1 : W1.heap[b]? = some (.cells #[.int .u64 a1_0, .int .u32 a1_1, .int .u32 a1_2, .int .u32 a1_3, .string a1_4, .bool a1_5] 31 (0, 0)) := (HB1.out.block _ (blk_lt HW.out.2.2.2.1)).trans HW.out.2.2.2.1
  have hk0 : W1.cell? ⟨b, 0, none⟩ = some (.int .u64 a1_0) := (blk_cell hbx1 0).trans rfl
  have hk1 : W1.cell? ⟨b, 1, none⟩ = some (.int .u32 a1_1) := (blk_cell hbx1 1).trans rfl
  have hk2 : W1.cell? ⟨b, 2, none⟩ = some (.int .u32 a1_2) := (blk_cell hbx1 2).trans rfl
  have hk3 : W1.cell? ⟨b, 3, none⟩ = some (.int .u32 a1_3) := (blk_cell hbx1 3).trans rfl
  have hk4 : W1.cell? ⟨b, 4, none⟩ = some (.string a1_4) := (blk_cell hbx1 4).trans rfl
  have hk5 : W1.cell? ⟨b, 5, none⟩ = some (.bool a1_5) := (blk_cell hbx1 5).trans rfl
  have HX1 := Lib.hid hbx1
  clear hbx1
  cases r with
  | false =>
    obtain ⟨rfl, rfl⟩ : [] = r1 ∧ 1 = r2 := by simpa using h
    go_wp2
    go_ret2
    exact ⟨_, rfl, Kd.R_nil _ _ _ _ _, HW.out.2.2.1.trans (HB1.out.mono HW.out.2.2.1.size)⟩
  | true =>
    rw [if_pos rfl] at h
    obtain ⟨ft, h2, h⟩ := Option.bind_eq_some_iff.1 h
    have HR2 := Lib.hid h2
    clear h2
    go_wp2_with fail
    refine (chain_fits.calls a1_0 a1_1 a1_2 a1_3 a1_4 a1_5 ft W1 HR2.out).mono ?_
    rintro e W2 ⟨rfl, hb2⟩
    have HB2 : Hid (Below W.heap.size W W2) := Lib.hid (HB1.out.trans (hb2.mono HB1.out.size))
    clear hb2
    cases ft with
    | false =>
      obtain ⟨rfl, rfl⟩ : [] = r1 ∧ 1 = r2 := by simpa using h
      go_wp2
      go_ret2
      exact ⟨_, rfl, Kd.R_nil _ _ _ _ _, HW.out.2.2.1.trans (HB2.out.mono HW.out.2.2.1.size)⟩
    | true =>
      rw [if_pos rfl] at h
      obtain ⟨iz, h3, h⟩ := Option.bind_eq_some_iff.1 h
      have HR3 := Lib.hid h3
      obtain ⟨i, rfl, hil, hl9⟩ : ∃ i : Nat, iz = (i : Int) ∧ i ≤ l0.length ∧ l0.length ≤ 1000000000 := by
        unfold chain_place.f at h3
        split at h3
        · rename_i hh
          exact ⟨_, (Option.some.inj h3).symm, List.countP_le_length, hh.1⟩
        · cases h3
      clear h3
      rw [Int.toNat_natCast] at h
      have hbx2 : W2.heap[b]? = some (.cells #[.int .u64 a1_0, .int .u32 a1_1, .int .u32 a1_2, .int .u32 a1_3, .string a1_4, .bool a1_5] 31 (0, 0)) := (HB2.out.block _ (blk_lt HW.out.2.2.2.1)).trans HW.out.2.2.2.1
      have hj0 : W2.cell? ⟨b, 0, none⟩ = some (.int .u64 a1_0) := (blk_cell hbx2 0).trans rfl
      have hj1 : W2.cell? ⟨b, 1, none⟩ = some (.int .u32 a1_1) := (blk_cell hbx2 1).trans rfl
      clear hbx2
      go_wp2_with fail
      refine (chain_place.calls k A0 c0 l0 a1_0 a1_1 i W2 (Kd.C_below HW.out.2.2.2.2.1 (HW.out.2.2.1.trans (HB2.out.mono HW.out.2.2.1.size))) hc0 HR3.out).mono ?_
      rintro e W3 ⟨rfl, hb3⟩
      have HB3 : Hid (Below W.heap.size W W3) := Lib.hid (HB2.out.trans (hb3.mono HB2.out.size))
      have HC3 : Hid (Kd.C k31 W3 A0 l0.length l0 ∧ Below w.heap.size w W3) := Lib.hid ⟨Kd.C_below HW.out.2.2.2.2.1 (HW.out.2.2.1.trans (HB3.out.mono HW.out.2.2.1.size)), HW.out.2.2.1.trans (HB3.out.mono HW.out.2.2.1.size)⟩
      clear hb3 hj0 hj1
      have hbx3 : W3.heap[b]? = some (.cells #[.int .u64 a1_0, .int .u32 a1_1, .int .u32 a1_2, .int .u32 a1_3, .string a1_4, .bool a1_5] 31 (0, 0)) := (HB3.out.block _ (blk_lt HW.out.2.2.2.1)).trans HW.out.2.2.2.1
      have hm0 : W3.cell? ⟨b, 0, none⟩ = some (.int .u64 a1_0) := (blk_cell hbx3 0).trans rfl
      have hm1 : W3.cell? ⟨b, 1, none⟩ = some (.int .u32 a1_1) := (blk_cell hbx3 1).trans rfl
      have hm2 : W3.cell? ⟨b, 2, none⟩ = some (.int .u32 a1_2) := (blk_cell hbx3 2).trans rfl
      have hm3 : W3.cell? ⟨b, 3, none⟩ = some (.int .u32 a1_3) := (blk_cell hbx3 3).trans rfl
      have hm4 : W3.cell? ⟨b, 4, none⟩ = some (.string a1_4) := (blk_cell hbx3 4).trans rfl
      have hm5 : W3.cell? ⟨b, 5, none⟩ = some (.bool a1_5) := (blk_cell hbx3 5).trans rfl
      have HX3 := Lib.hid hbx3
      clear hbx3 hk0 hk1 hk2 hk3 hk4 hk5
      unfold pl_put at h
      by_cases hi : i < l0.length
      · rw [List.getElem?_eq_getElem hi] at h
        dsimp only at h
        obtain ⟨ad, rfl, e0, e1, e2, e3, e4, e5⟩ := v_cells HC3.out.1 i hi
        have hz : (i : Int) < (l0.length : Int) := by omega
        have hq1 : pl_veq l0[i] a1_0 a1_1 a1_2 a1_3 a1_4 a1_5 = ((l0[i].f0.f0 == a1_0 && (l0[i].f0.f1 == a1_1)) && ((l0[i].f1.f0 == a1_2 && (l0[i].f1.f1 == a1_3)) && ((l0[i].f2.toList == a1_4.toList && (l0[i].f3 == a1_5))))) := rfl
        have hq2 : pl_ateq l0[i] a1_0 a1_1 = (l0[i].f0.f0 == a1_0 && (l0[i].f0.f1 == a1_1)) := rfl
        go_upto_region 4 with fail
        go_quiet (fail)
        rw [← hq1]
        cases hv : pl_veq l0[i] a1_0 a1_1 a1_2 a1_3 a1_4 a1_5 with
        | true =>
          rw [hv, if_pos rfl] at h
          obtain ⟨rfl, rfl⟩ : l0 = r1 ∧ 0 = r2 := by simpa using h
          clear hq1 hq2 hv
          go_wp2_with fail
          refine (api_Version_46.calls k (some ad) c0 l0 l0 _ (Kd.C_below HC3.out.1 (pw_below_drewN (Below.refl _ _) nq)) hc0 (by unfold api_Version_46.f; rw [if_pos hl9])).mono ?_
          rintro e W4 ⟨v4, rfl, o4, b4⟩
          have H4 : Hid (Kd.R k31 31 W4 w.heap.size (fun _ => True) v4 l0 ∧ Below w.heap.size w W4) := Lib.hid ⟨Kd.R_lower o4 HC3.out.2.size, (pw_below_drewN HC3.out.2 nq).trans (b4.mono HC3.out.2.size)⟩
          clear o4 b4
          go_wp2
          go_ret2
          exact ⟨_, rfl, H4.out⟩
        | false =>
          rw [hv, if_neg (by simp)] at h
          clear hq1 hv
          go_upto_region 6 with fail
          go_quiet (fail)
          rw [← hq2]
          cases hv2 : pl_ateq l0[i] a1_0 a1_1 with
          | true =>
            rw [hv2, if_pos rfl] at h
            obtain ⟨rfl, rfl⟩ : [] = r1 ∧ 40 = r2 := by simpa using h
            clear hq2 hv2
            go_wp2
            go_ret2
            exact ⟨_, rfl, Kd.R_nil _ _ _ _ _, by repeat (first | exact HC3.out.2 | apply below_drew | apply pw_below_drewN)⟩
          | false =>
            rw [hv2, if_neg (by simp)] at h
            clear hq2 hv2
            unfold pl_ins at h
            by_cases hm : 1000 ≤ l0.length
            · rw [if_pos hm] at h
              obtain ⟨rfl, rfl⟩ : [] = r1 ∧ 3 = r2 := by simpa using h
              have hmz : 1000 ≤ (l0.length : Int) := by omega
              go_wp2
              go_ret2
              exact ⟨_, rfl, Kd.R_nil _ _ _ _ _, by repeat (first | exact HC3.out.2 | apply below_drew | apply pw_below_drewN)⟩
            · rw [if_neg hm] at h
              obtain ⟨hr1, rfl⟩ : l0.take i ++ (⟨⟨a1_0, a1_1⟩, ⟨a1_2, a1_3⟩, a1_4, a1_5⟩ : S31) :: l0.drop i = r1 ∧ 0 = r2 := by simpa using h
              have hmz : ¬ (1000 ≤ (l0.length : Int)) := by omega
              have HRR := Lib.hid hr1
              clear hr1 h
              have HCl : Hid (api_Version_46.f k l0 = some l0) := Lib.hid (by unfold api_Version_46.f; rw [if_pos hl9])
              go_upto_region 10 with fail
              go_region_with (first
                | (go_at_call 46
                   refine (api_Version_46.calls k (some ad) c0 l0 l0 (W3.drewN _) (Kd.C_below HC3.out.1 (pw_below_drewN (Below.refl _ _) _)) hc0 HCl.out).mono ?_
                   rintro e W4 ⟨v4, rfl, o4, b4⟩
                   obtain ⟨A4, c4, rfl, _, _⟩ := Kd.R_reads o4
                   have tokA : True := trivial
                   have hx4 : W4.heap[b]? = some (.cells #[.int .u64 a1_0, .int .u32 a1_1, .int .u32 a1_2, .int .u32 a1_3, .string a1_4, .bool a1_5] 31 (0, 0)) := (b4.block b (blk_lt HX3.out)).trans HX3.out
                   have hn0 : W4.cell? ⟨b, 0, none⟩ = some (.int .u64 a1_0) := (blk_cell hx4 0).trans rfl
                   have hn1 : W4.cell? ⟨b, 1, none⟩ = some (.int .u32 a1_1) := (blk_cell hx4 1).trans rfl
                   have hn2 : W4.cell? ⟨b, 2, none⟩ = some (.int .u32 a1_2) := (blk_cell hx4 2).trans rfl
                   have hn3 : W4.cell? ⟨b, 3, none⟩ = some (.int .u32 a1_3) := (blk_cell hx4 3).trans rfl
                   have hn4 : W4.cell? ⟨b, 4, none⟩ = some (.string a1_4) := (blk_cell hx4 4).trans rfl
                   have hn5 : W4.cell? ⟨b, 5, none⟩ = some (.bool a1_5) := (blk_cell hx4 5).trans rfl
                   have H4 : Hid (Kd.R k31 31 W4 w.heap.size (fun _ => True) (.slice A4 l0.length c4) l0 ∧ Below w.heap.size w W4) := Lib.hid ⟨Kd.R_lower o4 HC3.out.2.size, (pw_below_drewN HC3.out.2 _).trans (b4.mono HC3.out.2.size)⟩
                   clear o4 b4 hx4)
                | (go_at_call 46
                   refine (api_Version_46.calls k (some ad) c0 l0 l0 ((W3.drewN _).alloc _) (Kd.C_below HC3.out.1 (below_alloc (pw_below_drewN (Below.refl _ _) _) _)) hc0 HCl.out).mono ?_
                   rintro e W4 ⟨v4, rfl, o4, b4⟩
                   obtain ⟨A4, c4, rfl, _, _⟩ := Kd.R_reads o4
                   have tokB : True := trivial
                   have hx4 : W4.heap[W3.heap.size]? = some (.cells #[.int .u64 a1_0, .int .u32 a1_1, .int .u32 a1_2, .int .u32 a1_3, .string a1_4, .bool a1_5] 31 (0, 0)) := (b4.block _ (by simp)).trans (blk_new (W3.drewN _) _)
                   have H4 : Hid (Kd.R k31 31 W4 (W3.heap.size + 1) (fun _ => True) (.slice A4 l0.length c4) l0 ∧ Below w.heap.size w W4 ∧ W4.heap[W3.heap.size]? = some (.cells #[.int .u64 a1_0, .int .u32 a1_1, .int .u32 a1_2, .int .u32 a1_3, .string a1_4, .bool a1_5] 31 (0, 0))) := Lib.hid ⟨Kd.R_lower o4 (by simp), (below_alloc (pw_below_drewN HC3.out.2 _) _).trans (b4.mono (by have := HC3.out.2.size; simp; omega)), hx4⟩
                   clear o4 b4 hx4)
                | (go_at_call 47
                   have _t := tokB
                   refine (ins_b a1_0 a1_1 a1_2 a1_3 a1_4 a1_5 H4.out.1 H4.out.2.1 H4.out.2.2 HC3.out.2.size i hil hl9).mono ?_
                   rw [HRR.out]
                   rintro e W5 ⟨v5, rfl, o5⟩
                   have H5 := Lib.hid o5
                   clear o5)
                | (go_at_call 47
                   have _t := tokA
                   refine (ins_a a1_0 a1_1 a1_2 a1_3 a1_4 a1_5 H4.out.1 H4.out.2 i hil hl9).mono ?_
                   rw [HRR.out]
                   rintro e W5 ⟨v5, rfl, o5⟩
                   have H5 := Lib.hid o5
                   clear o5))
              all_goals go_wp2
              all_goals go_ret2
              all_goals exact ⟨_, rfl, H5.out⟩
      · rw [List.getElem?_eq_none (by omega)] at h
        dsimp only at h
        have hz : ¬ ((i : Int) < (l0.length : Int)) := by omega
        go_upto_region 4 with fail
        go_quiet (fail)
        go_upto_region 6 with fail
        go_quiet (fail)
        unfold pl_ins at h
        by_cases hm : 1000 ≤ l0.length
        · rw [if_pos hm] at h
          obtain ⟨rfl, rfl⟩ : [] = r1 ∧ 3 = r2 := by simpa using h
          have hmz : 1000 ≤ (l0.length : Int) := by omega
          go_wp2
          go_ret2
          exact ⟨_, rfl, Kd.R_nil _ _ _ _ _, by repeat (first | exact HC3.out.2 | apply below_drew | apply pw_below_drewN)⟩
        · rw [if_neg hm] at h
          obtain ⟨hr1, rfl⟩ : l0.take i ++ (⟨⟨a1_0, a1_1⟩, ⟨a1_2, a1_3⟩, a1_4, a1_5⟩ : S31) :: l0.drop i = r1 ∧ 0 = r2 := by simpa using h
          have hmz : ¬ (1000 ≤ (l0.length : Int)) := by omega
          have HRR := Lib.hid hr1
          clear hr1 h
          have HCl : Hid (api_Version_46.f k l0 = some l0) := Lib.hid (by unfold api_Version_46.f; rw [if_pos hl9])
          go_upto_region 10 with fail
          go_region_with (first
            | (go_at_call 46
               refine (api_Version_46.calls k A0 c0 l0 l0 (W3.drewN _) (Kd.C_below HC3.out.1 (pw_below_drewN (Below.refl _ _) _)) hc0 HCl.out).mono ?_
               rintro e W4 ⟨v4, rfl, o4, b4⟩
               obtain ⟨A4, c4, rfl, _, _⟩ := Kd.R_reads o4
               have tokA : True := trivial
               have hx4 : W4.heap[b]? = some (.cells #[.int .u64 a1_0, .int .u32 a1_1, .int .u32 a1_2, .int .u32 a1_3, .string a1_4, .bool a1_5] 31 (0, 0)) := (b4.block b (blk_lt HX3.out)).trans HX3.out
               have hn0 : W4.cell? ⟨b, 0, none⟩ = some (.int .u64 a1_0) := (blk_cell hx4 0).trans rfl
               have hn1 : W4.cell? ⟨b, 1, none⟩ = some (.int .u32 a1_1) := (blk_cell hx4 1).trans rfl
               have hn2 : W4.cell? ⟨b, 2, none⟩ = some (.int .u32 a1_2) := (blk_cell hx4 2).trans rfl
               have hn3 : W4.cell? ⟨b, 3, none⟩ = some (.int .u32 a1_3) := (blk_cell hx4 3).trans rfl
               have hn4 : W4.cell? ⟨b, 4, none⟩ = some (.string a1_4) := (blk_cell hx4 4).trans rfl
               have hn5 : W4.cell? ⟨b, 5, none⟩ = some (.bool a1_5) := (blk_cell hx4 5).trans rfl
               have H4 : Hid (Kd.R k31 31 W4 w.heap.size (fun _ => True) (.slice A4 l0.length c4) l0 ∧ Below w.heap.size w W4) := Lib.hid ⟨Kd.R_lower o4 HC3.out.2.size, (pw_below_drewN HC3.out.2 _).trans (b4.mono HC3.out.2.size)⟩
               clear o4 b4 hx4)
            | (go_at_call 46
               refine (api_Version_46.calls k A0 c0 l0 l0 ((W3.drewN _).alloc _) (Kd.C_below HC3.out.1 (below_alloc (pw_below_drewN (Below.refl _ _) _) _)) hc0 HCl.out).mono ?_
               rintro e W4 ⟨v4, rfl, o4, b4⟩
               obtain ⟨A4, c4, rfl, _, _⟩ := Kd.R_reads o4
               have tokB : True := trivial
               have hx4 : W4.heap[W3.heap.size]? = some (.cells #[.int .u64 a1_0, .int .u32 a1_1, .int .u32 a1_2, .int .u32 a1_3, .string a1_4, .bool a1_5] 31 (0, 0)) := (b4.block _ (by simp)).trans (blk_new (W3.drewN _) _)
               have H4 : Hid (Kd.R k31 31 W4 (W3.heap.size + 1) (fun _ => True) (.slice A4 l0.length c4) l0 ∧ Below w.heap.size w W4 ∧ W4.heap[W3.heap.size]? = some (.cells #[.int .u64 a1_0, .int .u32 a1_1, .int .u32 a1_2, .int .u32 a1_3, .string a1_4, .bool a1_5] 31 (0, 0))) := Lib.hid ⟨Kd.R_lower o4 (by simp), (below_alloc (pw_below_drewN HC3.out.2 _) _).trans (b4.mono (by have := HC3.out.2.size; simp; omega)), hx4⟩
               clear o4 b4 hx4)
            | (go_at_call 47
               have _t := tokB
               refine (ins_b a1_0 a1_1 a1_2 a1_3 a1_4 a1_5 H4.out.1 H4.out.2.1 H4.out.2.2 HC3.out.2.size i hil hl9).mono ?_
               rw [HRR.out]
               rintro e W5 ⟨v5, rfl, o5⟩
               have H5 := Lib.hid o5
               clear o5)
            | (go_at_call 47
               have _t := tokA
               refine (ins_a a1_0 a1_1 a1_2 a1_3 a1_4 a1_5 H4.out.1 H4.out.2 i hil hl9).mono ?_
               rw [HRR.out]
               rintro e W5 ⟨v5, rfl, o5⟩
               have H5 := Lib.hid o5
               clear o5))
          all_goals go_wp2
          all_goals go_ret2
          all_goals exact ⟨_, rfl, H5.out⟩
theorem chain_Put.calls (k : Nat) (A0 : Option Addr) (c0 : Nat) (l0 : List (S31)) (a1_0 : Int) (a1_1 : Int) (a1_2 : Int) (a1_3 : Int) (a1_4 : ByteArray) (a1_5 : Bool) (r1 : List (S31)) (r2 : Int) (w : World) (hr0 : Kd.C k31 w A0 l0.length l0) (hc0 : l0.length ≤ c0) (h : chain_Put.f k l0 a1_0 a1_1 a1_2 a1_3 a1_4 a1_5 = some (r1, r2)) :
    Calls Try.prog 17 #[.slice A0 l0.length c0, .agg #[.int .u64 a1_0, .int .u32 a1_1, .int .u32 a1_2, .int .u32 a1_3, .string a1_4, .bool a1_5]] w fun e w' => ∃ v0_ : Value, e = .returned (.tuple #[v0_, .int .i64 r2]) ∧ Kd.R k31 31 w' w.heap.size (fun _ => True) v0_ r1 ∧ Below w.heap.size w w' := put_walk k A0 c0 l0 a1_0 a1_1 a1_2 a1_3 a1_4 a1_5 r1 r2 w hr0 hc0 h
theorem chain_Put.mono : ∀ a0 a1 a2 a3 a4 a5 a6 k, LeO (chain_Put.f k a0 a1 a2 a3 a4 a5 a6) (chain_Put.f (k + 1) a0 a1 a2 a3 a4 a5 a6) := by
  intro a0 a1 a2 a3 a4 a5 a6 k
  unfold chain_Put.f
  exact LeO.bind (chain_Right.mono _ _) (fun _ => LeO.ite (LeO.bind (LeO.refl _) (fun _ => LeO.ite (LeO.bind (chain_place.mono _ _ _ _) (fun _ => LeO.refl _)) (LeO.refl _))) (LeO.refl _))

-- NOT PRINTED: function 80 (api_Version_height)

-- NOT PRINTED: function 79 (api_Version_measure)

-- NOT PRINTED: function 81 (api_Version_turned)

-- NOT PRINTED: function 76 (api_Version_even)

-- NOT PRINTED: function 70 (api_Version_set)

-- NOT PRINTED: function 53 (api_Version_Set)

-- NOT PRINTED: function 33 (store_Store_Put)

-- NOT PRINTED: function 54 (api_Version_54)

-- NOT PRINTED: function 34 (store_New)

-- NOT PRINTED: function 26 (dovecotelaw09_awake)

-- NOT PRINTED: function 28 (store_Store_Items)

/-! ### dovecoteref09_Pairs: function 31 -/
def dovecoteref09_Pairs.l0 : Nat → List (S60) → List (S60) → Int → Option (Bool)
  | 0, _, _, _ => none
  | k + 1, x0, x1, x5 => if x5 < (x0.length : Int) then (if 0 ≤ x5 then (if x5 < (x1.length : Int) then (if (!((((rd_T60 x0 x5).f0).toList) == (((rd_T60 x1 x5).f0).toList)) || (!((((rd_T60 x0 x5).f1).toList) == (((rd_T60 x1 x5).f1).toList)))) = true then (some false) else (dovecoteref09_Pairs.l0 k x0 x1 (wrap64 (x5 + 1)))) else (none)) else (none)) else (some true)
def dovecoteref09_Pairs.f (k : Nat) (l0 : List (S60)) (l1 : List (S60)) : Option (Bool) := if (l0.length : Int) = (l1.length : Int) then (dovecoteref09_Pairs.l0 k l0 l1 0) else (some false)
theorem dovecoteref09_Pairs.mono_l : ∀ k, (∀ y0 y1 y2, LeO (dovecoteref09_Pairs.l0 k y0 y1 y2) (dovecoteref09_Pairs.l0 (k + 1) y0 y1 y2))
  | 0 => fun _ _ _ r h => by simp [dovecoteref09_Pairs.l0] at h
  | k + 1 => by
    have ih0 := dovecoteref09_Pairs.mono_l k
    · intro y0 y1 y2
      unfold dovecoteref09_Pairs.l0
      repeat' first
      | (with_reducible exact ih0 _ _ _)
      | (with_reducible exact LeO.refl _)
      | (with_reducible exact LeO.none _)
      | (with_reducible refine LeO.ite ?_ ?_)
      | (with_reducible refine LeO.bind ?_ (fun _ => ?_))
      | exact ih0 _ _ _
      | exact LeO.none _
      | refine LeO.ite ?_ ?_
      | refine LeO.bind ?_ (fun _ => ?_)
theorem dovecoteref09_Pairs.mono : ∀ a0 a1 k, LeO (dovecoteref09_Pairs.f k a0 a1) (dovecoteref09_Pairs.f (k + 1) a0 a1) := by
  intro a0 a1 k
  have ih0 := dovecoteref09_Pairs.mono_l k
  unfold dovecoteref09_Pairs.f
  repeat' first
      | (with_reducible exact ih0 _ _ _)
      | (with_reducible exact LeO.refl _)
      | (with_reducible exact LeO.none _)
      | (with_reducible refine LeO.ite ?_ ?_)
      | (with_reducible refine LeO.bind ?_ (fun _ => ?_))
      | exact ih0 _ _ _
      | exact LeO.none _
      | refine LeO.ite ?_ ?_
      | refine LeO.bind ?_ (fun _ => ?_)
set_option maxHeartbeats 8000000 in
set_option maxRecDepth 100000 in
theorem dovecoteref09_Pairs.calls (k : Nat) (A0 : Option Addr) (c0 : Nat) (l0 : List (S60)) (A1 : Option Addr) (c1 : Nat) (l1 : List (S60)) (r : Bool) (w : World) (hr0 : Kd.C k60 w A0 l0.length l0) (hc0 : l0.length ≤ c0) (hr1 : Kd.C k60 w A1 l1.length l1) (hc1 : l1.length ≤ c1) (h : dovecoteref09_Pairs.f k l0 l1 = some r) :
    Calls Try.prog 31 #[.slice A0 l0.length c0, .slice A1 l1.length c1] w fun e w' => e = .returned (.bool r) ∧ Drawn0 w w' := by
  have hu60 := Try.underlying60
  have HR0 := Aside0.mk hr0
  have HC0 := Aside0.mk hc0
  clear hr0 hc0
  have HR1 := Aside0.mk hr1
  have HC1 := Aside0.mk hc1
  clear hr1 hc1
  have H : (if (l0.length : Int) = (l1.length : Int) then (dovecoteref09_Pairs.l0 k l0 l1 0) else (some false)) = some r := h
  clear h
  by_cases c3 : (l0.length : Int) = (l1.length : Int)
  · rw [if_pos c3] at H
    have c3b0 : ((l0.length : Int) == (l1.length : Int)) = true := beq_iff_eq.mpr c3
    have c3b1 : ((l0.length : Int) != (l1.length : Int)) = false := bne_eq_false_iff_eq.mpr c3
    have c3b2 : (l0.length == l1.length) = true := by first | simpa using c3 | (simp at c3 ⊢; omega)
    clear c3
    have H' := Aside0.mk H
    clear H
    go_enter Try.func31, Try.ntmps31
    go_wp2
    repeat (go_quiet (fail); try go_wp2)
    go_loopg [5] k (fun kq v5 w' => ∃ (x5_1 : Int), v5 = .int .i64 x5_1 ∧ Aside0 (dovecoteref09_Pairs.l0 kq l0 l1 x5_1 = some r) ∧ Aside0 (kq ≤ k) ∧ Drawn0 w w')
    case atStart => exact ⟨(0), (by first | rfl | (simp; done) | (simp [*]; done)), H', ⟨Nat.le_refl _⟩, by repeat (first | exact Drawn0.refl _ | apply Drawn0.step)⟩
    case round =>
      clear H'
      try clear c1
      try clear p2
      try clear c3
      try clear c3b0
      try clear c3b1
      try clear c3b2
      obtain ⟨x5_1, rfl, HA, HK1, ⟨m1, rfl⟩⟩ := hrel
      cases gk with
      | zero => exact absurd HA.out (by simp [dovecoteref09_Pairs.l0])
      | succ k1 =>
        have H := HA.out
        clear HA
        simp only [dovecoteref09_Pairs.l0] at H
        by_cases c4 : x5_1 < (l0.length : Int)
        · rw [if_pos c4] at H
          have c4b0 : decide (x5_1 < (l0.length : Int)) = true := decide_eq_true c4
          clear c4
          by_cases c5 : 0 ≤ x5_1
          · rw [if_pos c5] at H
            have c5b0 : decide (0 ≤ x5_1) = true := decide_eq_true c5
            clear c5
            by_cases c6 : x5_1 < (l1.length : Int)
            · rw [if_pos c6] at H
              have c6b0 : decide (x5_1 < (l1.length : Int)) = true := decide_eq_true c6
              clear c6
              by_cases c7 : (!((((rd_T60 l0 x5_1).f0).toList) == (((rd_T60 l1 x5_1).f0).toList)) || (!((((rd_T60 l0 x5_1).f1).toList) == (((rd_T60 l1 x5_1).f1).toList)))) = true
              · rw [if_pos c7] at H
                have c7b0 : (!((((rd_T60 l0 x5_1).f0).toList) == (((rd_T60 l1 x5_1).f0).toList)) || (!((((rd_T60 l0 x5_1).f1).toList) == (((rd_T60 l1 x5_1).f1).toList)))) = true := c7
                clear c7
                obtain rfl := Option.some.inj H
                have p124 : 0 ≤ (x5_1 : Int) := of_decide_eq_true (by first | (with_reducible assumption) | assumption)
                have q124 : x5_1 < (l0.length : Int) := of_decide_eq_true (by first | (with_reducible assumption) | assumption)
                obtain ⟨ad124, e124, hx124_0, hx124_1⟩ := at_T60 HR0.out x5_1 p124 q124
                cases e124
                replace p124 := eq_true p124
                replace q124 := eq_true q124
                have p125 : 0 ≤ (x5_1 : Int) := of_decide_eq_true (by first | (with_reducible assumption) | assumption)
                have q125 : x5_1 < (l1.length : Int) := of_decide_eq_true (by first | (with_reducible assumption) | assumption)
                obtain ⟨ad125, e125, hx125_0, hx125_1⟩ := at_T60 HR1.out x5_1 p125 q125
                cases e125
                replace p125 := eq_true p125
                replace q125 := eq_true q125
                go_wp2
                repeat (go_quiet (fail); try go_wp2)
                go_ret
                exact ⟨by first | rfl | (simp; done) | (simp [*]; done), by repeat (first | exact Drawn0.refl _ | apply Drawn0.step)⟩
              · rw [if_neg c7] at H
                have c7b0 : (!((((rd_T60 l0 x5_1).f0).toList) == (((rd_T60 l1 x5_1).f0).toList)) || (!((((rd_T60 l0 x5_1).f1).toList) == (((rd_T60 l1 x5_1).f1).toList)))) = false := by simpa using c7
                clear c7
                have H' := Aside0.mk H
                clear H
                have p124 : 0 ≤ (x5_1 : Int) := of_decide_eq_true (by first | (with_reducible assumption) | assumption)
                have q124 : x5_1 < (l0.length : Int) := of_decide_eq_true (by first | (with_reducible assumption) | assumption)
                obtain ⟨ad124, e124, hx124_0, hx124_1⟩ := at_T60 HR0.out x5_1 p124 q124
                cases e124
                replace p124 := eq_true p124
                replace q124 := eq_true q124
                have p125 : 0 ≤ (x5_1 : Int) := of_decide_eq_true (by first | (with_reducible assumption) | assumption)
                have q125 : x5_1 < (l1.length : Int) := of_decide_eq_true (by first | (with_reducible assumption) | assumption)
                obtain ⟨ad125, e125, hx125_0, hx125_1⟩ := at_T60 HR1.out x5_1 p125 q125
                cases e125
                replace p125 := eq_true p125
                replace q125 := eq_true q125
                go_wp2
                repeat (go_quiet (fail); try go_wp2)
                go_roundg k1
                case measure => have := HK1.out; omega
                case rel => exact ⟨(wrap64 (x5_1 + 1)), (by first | rfl | (simp; done) | (simp [*]; done)), H', ⟨by have := HK1.out; omega⟩, by repeat (first | exact Drawn0.refl _ | apply Drawn0.step)⟩
            · rw [if_neg c6] at H
              exact absurd H (by simp)
          · rw [if_neg c5] at H
            exact absurd H (by simp)
        · rw [if_neg c4] at H
          have c4b0 : decide (x5_1 < (l0.length : Int)) = false := decide_eq_false c4
          clear c4
          obtain rfl := Option.some.inj H
          go_wp2
          repeat (go_quiet (fail); try go_wp2)
          go_ret
          exact ⟨by first | rfl | (simp; done) | (simp [*]; done), by repeat (first | exact Drawn0.refl _ | apply Drawn0.step)⟩
  · rw [if_neg c3] at H
    have c3b0 : ((l0.length : Int) == (l1.length : Int)) = false := beq_eq_false_iff_ne.mpr c3
    have c3b1 : ((l0.length : Int) != (l1.length : Int)) = true := bne_iff_ne.mpr c3
    have c3b2 : (l0.length == l1.length) = false := by first | simpa using c3 | (simp at c3 ⊢; omega)
    obtain rfl := Option.some.inj H
    go_enter Try.func31, Try.ntmps31
    go_wp2
    repeat (go_quiet (fail); try go_wp2)
    go_ret
    exact ⟨by first | rfl | (simp; done) | (simp [*]; done), by repeat (first | exact Drawn0.refl _ | apply Drawn0.step)⟩

/-! ### chain_Newest: function 23 -/
def chain_Newest.f (k : Nat) (l0 : List (S31)) : Option (Int × Int) := if (l0.length : Int) = 0 then (some (0, 0)) else ((chain_Right.f k l0).bind fun t127 => (if t127 = true then (if 0 < (l0.length : Int) then (some ((rd_T31 l0 0).f0.f0, (rd_T31 l0 0).f0.f1)) else (none)) else (some (0, 0))))
theorem chain_Newest.mono : ∀ a0 k, LeO (chain_Newest.f k a0) (chain_Newest.f (k + 1) a0) := by
  intro a0 k
  unfold chain_Newest.f
  repeat' first
      | (with_reducible exact chain_Right.mono _ _)
      | (with_reducible exact LeO.refl _)
      | (with_reducible exact LeO.none _)
      | (with_reducible refine LeO.ite ?_ ?_)
      | (with_reducible refine LeO.bind ?_ (fun _ => ?_))
      | exact chain_Right.mono _ _
      | exact LeO.none _
      | refine LeO.ite ?_ ?_
      | refine LeO.bind ?_ (fun _ => ?_)
set_option maxHeartbeats 8000000 in
set_option maxRecDepth 100000 in
theorem chain_Newest.calls (k : Nat) (A0 : Option Addr) (c0 : Nat) (l0 : List (S31)) (r1 : Int) (r2 : Int) (w : World) (hr0 : Kd.C k31 w A0 l0.length l0) (hc0 : l0.length ≤ c0) (h : chain_Newest.f k l0 = some (r1, r2)) :
    Calls Try.prog 23 #[.slice A0 l0.length c0] w fun e w' => e = .returned (.agg #[.int .u64 r1, .int .u32 r2]) ∧ Below w.heap.size w w' := by
  have hu27 := Try.underlying27
  have HR0 := Aside0.mk hr0
  have HC0 := Aside0.mk hc0
  clear hr0 hc0
  have HB := Aside0.mk (Below.refl w.heap.size w)
  have H : (if (l0.length : Int) = 0 then (some (0, 0)) else ((chain_Right.f k l0).bind fun t127 => (if t127 = true then (if 0 < (l0.length : Int) then (some ((rd_T31 l0 0).f0.f0, (rd_T31 l0 0).f0.f1)) else (none)) else (some (0, 0))))) = some (r1, r2) := h
  clear h
  by_cases c2 : (l0.length : Int) = 0
  · rw [if_pos c2] at H
    have c2b0 : ((l0.length : Int) == 0) = true := beq_iff_eq.mpr c2
    have c2b1 : ((l0.length : Int) != 0) = false := bne_eq_false_iff_eq.mpr c2
    clear c2
    simp only [Option.some.injEq, Prod.mk.injEq] at H
    obtain ⟨rfl, rfl⟩ := H
    go_enter Try.func23, Try.ntmps23
    go_wp2_with (first | ((with_reducible refine gate_dst (N := 2) rfl ?_); refine box_event ?hg (N := 2) ?hd (cs := #[.int .u64 0, .int .u32 0]) (t := 27) ?hr ?_; (case hd => rfl); (case hg => rfl); (case hr => first | (go_simp; done) | (go_simp; rfl)); intro gb126 hg w3 hbox hb; have n0_ := Aside0.mk (below_step (by repeat (first | (with_reducible first | exact HB.out | apply below_alloc | apply pw_below_drewN | apply below_drew1) | exact HB.out)) hb); have n1_ := Aside0.mk (hbox); have n2_ := Aside0.mk ((by rw [hg]; exact (below_size (by repeat (first | (with_reducible first | exact HB.out | apply below_alloc | apply pw_below_drewN | apply below_drew1) | exact HB.out))) : w.heap.size ≤ gb126)); have n3_ := Aside0.mk ((by rw [hg]; exact (below_size (by repeat (first | (with_reducible first | exact HB.out | apply below_alloc | apply pw_below_drewN | apply below_drew1) | exact HB.out))) : w.heap.size ≤ gb126)); clear HB; have HB := n0_; have BK126 := n1_; have GW126 := n2_; have GE126 := n3_; clear n0_ n1_ n2_ n3_; clear hb hbox hg; have hcz4_0 : w3.cell? ⟨gb126, 0, none⟩ = some (.int .u64 0) := (blk_cell BK126.out 0).trans rfl; have hcz4_1 : w3.cell? ⟨gb126, 1, none⟩ = some (.int .u32 0) := (blk_cell BK126.out 1).trans rfl; have hfz4_0 := blk_frozen BK126.out 0; have hfz4_1 := blk_frozen BK126.out 1))
    refine bodyPost_ret (results_cell_row rfl _ _ gb126 27 #[.int .u64 0, .int .u32 0] (0, 0) _ rfl (by (with_reducible repeat (first | refine blk_drewN ?_ _ | refine blk_drew ?_ | refine blk_alloc ?_ _)); refine blk_put (cs := #[.int .u64 0, .int .u32 0]) ?_ 1 _ rfl; (with_reducible repeat (first | refine blk_drewN ?_ _ | refine blk_drew ?_ | refine blk_alloc ?_ _)); refine blk_put (cs := #[.int .u64 0, .int .u32 0]) ?_ 0 _ rfl; (with_reducible repeat (first | refine blk_drewN ?_ _ | refine blk_drew ?_ | refine blk_alloc ?_ _)); exact BK126.out) Try.underlying27 rfl (by kernel_rfl)) rfl ?_
    exact ⟨by first | rfl | (simp [errW_none, errW_some] <;> rfl) | (simp [*, errW_none, errW_some] <;> rfl), by repeat (first | (with_reducible first | exact HB.out | apply below_alloc | apply pw_below_drewN | apply below_drew1 | refine below_set ?_ GE126.out) | exact HB.out)⟩
  · rw [if_neg c2] at H
    have c2b0 : ((l0.length : Int) == 0) = false := beq_eq_false_iff_ne.mpr c2
    have c2b1 : ((l0.length : Int) != 0) = true := bne_iff_ne.mpr c2
    have c2b2 : ¬ (l0 = []) := fun h_ => c2 (by rw [h_]; rfl)
    replace H := Option.bind_eq_some_iff.mp H
    obtain ⟨t127, A50, H⟩ := H
    replace H : (if t127 = true then (if 0 < (l0.length : Int) then (some ((rd_T31 l0 0).f0.f0, (rd_T31 l0 0).f0.f1)) else (none)) else (some (0, 0))) = some (r1, r2) := H
    have A5 := Aside0.mk A50
    clear A50
    by_cases c6 : t127 = true
    · subst c6
      have H1 : (if 0 < (l0.length : Int) then (some ((rd_T31 l0 0).f0.f0, (rd_T31 l0 0).f0.f1)) else (none)) = some (r1, r2) := by rw [if_pos rfl] at H; exact H
      clear H
      have H := H1
      clear H1
      by_cases c7 : 0 < (l0.length : Int)
      · rw [if_pos c7] at H
        have c7b0 : decide (0 < (l0.length : Int)) = true := decide_eq_true c7
        have c7b1 : decide (0 < l0.length) = true := decide_eq_true (by omega)
        clear c7
        simp only [Option.some.injEq, Prod.mk.injEq] at H
        obtain ⟨rfl, rfl⟩ := H
        go_enter Try.func23, Try.ntmps23
        go_wp2_with (first | ((with_reducible refine gate_dst (N := 2) rfl ?_); refine box_event ?hg (N := 2) ?hd (cs := #[.int .u64 0, .int .u32 0]) (t := 27) ?hr ?_; (case hd => rfl); (case hg => rfl); (case hr => first | (go_simp; done) | (go_simp; rfl)); intro gb126 hg w8 hbox hb; have n0_ := Aside0.mk (below_step (by repeat (first | (with_reducible first | exact HB.out | apply below_alloc | apply pw_below_drewN | apply below_drew1) | exact HB.out)) hb); have n1_ := Aside0.mk (hbox); have n2_ := Aside0.mk ((by rw [hg]; exact (below_size (by repeat (first | (with_reducible first | exact HB.out | apply below_alloc | apply pw_below_drewN | apply below_drew1) | exact HB.out))) : w.heap.size ≤ gb126)); have n3_ := Aside0.mk ((by rw [hg]; exact (below_size (by repeat (first | (with_reducible first | exact HB.out | apply below_alloc | apply pw_below_drewN | apply below_drew1) | exact HB.out))) : w.heap.size ≤ gb126)); clear HB; have HB := n0_; have BK126 := n1_; have GW126 := n2_; have GE126 := n3_; clear n0_ n1_ n2_ n3_; clear hb hbox hg) | (go_at_call 19; (with_reducible refine (chain_Right.calls k _ _ l0 true _ ?side1 ?side2 A5.out).mono ?_); (case side1 => repeat (first | exact (Kd.C_below HR0.out HB.out) | (with_reducible refine Kd.C_alloc ?_ _) | (with_reducible refine Kd.C_drewN ?_ _) | (with_reducible refine Kd.C_drew ?_))); (case side2 => exact HC0.out); rintro e w9 ⟨rfl, hb⟩; have n0_ := Aside0.mk (blk_below (g := gb126) (o := .cells #[.int .u64 0, .int .u32 0] 27 (0, 0)) (by (with_reducible repeat (first | refine blk_drewN ?_ _ | refine blk_drew ?_ | refine blk_alloc ?_ _)); exact BK126.out) hb); have n1_ := Aside0.mk (below_step (by repeat (first | (with_reducible first | exact HB.out | apply below_alloc | apply pw_below_drewN | apply below_drew1 | refine below_set ?_ GE126.out) | exact HB.out)) hb); clear BK126; clear HB; have BK126 := n0_; have HB := n1_; clear n0_ n1_; (try clear hb); (try clear hb2); (try clear hk); (try clear hi); have p128 : 0 ≤ (0 : Int) := (by omega); have q128 : 0 < (l0.length : Int) := of_decide_eq_true (by first | (with_reducible assumption) | assumption); obtain ⟨ad128, e128, hx128_0, hx128_1, hx128_2, hx128_3, hx128_4, hx128_5⟩ := at_T31 HR0.out 0 p128 q128; cases e128; have qi128 : (0 < l0.length) = True := eq_true (by omega); (try rw [show ((0 : Int)).toNat = 0 from rfl] at hx128_0); (try rw [show 0 * 6 = 0 from rfl] at hx128_0); (try rw [Addr.add_zero'] at hx128_0); (try rw [show ((0 : Int)).toNat = 0 from rfl] at hx128_1); (try rw [show 0 * 6 = 0 from rfl] at hx128_1); (try rw [Addr.add_zero'] at hx128_1); (try rw [show ((0 : Int)).toNat = 0 from rfl] at hx128_2); (try rw [show 0 * 6 = 0 from rfl] at hx128_2); (try rw [Addr.add_zero'] at hx128_2); (try rw [show ((0 : Int)).toNat = 0 from rfl] at hx128_3); (try rw [show 0 * 6 = 0 from rfl] at hx128_3); (try rw [Addr.add_zero'] at hx128_3); (try rw [show ((0 : Int)).toNat = 0 from rfl] at hx128_4); (try rw [show 0 * 6 = 0 from rfl] at hx128_4); (try rw [Addr.add_zero'] at hx128_4); (try rw [show ((0 : Int)).toNat = 0 from rfl] at hx128_5); (try rw [show 0 * 6 = 0 from rfl] at hx128_5); (try rw [Addr.add_zero'] at hx128_5); replace hx128_0 := (HB.out.cell (World.block_lt_of_cell? w _ hx128_0)).trans hx128_0; replace hx128_1 := (HB.out.cell (World.block_lt_of_cell? w _ hx128_1)).trans hx128_1; replace hx128_2 := (HB.out.cell (World.block_lt_of_cell? w _ hx128_2)).trans hx128_2; replace hx128_3 := (HB.out.cell (World.block_lt_of_cell? w _ hx128_3)).trans hx128_3; replace hx128_4 := (HB.out.cell (World.block_lt_of_cell? w _ hx128_4)).trans hx128_4; replace hx128_5 := (HB.out.cell (World.block_lt_of_cell? w _ hx128_5)).trans hx128_5; replace p128 := eq_true p128; replace q128 := eq_true q128; have hcz10_0 : w9.cell? ⟨gb126, 0, none⟩ = some (.int .u64 0) := (blk_cell BK126.out 0).trans rfl; have hcz10_1 : w9.cell? ⟨gb126, 1, none⟩ = some (.int .u32 0) := (blk_cell BK126.out 1).trans rfl; have hfz10_0 := blk_frozen BK126.out 0; have hfz10_1 := blk_frozen BK126.out 1))
        refine bodyPost_ret (results_cell_row rfl _ _ gb126 27 #[.int .u64 ((rd_T31 l0 0).f0.f0), .int .u32 ((rd_T31 l0 0).f0.f1)] (0, 0) _ rfl (by (with_reducible repeat (first | refine blk_drewN ?_ _ | refine blk_drew ?_ | refine blk_alloc ?_ _)); refine blk_put (cs := #[.int .u64 ((rd_T31 l0 0).f0.f0), .int .u32 0]) ?_ 1 _ rfl; (with_reducible repeat (first | refine blk_drewN ?_ _ | refine blk_drew ?_ | refine blk_alloc ?_ _)); refine blk_put (cs := #[.int .u64 0, .int .u32 0]) ?_ 0 _ rfl; (with_reducible repeat (first | refine blk_drewN ?_ _ | refine blk_drew ?_ | refine blk_alloc ?_ _)); exact BK126.out) Try.underlying27 rfl (by kernel_rfl)) rfl ?_
        exact ⟨by first | rfl | (simp [errW_none, errW_some] <;> rfl) | (simp [*, errW_none, errW_some] <;> rfl), by repeat (first | (with_reducible first | exact HB.out | apply below_alloc | apply pw_below_drewN | apply below_drew1 | refine below_set ?_ GE126.out) | exact HB.out)⟩
      · rw [if_neg c7] at H
        exact absurd H (by simp)
    · replace c6 := Bool.eq_false_iff.mpr c6
      subst c6
      have H1 : (some (0, 0)) = some (r1, r2) := by rw [if_neg (show ¬ (false = true) by decide)] at H; exact H
      clear H
      have H := H1
      clear H1
      simp only [Option.some.injEq, Prod.mk.injEq] at H
      obtain ⟨rfl, rfl⟩ := H
      go_enter Try.func23, Try.ntmps23
      go_wp2_with (first | ((with_reducible refine gate_dst (N := 2) rfl ?_); refine box_event ?hg (N := 2) ?hd (cs := #[.int .u64 0, .int .u32 0]) (t := 27) ?hr ?_; (case hd => rfl); (case hg => rfl); (case hr => first | (go_simp; done) | (go_simp; rfl)); intro gb126 hg w11 hbox hb; have n0_ := Aside0.mk (below_step (by repeat (first | (with_reducible first | exact HB.out | apply below_alloc | apply pw_below_drewN | apply below_drew1) | exact HB.out)) hb); have n1_ := Aside0.mk (hbox); have n2_ := Aside0.mk ((by rw [hg]; exact (below_size (by repeat (first | (with_reducible first | exact HB.out | apply below_alloc | apply pw_below_drewN | apply below_drew1) | exact HB.out))) : w.heap.size ≤ gb126)); have n3_ := Aside0.mk ((by rw [hg]; exact (below_size (by repeat (first | (with_reducible first | exact HB.out | apply below_alloc | apply pw_below_drewN | apply below_drew1) | exact HB.out))) : w.heap.size ≤ gb126)); clear HB; have HB := n0_; have BK126 := n1_; have GW126 := n2_; have GE126 := n3_; clear n0_ n1_ n2_ n3_; clear hb hbox hg) | (go_at_call 19; (with_reducible refine (chain_Right.calls k _ _ l0 false _ ?side1 ?side2 A5.out).mono ?_); (case side1 => repeat (first | exact (Kd.C_below HR0.out HB.out) | (with_reducible refine Kd.C_alloc ?_ _) | (with_reducible refine Kd.C_drewN ?_ _) | (with_reducible refine Kd.C_drew ?_))); (case side2 => exact HC0.out); rintro e w12 ⟨rfl, hb⟩; have n0_ := Aside0.mk (blk_below (g := gb126) (o := .cells #[.int .u64 0, .int .u32 0] 27 (0, 0)) (by (with_reducible repeat (first | refine blk_drewN ?_ _ | refine blk_drew ?_ | refine blk_alloc ?_ _)); exact BK126.out) hb); have n1_ := Aside0.mk (below_step (by repeat (first | (with_reducible first | exact HB.out | apply below_alloc | apply pw_below_drewN | apply below_drew1 | refine below_set ?_ GE126.out) | exact HB.out)) hb); clear BK126; clear HB; have BK126 := n0_; have HB := n1_; clear n0_ n1_; (try clear hb); (try clear hb2); (try clear hk); (try clear hi); have hcz13_0 : w12.cell? ⟨gb126, 0, none⟩ = some (.int .u64 0) := (blk_cell BK126.out 0).trans rfl; have hcz13_1 : w12.cell? ⟨gb126, 1, none⟩ = some (.int .u32 0) := (blk_cell BK126.out 1).trans rfl; have hfz13_0 := blk_frozen BK126.out 0; have hfz13_1 := blk_frozen BK126.out 1))
      refine bodyPost_ret (results_cell_row rfl _ _ gb126 27 #[.int .u64 0, .int .u32 0] (0, 0) _ rfl (by (with_reducible repeat (first | refine blk_drewN ?_ _ | refine blk_drew ?_ | refine blk_alloc ?_ _)); refine blk_put (cs := #[.int .u64 0, .int .u32 0]) ?_ 1 _ rfl; (with_reducible repeat (first | refine blk_drewN ?_ _ | refine blk_drew ?_ | refine blk_alloc ?_ _)); refine blk_put (cs := #[.int .u64 0, .int .u32 0]) ?_ 0 _ rfl; (with_reducible repeat (first | refine blk_drewN ?_ _ | refine blk_drew ?_ | refine blk_alloc ?_ _)); exact BK126.out) Try.underlying27 rfl (by kernel_rfl)) rfl ?_
      exact ⟨by first | rfl | (simp [errW_none, errW_some] <;> rfl) | (simp [*, errW_none, errW_some] <;> rfl), by repeat (first | (with_reducible first | exact HB.out | apply below_alloc | apply pw_below_drewN | apply below_drew1 | refine below_set ?_ GE126.out) | exact HB.out)⟩

-- NOT PRINTED: function 32 (store_Store_Newest)

-- NOT PRINTED: function 35 (store_Store_Count)

end Go.Proofs.Ytomcjcoehahikaa.MStoreRuns
