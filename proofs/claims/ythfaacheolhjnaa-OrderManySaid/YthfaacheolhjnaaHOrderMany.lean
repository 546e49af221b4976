/- The law OrderMany walked by hand; a seat's own text. -/
import Derived.Test.YthfaacheolhjnaaOrdRef
import Derived.Test.YthfaacheolhjnaaPOrderRunsx1
import Derived.Test.YthfaacheolhjnaaPOrderManyx1
import Derived.Deep.LoopGhost
import Derived.Deep.Cut
import Derived.Lib.Hide
import Derived.StillTailTactics
import Derived.Deep.QuietTactic
import Derived.BigQuiet
import Derived.Outline
import Derived.Deep.RegionWith
import Derived.Deep.RegionHeld3
import Derived.WalkLawsBesides
import Derived.Maps.OwnSet
namespace Go.Proofs.Ythfaacheolhjnaa.Ord
open Go.RowKit Go.Proofs.YthfaacheolhjnaaW.PrintWords
set_option linter.unusedVariables false
set_option linter.unusedSimpArgs false
/-! a map of the call's own from texts to whole numbers, as a function -/
theorem cm_law : Go.Maps.Keyed Try.prog 9 := Go.Maps.string_keyed Try.underlying9
theorem cm_zero (w : World) : (zeroValue 3).run Try.prog w = .ok (.int .i64 0) w := by kernel_rfl
/-! the same, with which keys are there, and how many -/
def CX (w : World) (b n : Nat) (f : ByteArray → Option Int) (z : Nat) : Prop := ∃ D : DataW Unit, w.ownsMap Try.prog 9 (plainElem Try.prog 3) b n D ∧
  (∀ s : ByteArray, s.size ≤ maxLen → D.atKey (.string s.data.toList) (.lit (.int .i64 0)) = .lit (.int .i64 ((f s).getD 0)) ∧ Maps.has D (.string s.data.toList) = (f s).isSome) ∧ Maps.size D = z
def xput (f : ByteArray → Option Int) (s : ByteArray) (c : Option Int) : ByteArray → Option Int := fun x => if x.data.toList = s.data.toList then c else f x
theorem CX.made (w : World) : CX (w.alloc (.map #[] 0)) w.heap.size 0 (fun _ => none) 0 := ⟨.map [], World.ownsMap_made _ _ _ _, fun _ _ => ⟨rfl, rfl⟩, rfl⟩
theorem CX.mod {w w' : World} {b n z : Nat} {f : ByteArray → Option Int} {fp : List Nat} (h : CX w b n f z) (m : Mod w w' fp) (hb : b ∉ fp) : CX w' b n f z := by
  obtain ⟨D, ⟨es, clock, h1, h2⟩, h3⟩ := h
  exact ⟨D, ⟨es, clock, m.at_ h1 hb, h2⟩, h3⟩
theorem CX.lt {w : World} {b n z : Nat} {f : ByteArray → Option Int} (h : CX w b n f z) : b < w.heap.size := by
  obtain ⟨D, ⟨es, clock, h1, h2⟩, h3⟩ := h
  exact blk_lt h1
theorem CX.to {w : World} {b n z z' : Nat} {f f' : ByteArray → Option Int} (h : CX w b n f z) (hf : ∀ s, f' s = f s) (hz : z' = z) : CX w b n f' z' := by
  obtain ⟨D, h1, h2, h3⟩ := h
  exact ⟨D, h1, fun s hs => by rw [hf]; exact h2 s hs, by rw [hz]; exact h3⟩
theorem key_ok (s : ByteArray) : WideAt.IsKeyLit (.string s.data.toList) := trivial
section
variable {w : World} {ops : Array Oper} {rest : List Oper} {o : Oper} {a : Act} {Q : Exit → Act → World → Prop}
theorem cx_look (hg : o.guard = none) (m x : Operand) (hop : o.op = Op.lookup 43 m x true) (b n z : Nat) (f : ByteArray → Option Int) (hm : a.eval m = .map (some b)) (h : CX w b n f z) (s : ByteArray) (hx : a.eval x = .string s) (hs : s.size ≤ maxLen)
    (hK : wpList Try.prog ops Q rest (a.put o.dst (.tuple #[.int .i64 ((f s).getD 0), .bool (f s).isSome])) w) : wpList Try.prog ops Q (o :: rest) a w := by
  obtain ⟨D, h1, h2, h3⟩ := h
  refine wpList_lookup_own_ok_int w hg m x 43 hop 9 3 .i64 cm_law Try.underlying43 Try.underlying3 (cm_zero w) b n D hm h1 (.string s) (.string s.data.toList) hx (Go.WideMaps.keyOf_string_mk Try.underlying9 hs) ?_
  intro c hc _
  rw [(h2 s hs).1] at hc
  injection hc with hc
  injection hc with _ hc
  subst hc
  rw [(h2 s hs).2]
  exact hK
theorem cx_put (hg : o.guard = none) (m x v : Operand) (hop : o.op = Op.mapUpdate 43 m x v) (b n z : Nat) (f : ByteArray → Option Int) (hm : a.eval m = .map (some b)) (h : CX w b n f z) (hn : n < maxLen) (s : ByteArray) (hx : a.eval x = .string s) (hs : s.size ≤ maxLen) (c : Int) (hv : a.eval v = .int .i64 c) (hc : (Lit.int .i64 c).wf = true)
    (hK : ∀ w', CX w' b (n + 1) (xput f s (some c)) (if (f s).isSome then z else z + 1) → Mod w w' [b] → wpList Try.prog ops Q rest (a.put o.dst undef) w') : wpList Try.prog ops Q (o :: rest) a w := by
  obtain ⟨D, h1, h2, h3⟩ := h
  refine wpList_mapUpdate_own w hg m x v 43 hop 9 3 cm_law Try.underlying43 _ b n D hm h1 hn (.string s) (.int .i64 c) (.string s.data.toList) hx hv (Go.WideMaps.keyOf_string_mk Try.underlying9 hs) (.lit (.int .i64 c)) [] (plainElem_int Try.underlying3 hc) ?_
  intro w' hw hgr
  have ht := h1.tidy cm_law
  refine hK w' ⟨_, hw, fun x hx => ?_, ?_⟩ (mod_grown (Mod.refl w _) hgr (fun y hy => by simp_all))
  · unfold xput
    by_cases e : x.data.toList = s.data.toList
    · rw [if_pos e, e]
      exact ⟨Maps.atKey_put_same ht.isMap (key_ok s) _ _, Maps.has_put_same ht.isMap (key_ok s) _⟩
    · rw [if_neg e, Maps.atKey_put_other (fun z => e (by injection z)), Maps.has_put_other (fun z => e (by injection z))]
      exact h2 x hx
  · rw [Maps.size_put ht, (h2 s hs).2, h3]
theorem cx_del (hg : o.guard = none) (m x : Operand) (hop : o.op = Op.call { callee := Callee.builtin Builtin.delete, args := #[m, x], argTypes := #[43, 9] }) (b n z : Nat) (f : ByteArray → Option Int) (hm : a.eval m = .map (some b)) (h : CX w b n f z) (s : ByteArray) (hx : a.eval x = .string s) (hs : s.size ≤ maxLen)
    (hK : ∀ w', CX w' b n (xput f s none) (if (f s).isSome then z - 1 else z) → Mod w w' [b] → wpList Try.prog ops Q rest (a.put o.dst (.tuple #[])) w') : wpList Try.prog ops Q (o :: rest) a w := by
  obtain ⟨D, h1, h2, h3⟩ := h
  refine wpList_delete_own w hg m x 43 9 hop 3 cm_law Try.underlying43 _ b n D hm h1 (.string s) (.string s.data.toList) hx (Go.WideMaps.keyOf_string_mk Try.underlying9 hs) ?_
  intro w' hw htn
  have ht := h1.tidy cm_law
  refine hK w' ⟨_, hw, fun x hx => ?_, ?_⟩ (mod_grown (Mod.refl w _) htn.grown (fun y hy => by simp_all))
  · unfold xput
    by_cases e : x.data.toList = s.data.toList
    · rw [if_pos e, e]
      exact ⟨Maps.atKey_del_same _, Maps.has_del_same⟩
    · rw [if_neg e, Maps.atKey_del_other (fun z => e (by injection z)), Maps.has_del_other (fun z => e (by injection z))]
      exact h2 x hx
  · have := Maps.size_del (k := .string s.data.toList) ht
    rw [(h2 s hs).2, h3] at this
    split at this <;> split <;> first | omega | simp_all
theorem cx_len (hg : o.guard = none) (m : Operand) (hop : o.op = Op.call { callee := Callee.builtin Builtin.len, args := #[m], argTypes := #[43] }) (b n z : Nat) (f : ByteArray → Option Int) (hm : a.eval m = .map (some b)) (h : CX w b n f z)
    (hK : wpList Try.prog ops Q rest (a.put o.dst (.int .i64 z)) w) : wpList Try.prog ops Q (o :: rest) a w := by
  obtain ⟨D, h1, h2, h3⟩ := h
  refine wpList_len_own w hg m 43 hop 9 3 Try.underlying43 _ b n D hm h1 ?_
  rw [h3]
  exact hK
theorem cx_len_run (b n z : Nat) (f : ByteArray → Option Int) (h : CX w b n f z) (ty : TypeId) : (Builtin.len_ #[43] ty #[.map (some b)]).run Try.prog w = .ok (.int .i64 z) w := by
  obtain ⟨D, h1, h2, h3⟩ := h
  rw [h1.len Try.underlying43 ty, h3]
end
/-! what Get tells behind Set and Cut -/
theorem lget_none {r : List (ByteArray × Int)} {s : ByteArray} (h : ∀ p ∈ r, Tree.lt s p.1 = true) : lget r s = none := by
  cases r with
  | nil => rfl
  | cons p r =>
    obtain ⟨k, v⟩ := p
    have h1 := h (k, v) (by simp)
    simp only [lget]
    rw [lt_as h1, if_neg (by simp), if_neg (lt_ne h1)]
theorem lget_lset (L : List (ByteArray × Int)) (key : ByteArray) (x : Int) (s : ByteArray) : lget (lset L key x) s = if s.toList = key.toList then some x else lget L s := by
  induction L with
  | nil =>
    simp only [lset, lget]
    by_cases e : s.toList = key.toList
    · rw [lt_r e key, lt_irr, if_neg (by simp)]
    · split <;> simp [e]
  | cons p r ih =>
    obtain ⟨k, v⟩ := p
    simp only [lset]
    by_cases c : Tree.lt k key = true
    · rw [if_pos c]
      simp only [lget]
      rw [ih]
      by_cases e : s.toList = key.toList
      · rw [if_pos e, lt_r e k, if_pos c, if_pos e]
      · rw [if_neg e, if_neg e]
    · rw [if_neg c]
      by_cases d : key.toList = k.toList
      · rw [if_pos d]
        simp only [lget]
        by_cases e : s.toList = key.toList
        · rw [if_pos e, lt_r (e.trans d) k, lt_irr, if_neg (by simp), if_pos (e.trans d)]
        · rw [if_neg e]
          have e' : ¬ s.toList = k.toList := fun z => e (z.trans d.symm)
          rw [if_neg e', if_neg e']
      · rw [if_neg d]
        have hlt : Tree.lt key k = true := lt_tot (by simpa using c) (fun z => d z.symm)
        by_cases e : s.toList = key.toList
        · rw [if_pos e]
          rw [lget, lt_r e key, lt_irr, if_neg (by simp), if_pos e]
        · rw [if_neg e]
          rw [lget]
          by_cases f : Tree.lt key s = true
          · rw [if_pos f]
          · rw [if_neg f, if_neg e]
            have hs : Tree.lt s key = true := lt_tot (by simpa using f) (fun z => e z.symm)
            refine (?_ : lget ((k, v) :: r) s = none).symm
            have h2 := lt_tr hs hlt
            simp only [lget]
            rw [lt_as h2, if_neg (by simp), if_neg (lt_ne h2)]
theorem lget_lcut (L : List (ByteArray × Int)) (hL : Sorted L) (key : ByteArray) (s : ByteArray) : lget (lcut L key) s = if s.toList = key.toList then none else lget L s := by
  induction L with
  | nil => simp [lcut, lget]
  | cons p r ih =>
    obtain ⟨k, v⟩ := p
    have hr : Sorted r := (List.pairwise_cons.1 hL).2
    have hk : ∀ p ∈ r, Tree.lt k p.1 = true := (List.pairwise_cons.1 hL).1
    simp only [lcut]
    by_cases c : Tree.lt k key = true
    · rw [if_pos c]
      simp only [lget]
      rw [ih hr]
      by_cases e : s.toList = key.toList
      · rw [if_pos e, lt_r e k, if_pos c, if_pos e]
      · rw [if_neg e, if_neg e]
    · rw [if_neg c]
      by_cases d : key.toList = k.toList
      · rw [if_pos d]
        by_cases e : s.toList = key.toList
        · rw [if_pos e]
          exact lget_none (fun p hp => by rw [lt_l (e.trans d)]; exact hk p hp)
        · rw [if_neg e]
          simp only [lget]
          have e' : ¬ s.toList = k.toList := fun z => e (z.trans d.symm)
          by_cases f : Tree.lt k s = true
          · rw [if_pos f]
          · rw [if_neg f, if_neg e']
            have hs : Tree.lt s k = true := lt_tot (by simpa using f) (fun z => e' z.symm)
            exact lget_none (fun p hp => lt_tr hs (hk p hp))
      · rw [if_neg d]
        have hlt : Tree.lt key k = true := lt_tot (by simpa using c) (fun z => d z.symm)
        by_cases e : s.toList = key.toList
        · rw [if_pos e]
          refine lget_none (fun p hp => ?_)
          rw [lt_l e]
          rcases List.mem_cons.1 hp with rfl | hp
          · exact hlt
          · exact lt_tr hlt (hk p hp)
        · rw [if_neg e]
theorem lget_at {L : List (ByteArray × Int)} (hL : Sorted L) : ∀ (i : Nat) (h : i < L.length), lget L L[i].1 = some L[i].2 := by
  induction L with
  | nil => intro i h; simp at h
  | cons p r ih =>
    intro i h
    obtain ⟨k, v⟩ := p
    have hr : Sorted r := (List.pairwise_cons.1 hL).2
    have hk : ∀ p ∈ r, Tree.lt k p.1 = true := (List.pairwise_cons.1 hL).1
    cases i with
    | zero => simp only [lget, List.getElem_cons_zero]; rw [lt_irr, if_neg (by simp)]; simp
    | succ i =>
      simp only [lget, List.getElem_cons_succ]
      have hi : i < r.length := by simpa using h
      rw [if_pos (hk _ (List.getElem_mem hi))]
      exact ih hr i hi
theorem sorted_at {L : List (ByteArray × Int)} (hL : Sorted L) (i : Nat) (h : i + 1 < L.length) : Tree.lt (L[i]'(by omega)).1 L[i + 1].1 = true := List.pairwise_iff_getElem.1 hL i (i + 1) (by omega) h (by omega)
theorem lset_keys {L : List (ByteArray × Int)} {key : ByteArray} {x : Int} {n : Nat} (hL : ∀ p ∈ L, p.1.size ≤ n) (hk : key.size ≤ n) : ∀ p ∈ lset L key x, p.1.size ≤ n := by
  intro p hp
  rcases lset_mem hp with h | h
  · have : p.1.size = key.size := by
      have h2 := congrArg List.length h
      simpa [ByteArray.toList_eq] using h2
    omega
  · exact hL p h
theorem lcut_keys {L : List (ByteArray × Int)} {key : ByteArray} {n : Nat} (hL : ∀ p ∈ L, p.1.size ≤ n) : ∀ p ∈ lcut L key, p.1.size ≤ n := fun p hp => hL p ((lcut_sub L key).subset hp)
theorem Mod.of_below {W W' : World} (h : Below W.heap.size W W') : Mod W W' [] := ⟨h.os, h.tape, h.output, h.size, fun k hk _ => h.block k hk⟩
def KeyP (W : World) (e : Ending) (W' : World) : Prop := ∃ s : ByteArray, e = .returned (.string s) ∧ s.size ≤ 2 ∧ Mod W W' []
theorem key_calls (a : Int) {W : World} : Calls Try.prog 19 #[.int .u16 a] W (KeyP W) := by
  refine (POrderMany.dovecotelaw08_key.calls a _ W rfl).mono ?_
  rintro e W' ⟨rfl, hb⟩
  exact ⟨_, rfl, by simp [strOfNums, ByteArray.size], Mod.of_below hb⟩
/-- What a round of OrderMany holds: the map, and Go's own. -/
structure KM (w W : World) (g b : Nat) (L : List (ByteArray × Int)) (fp : List Nat) (n : Nat) : Prop where
  m : MapF W g L fp
  x : CX W b n (fun s => lget L s) L.length
  hb : b ∉ fp
  hw : w.heap.size ≤ b
  hfp : ∀ y ∈ fp, w.heap.size ≤ y
  k : Mod w W []
  sz : ∀ p ∈ L, p.1.size ≤ 2
theorem KM.mod {w W W' : World} {g b : Nat} {L : List (ByteArray × Int)} {fp : List Nat} {n : Nat} (h : KM w W g b L fp n) (m : Mod W W' []) : KM w W' g b L fp n :=
  ⟨h.m.mod m (by simp), h.x.mod m (by simp), h.hb, h.hw, h.hfp, h.k.trans m (by simp), h.sz⟩
theorem KM.step {w W W1 W2 : World} {g b : Nat} {L L' : List (ByteArray × Int)} {fp fp' : List Nat} {n n' : Nat} (h : KM w W g b L fp n) (p : MapF W1 g L' fp') (m1 : Mod W W1 fp) (b1 : ∀ y ∈ fp', y ∈ fp ∨ W.heap.size ≤ y)
    {f : ByteArray → Option Int} {z : Nat} (c : CX W2 b n' f z) (m : Mod W1 W2 [b]) (hf : ∀ s, lget L' s = f s) (hz : L'.length = z) (sz : ∀ p ∈ L', p.1.size ≤ 2) : KM w W2 g b L' fp' n' := by
  have hlt := h.x.lt
  have hb' : b ∉ fp' := fun hy => by
    rcases b1 b hy with hh | hh
    · exact h.hb hh
    · omega
  refine ⟨p.mod m (fun x hx hy => by rw [List.mem_singleton] at hy; subst hy; exact hb' hx), c.to hf hz, hb', h.hw, fun y hy => ?_, (h.k.trans m1 (fun y hy => .inr (h.hfp y hy))).trans m (fun y hy => by rw [List.mem_singleton] at hy; subst hy; exact .inr h.hw), sz⟩
  rcases b1 y hy with hh | hh
  · exact h.hfp y hh
  · have := h.k.size; omega
theorem xput_lset {L : List (ByteArray × Int)} {key : ByteArray} {x : Int} : ∀ s, lget (lset L key x) s = xput (fun s => lget L s) key (some x) s := by
  intro s
  rw [lget_lset]
  unfold xput
  simp only [ByteArray.toList_eq]
theorem xput_lcut {L : List (ByteArray × Int)} (hL : Sorted L) {key : ByteArray} : ∀ s, lget (lcut L key) s = xput (fun s => lget L s) key none s := by
  intro s
  rw [lget_lcut L hL]
  unfold xput
  simp only [ByteArray.toList_eq]
theorem tl0 : (⟨#[]⟩ : ByteArray).toList = [] := by rw [ByteArray.toList_eq]
theorem lt_nil (k : ByteArray) : Tree.lt ⟨#[]⟩ k = true ∨ (⟨#[]⟩ : ByteArray).toList = k.toList := by
  rw [tl0]
  cases h : k.toList with
  | nil => exact .inr rfl
  | cons a b => left; simp [Tree.lt, tl0, h, Op.bytesLess]
theorem rangeL_all2 (L : List (ByteArray × Int)) : rangeL L ⟨#[]⟩ ⟨#[]⟩ = L.map Prod.fst := by
  rw [rangeL, List.filter_eq_self]
  intro k _
  exact decide_eq_true ⟨lt_nil k, .inl tl0⟩
theorem u16_cells {w : World} {A : Option Addr} {l : List Int} (h : Kd.C (Kd.int .u16) w A l.length l) (j : Nat) (hj : j < l.length) : ∃ ad, A = some ad ∧ w.cell? (ad.add j) = some (.int .u16 l[j]) := by
  obtain ⟨ad, hA, hc⟩ := h.2.2 (by omega)
  obtain ⟨c, h1, h2, h3⟩ := hc j _ (List.getElem?_eq_getElem hj)
  obtain rfl : c = [.int .u16 l[j]] := h2
  refine ⟨ad, hA, ?_⟩
  have := h3 0 _ rfl
  simpa [Kd.int, Kd.scalar] using this
set_option maxRecDepth 100000 in
set_option maxHeartbeats 4000000 in
theorem many_calls (A : Option Addr) (c : Nat) (l : List Int) (a1 : Int) (w : World) (hr : Kd.C (Kd.int .u16) w A l.length l) (hc : l.length ≤ c) :
    Calls Try.prog 4 #[.slice A l.length c, .int .u16 a1] w (AwkP w) := by
  have HR := Lib.hid (And.intro hr hc)
  clear hr hc
  have hmm := @run_makeMap Try.prog
  go_enter Try.func4, Try.ntmps4
  go_wp2_with fail
  refine awake_calls.mono ?_
  rintro e W1 ⟨rfl, m1⟩
  have H1 := Lib.hid m1
  clear m1
  by_cases h200 : 2000 < l.length
  · have hz : 2000 < (l.length : Int) := by omega
    go_wp2
    go_ret
    exact ⟨rfl, H1.out⟩
  have hz : ¬ (2000 < (l.length : Int)) := by omega
  have H2 := Lib.hid h200
  clear h200
  go_wp2_with fail
  refine mnew.mono ?_
  rintro e W2 ⟨rfl, f2, m2⟩
  have hK : KM w (W2.alloc (.map #[] 0)) W1.heap.size W2.heap.size [] [W1.heap.size] 0 := by
    have hl := f2.lt W1.heap.size (by simp)
    have ma := (Mod.refl W2 []).alloc (.map #[] 0)
    refine ⟨f2.mod ma (by simp), CX.made W2, by simp; omega, (H1.out.trans m2 (by simp)).size, fun y hy => ?_, (H1.out.trans m2 (by simp)).trans ma (by simp), by simp⟩
    rw [List.mem_singleton] at hy; have := H1.out.size; omega
  have HK := Lib.hid hK
  clear f2 m2 hK
  generalize W1.heap.size = g at *
  go_wp2_with fail
  generalize W2.heap.size = b at *
  go_loopg [29] l.length (fun k i wr => ∃ (j : Nat) (L : List (ByteArray × Int)) (fp : List Nat) (n : Nat), j ≤ l.length ∧ k = l.length - j ∧ i = .int .i64 j ∧ n ≤ j ∧ L.length ≤ j ∧ KM w wr g b L fp n)
  case atStart => exact ⟨0, [], [g], 0, Nat.zero_le _, rfl, rfl, Nat.le_refl _, Nat.le_refl _, HK.out⟩
  case round =>
    obtain ⟨j, L, fp, n, hj, rfl, rfl, hn, hLj, hst⟩ := hrel
    have HT := Lib.hid (And.intro hst (And.intro hn hLj))
    clear hst hn hLj
    by_cases hjl : j < l.length
    · obtain ⟨ad, rfl, hcl⟩ := u16_cells (Kd.C_below HR.out.1 HT.out.1.k.bel) j hjl
      have hjz : (j : Int) < (l.length : Int) := by omega
      have hj2000 : j < 2000 := by have := H2.out; omega
      generalize l[j] = x at *
      go_wp2_with fail
      refine (key_calls x).mono ?_
      rintro e V1 ⟨s, rfl, hs, m1⟩
      have HV1 := Lib.hid (And.intro (HT.out.1.mod m1) hs)
      clear m1 hs
      go_wp2_with fail
      refine (mset s j HV1.out.1.m (by have := HT.out.2.2; omega)).mono ?_
      rintro e V2 ⟨rfl, fp2, p2, m2, b2⟩
      have HV2 := Lib.hid (And.intro p2 (And.intro m2 b2))
      have HC := Lib.hid (HV1.out.1.x.mod m2 HV1.out.1.hb)
      have HWF : Hid ((Lit.int .i64 (j : Int)).wf = true) := Lib.hid (WalkArith.wf_i64 (by omega))
      clear p2 m2 b2
      go_wp2_with (first
        | (at_mapUpdate; refine cx_put rfl _ _ _ rfl b n _ _ rfl HC.out (by have := HT.out.2; unfold maxLen; omega) s rfl (by have := HV1.out.2; unfold maxLen; omega) j rfl HWF.out ?_; intro V3 hcm3 hm3; have HN3 := Lib.hid (HV1.out.1.step HV2.out.1 HV2.out.2.1 HV2.out.2.2 hcm3 hm3 xput_lset (lset_length _ _ _) (lset_keys HV1.out.1.sz HV1.out.2)); clear hcm3 hm3)
        | fail)
      refine (key_calls _).mono ?_
      rintro e V4 ⟨s4, rfl, hs4, m4⟩
      have HV4 := Lib.hid (And.intro (HN3.out.mod m4) hs4)
      clear m4 hs4
      have HL4 : Hid ((lset L s j).length ≤ j + 1) := Lib.hid (by rw [lset_length]; have := HT.out.2.2; split <;> omega)
      generalize lset L s j = L4 at *
      by_cases h3 : j % 3 = 2
      · have h3z : (j : Int) % 3 = 2 := by omega
        go_wp2_with (first
          | (at_lookup; refine cx_look rfl _ _ rfl b (n + 1) _ _ rfl HV4.out.1.x s4 rfl (by have := HV4.out.2; unfold maxLen; omega) ?_)
          | fail)
        refine (mcut s4 HV4.out.1.m (by have := HL4.out; omega)).mono ?_
        rintro e V5 ⟨rfl, fp5, p5, m5, b5⟩
        have HV5 := Lib.hid (And.intro p5 (And.intro m5 (fun y hy => Or.inl (b5 y hy) : ∀ y ∈ fp5, y ∈ fp2 ∨ V4.heap.size ≤ y)))
        have HC5 := Lib.hid (HV4.out.1.x.mod m5 HV4.out.1.hb)
        clear p5 m5 b5
        go_wp2_with (first
          | (at_delete; refine cx_del rfl _ _ rfl b (n + 1) _ _ rfl HC5.out s4 rfl (by have := HV4.out.2; unfold maxLen; omega) ?_; intro V6 hcm6 hm6; have HN6 := Lib.hid (HV4.out.1.step HV5.out.1 HV5.out.2.1 HV5.out.2.2 hcm6 hm6 (xput_lcut HV4.out.1.m.sorted) (lcut_length _ _) (lcut_keys HV4.out.1.sz)); clear hcm6 hm6)
          | fail)
        go_roundg (l.length - (j + 1))
        case measure => omega
        case rel => exact ⟨j + 1, _, _, _, by omega, rfl, by rw [show ((j + 1 : Nat) : Int) = (j : Int) + 1 by omega], by have := HT.out.2.1; omega, by have := HL4.out; rw [lcut_length]; split <;> omega, HN6.out⟩
      · have h3z : ¬ ((j : Int) % 3 = 2) := by omega
        go_wp2
        go_roundg (l.length - (j + 1))
        case measure => omega
        case rel => exact ⟨j + 1, _, _, _, by omega, rfl, by rw [show ((j + 1 : Nat) : Int) = (j : Int) + 1 by omega], by have := HT.out.2.1; omega, HL4.out, HV4.out.1⟩
    · have hjz : ¬ ((j : Int) < (l.length : Int)) := by omega
      have HN : Hid (L.length ≤ 2000) := Lib.hid (by have := H2.out; have := HT.out.2.2; omega)
      have HKE : Hid ((rangeL L ⟨#[]⟩ ⟨#[]⟩).take (5000 : Int).toNat = L.map Prod.fst) := Lib.hid (by rw [rangeL_all2]; exact List.take_of_length_le (by rw [List.length_map]; have := HN.out; simp; omega))
      go_wp2_with fail
      refine (mkeys (W := wr) ⟨#[]⟩ ⟨#[]⟩ 5000 HT.out.1.m (by have := HN.out; omega)).mono ?_
      rw [HKE.out]
      rintro e V1 ⟨v1, rfl, o1, b1, m1⟩
      have hlen : (L.map Prod.fst).length = L.length := List.length_map _
      have HV1 := Lib.hid (And.intro (HT.out.1.mod m1) o1)
      obtain ⟨A5, c5, rfl, _, _⟩ := own_C o1
      rw [hlen]
      clear b1 m1 o1
      have hlr := fun ty => cx_len_run (w := V1) b n _ _ HV1.out.1.x ty
      go_wp2_with (first
        | (at_len; refine cx_len rfl _ rfl b n _ _ rfl HV1.out.1.x ?_)
        | fail)
      refine (mlen HV1.out.1.m).mono ?_
      rintro e V2 ⟨rfl, rfl⟩
      go_wp2_with (first
        | (at_len; refine cx_len rfl _ rfl b n _ _ rfl HV1.out.1.x ?_)
        | fail)
      go_loopg [80] L.length (fun k i wr => ∃ j : Nat, j ≤ L.length ∧ k = L.length - j ∧ i = .int .i64 j ∧ wr = V2)
      case atStart => exact ⟨0, Nat.zero_le _, rfl, rfl, rfl⟩
      case round =>
        obtain ⟨j2, hj2, rfl, rfl, rfl⟩ := hrel
        by_cases hjl2 : j2 < L.length
        · obtain ⟨q, c6, e6, hcell⟩ := own_cells HV1.out.2 (by rw [List.length_map]; omega)
          injection e6 with e7 _ e9
          subst e7
          subst e9
          have hjz2 : (j2 : Int) < (L.length : Int) := by omega
          have hck : wr.cell? ⟨q, j2, none⟩ = some (.string L[j2].1) := by have := hcell j2 (by rw [List.length_map]; exact hjl2); rw [List.getElem_map] at this; exact this
          have hsz : L[j2].1.size ≤ 2 := HV1.out.1.sz _ (List.getElem_mem _)
          have hg : lget L L[j2].1 = some L[j2].2 := lget_at HV1.out.1.m.sorted j2 hjl2
          have hw2 : IntKind.i64.wrap ((j2 : Int) + 1) = ((j2 + 1 : Nat) : Int) := by have := HN.out; unfold IntKind.wrap; simp [IntKind.signed, IntKind.bits]; omega
          cases j2 with
          | zero =>
            have HG := Lib.hid (And.intro hg hsz)
            clear hg hsz hcell
            go_wp2_with fail
            refine (mget _ HV1.out.1.m).mono ?_
            rw [HG.out.1]
            rintro e V3 ⟨rfl, rfl⟩
            simp only [getEnd]
            go_wp2_with (first
              | (at_lookup; refine cx_look rfl _ _ rfl b n _ _ rfl HV1.out.1.x _ rfl (by have := HG.out.2; unfold maxLen; omega) ?_; rw [HG.out.1]; simp only [Option.getD_some, Option.isSome_some])
              | fail)
            go_roundg (L.length - (0 + 1))
            case measure => omega
            case rel => exact ⟨0 + 1, by omega, rfl, rfl, rfl⟩
          | succ i =>
            have hcp : wr.cell? ⟨q, i, none⟩ = some (.string (L[i]'(by omega)).1) := by have := hcell i (by rw [List.length_map]; omega); rw [List.getElem_map] at this; exact this
            have hlt : Op.bytesLess (L[i]'(by omega)).1.toList L[i + 1].1.toList = true := sorted_at HV1.out.1.m.sorted i hjl2
            have HG := Lib.hid (And.intro hg hsz)
            clear hg hsz hcell
            have hw3 : IntKind.i64.wrap (i : Int) = (i : Int) := by have := HN.out; unfold IntKind.wrap; simp [IntKind.signed, IntKind.bits]; omega
            have hzi : (i : Int) < (L.length : Int) := by omega
            go_wp2_with fail
            refine (mget _ HV1.out.1.m).mono ?_
            rw [HG.out.1]
            rintro e V3 ⟨rfl, rfl⟩
            simp only [getEnd]
            go_wp2_with (first
              | (at_lookup; refine cx_look rfl _ _ rfl b n _ _ rfl HV1.out.1.x _ rfl (by have := HG.out.2; unfold maxLen; omega) ?_; rw [HG.out.1]; simp only [Option.getD_some, Option.isSome_some])
              | fail)
            go_roundg (L.length - (i + 1 + 1))
            case measure => omega
            case rel => exact ⟨i + 1 + 1, by omega, rfl, by have := HN.out; rw [show wrap64 ((i : Int) + 1 + 1) = ((i + 1 + 1 : Nat) : Int) by unfold wrap64; omega], rfl⟩
        · have hzz : ¬ ((j2 : Int) < (L.length : Int)) := by omega
          go_wp2
          go_ret
          exact ⟨rfl, HV1.out.1.k⟩
def dovecotelaw08_OrderMany.f (k : Nat) (l : List Int) (a1 : Int) : Option Bool := some true
theorem dovecotelaw08_OrderMany.calls (k : Nat) (A0 : Option Addr) (c0 : Nat) (l0 : List Int) (a1 : Int) (r : Bool) (w : World) (hr0 : Kd.C (Kd.int .u16) w A0 l0.length l0) (hc0 : l0.length ≤ c0) (h : dovecotelaw08_OrderMany.f k l0 a1 = some r) :
    Calls Try.prog 4 #[.slice A0 l0.length c0, .int .u16 a1] w fun e w' => e = .returned (.bool r) ∧ Below w.heap.size w w' := by
  obtain rfl : true = r := Option.some.inj h
  exact (many_calls A0 c0 l0 a1 w hr0 hc0).mono fun e w' ⟨h1, h2⟩ => ⟨h1, h2.bel⟩
end Go.Proofs.Ythfaacheolhjnaa.Ord
