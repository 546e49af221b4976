/- The law PostKeeps walked by hand; a seat's own text. -/
import Derived.Test.YtgkpljlcdopalaaPostBase
import Derived.Maps.OwnSet
import Derived.Maps.RangeWalk
import Derived.Sort.MapsRangeIn
namespace Go.Proofs.Ytgkpljlcdopalaa.Post
open Go.RowKit Go.Proofs.YtgkpljlcdopalaaW.PrintWords
set_option linter.unusedVariables false
set_option linter.unusedSimpArgs false
/-- What a law's call holds of its own post. -/
def Own (w W : World) (T : Nat) (g : Nat) (l : List ByteArray) (fp : List Nat) : Prop := PF T W g l fp ∧ (∀ x ∈ fp, w.heap.size ≤ x) ∧ Mod w W []
theorem Own.step {w W W' : World} {T g : Nat} {l l' : List ByteArray} {fp : List Nat} (h : Own w W T g l fp) (s : ∃ fp', PF T W' g l' fp' ∧ Mod W W' fp ∧ ∀ y ∈ fp', y ∈ fp ∨ W.heap.size ≤ y) : ∃ fp', Own w W' T g l' fp' := by
  obtain ⟨fp', f, m, b⟩ := s
  refine ⟨fp', f, fun x hx => ?_, h.2.2.trans m (fun y hy => .inr (h.2.1 y hy))⟩
  rcases b x hx with hh | hh
  · exact h.2.1 x hh
  · have := h.2.2.size; omega
theorem Own.mod {w W W' : World} {T g : Nat} {l : List ByteArray} {fp : List Nat} (h : Own w W T g l fp) (m : Mod W W' []) : Own w W' T g l fp := ⟨h.1.mod m (by simp), h.2.1, h.2.2.trans m (by simp)⟩
def AwkP (w : World) (e : Ending) (w' : World) : Prop := e = .returned (.bool true) ∧ Mod w w' []
set_option maxHeartbeats 1000000 in
theorem awake_calls {w : World} : Calls Try.prog 17 #[] w (AwkP w) := by
  go_enter Try.func17, Try.ntmps17
  go_wp2_with fail
  refine new_calls.mono ?_
  rintro e W1 ⟨rfl, f1, m1⟩
  have hO : Own w W1 70 w.heap.size [] [w.heap.size] := ⟨f1, by simp, m1⟩
  have O1 := Lib.hid hO
  clear f1 m1 hO
  generalize w.heap.size = g at *
  go_wp2_with fail
  refine (send_calls ⟨#[97]⟩ O1.out.1 (by simp)).mono ?_
  rintro e W2 ⟨rfl, h2⟩
  obtain ⟨fp2, hO2⟩ := O1.out.step h2
  have O2 : Hid (Own w W2 70 g [⟨#[97]⟩] fp2) := Lib.hid hO2
  clear h2 hO2
  go_wp2_with fail
  refine (send_calls ⟨#[98]⟩ O2.out.1 (by simp)).mono ?_
  rintro e W3 ⟨rfl, h3⟩
  obtain ⟨fp3, hO3⟩ := O2.out.step h3
  have O3 : Hid (Own w W3 70 g [⟨#[97]⟩, ⟨#[98]⟩] fp3) := Lib.hid hO3
  clear h3 hO3
  go_wp2_with fail
  refine (take_calls (-1) O3.out.1 (by simp)).mono ?_
  rintro e W4 ⟨rfl, h4⟩
  obtain ⟨fp4, hO4⟩ := O3.out.step h4
  have O4 : Hid (Own w W4 70 g [⟨#[97]⟩] fp4) := Lib.hid hO4
  have e4 : pat (-1) [⟨#[97]⟩, ⟨#[98]⟩] = ⟨#[98]⟩ := rfl
  rw [e4]
  clear h4 hO4 e4
  go_wp2_with fail
  refine (all_calls O4.out.1 (by simp)).mono ?_
  rintro e W5 ⟨A5, n5, c5, rfl, rfl, _, _, m5⟩
  have H5 := Lib.hid (O4.out.2.2.trans m5 (by simp))
  clear m5
  go_wp2
  go_ret
  exact ⟨rfl, H5.out⟩
theorem str_cells {w : World} {A : Option Addr} {l : List ByteArray} (h : Kd.C Kd.string w A l.length l) (j : Nat) (hj : j < l.length) : ∃ ad, A = some ad ∧ w.cell? (ad.add j) = some (.string l[j]) := by
  obtain ⟨ad, h1, h2⟩ := Kd.at_string h j (by omega) (by omega)
  refine ⟨ad, h1, ?_⟩
  have e : rdOf ByteArray.empty l (j : Int) = l[j] := by
    unfold rdOf
    rw [Int.toNat_natCast, List.getD_eq_getElem?_getD, List.getElem?_eq_getElem hj]; rfl
  rw [Int.toNat_natCast, e] at h2
  exact h2
/-! PostRuns -/
structure S45 where
  f0 : Int
  f1 : Int
  f2 : ByteArray
def k45 : Kd S45 := Kd.iso (Kd.pair (Kd.int .i64) (Kd.pair (Kd.int .i64) Kd.string)) (fun x : S45 => (x.f0, (x.f1, x.f2)))
theorem k45_open {w : World} {x : S45} {cs : List Value} (h : k45.K w x cs) : cs = [.int .i64 x.f0, .int .i64 x.f1, .string x.f2] := by
  obtain ⟨_, _, rfl, rfl, ⟨_, _, rfl, rfl, rfl⟩⟩ := h
  exact rfl
theorem add_add (ad : Addr) (n i : Nat) (hi : 0 < i) : ad.add (n + i) = ⟨(ad.add n).block, (ad.add n).off + i, none⟩ := by
  unfold Addr.add
  rw [if_neg (by omega)]
  split
  · subst n; simp
  · simp; omega
theorem act_cells {w : World} {A : Option Addr} {l : List S45} (h : Kd.C k45 w A l.length l) (j : Nat) (hj : j < l.length) : ∃ ad, A = some ad ∧ w.cell? (ad.add (j * 3)) = some (.int .i64 l[j].f0) ∧ w.cell? ⟨(ad.add (j * 3)).block, (ad.add (j * 3)).off + 1, none⟩ = some (.int .i64 l[j].f1) ∧ w.cell? ⟨(ad.add (j * 3)).block, (ad.add (j * 3)).off + 2, none⟩ = some (.string l[j].f2) := by
  obtain ⟨ad, hA, hc⟩ := h.2.2 (by omega)
  obtain ⟨c, h1, h2, h3⟩ := hc j _ (List.getElem?_eq_getElem hj)
  have e := k45_open h2
  subst e
  refine ⟨ad, hA, h3 0 _ rfl, ?_, ?_⟩
  · rw [← add_add ad (j * 3) 1 (by omega)]; exact h3 1 _ rfl
  · rw [← add_add ad (j * 3) 2 (by omega)]; exact h3 2 _ rfl
/-! a map of the call's own from texts to whole numbers, as a function -/
theorem cm_law : Go.Maps.Keyed Try.prog 9 := Go.Maps.string_keyed Try.underlying9
theorem cm_zero (w : World) : (zeroValue 3).run Try.prog w = .ok (.int .i64 0) w := by kernel_rfl
def CM (w : World) (b n : Nat) (f : ByteArray → Int) : Prop := ∃ D : DataW Unit, w.ownsMap Try.prog 9 (plainElem Try.prog 3) b n D ∧ ∀ s : ByteArray, s.size ≤ maxLen → D.atKey (.string s.data.toList) (.lit (.int .i64 0)) = .lit (.int .i64 (f s))
/-- The same, and which keys are there. -/
def CMH (w : World) (b n : Nat) (f : ByteArray → Int) (t : ByteArray → Bool) : Prop := ∃ D : DataW Unit, w.ownsMap Try.prog 9 (plainElem Try.prog 3) b n D ∧ ∀ s : ByteArray, s.size ≤ maxLen → D.atKey (.string s.data.toList) (.lit (.int .i64 0)) = .lit (.int .i64 (f s)) ∧ Maps.has D (.string s.data.toList) = t s
def fput (f : ByteArray → Int) (s : ByteArray) (c : Int) : ByteArray → Int := fun x => if x.data.toList = s.data.toList then c else f x
theorem CM.made (w : World) : CM (w.alloc (.map #[] 0)) w.heap.size 0 (fun _ => 0) := ⟨.map [], World.ownsMap_made _ _ _ _, fun _ _ => rfl⟩
theorem CM.mod {w w' : World} {b n : Nat} {f : ByteArray → Int} {fp : List Nat} (h : CM w b n f) (m : Mod w w' fp) (hb : b ∉ fp) : CM w' b n f := by
  obtain ⟨D, ⟨es, clock, h1, h2⟩, h3⟩ := h
  exact ⟨D, ⟨es, clock, m.at_ h1 hb, h2⟩, h3⟩
theorem CM.lt {w : World} {b n : Nat} {f : ByteArray → Int} (h : CM w b n f) : b < w.heap.size := by
  obtain ⟨D, ⟨es, clock, h1, h2⟩, h3⟩ := h
  exact blk_lt h1
theorem CM.mono {w : World} {b n m : Nat} {f : ByteArray → Int} (h : CM w b n f) (hn : n ≤ m) : CM w b m f := by
  obtain ⟨D, h1, h2⟩ := h
  exact ⟨D, h1.mono hn, h2⟩
section
variable {w : World} {ops : Array Oper} {rest : List Oper} {o : Oper} {a : Act} {Q : Exit → Act → World → Prop}
theorem cm_look (hg : o.guard = none) (m x : Operand) (hop : o.op = Op.lookup 50 m x false) (b n : Nat) (f : ByteArray → Int) (hm : a.eval m = .map (some b)) (h : CM w b n f) (s : ByteArray) (hx : a.eval x = .string s) (hs : s.size ≤ maxLen)
    (hK : wpList Try.prog ops Q rest (a.put o.dst (.int .i64 (f s))) w) : wpList Try.prog ops Q (o :: rest) a w := by
  obtain ⟨D, h1, h2⟩ := h
  refine wpList_lookup_own_int w hg m x 50 hop 9 3 .i64 cm_law Try.underlying50 Try.underlying3 (cm_zero w) b n D hm h1 (.string s) (.string s.data.toList) hx (Go.WideMaps.keyOf_string_mk Try.underlying9 hs) ?_
  intro c hc _
  rw [h2 s hs] at hc
  injection hc with hc
  injection hc with _ hc
  subst hc
  exact hK
theorem cm_put (hg : o.guard = none) (m x v : Operand) (hop : o.op = Op.mapUpdate 50 m x v) (b n : Nat) (f : ByteArray → Int) (hm : a.eval m = .map (some b)) (h : CM w b n f) (hn : n < maxLen) (s : ByteArray) (hx : a.eval x = .string s) (hs : s.size ≤ maxLen) (c : Int) (hv : a.eval v = .int .i64 c) (hc : (Lit.int .i64 c).wf = true)
    (hK : ∀ w', CM w' b (n + 1) (fput f s c) → Mod w w' [b] → wpList Try.prog ops Q rest (a.put o.dst undef) w') : wpList Try.prog ops Q (o :: rest) a w := by
  obtain ⟨D, h1, h2⟩ := h
  refine wpList_mapUpdate_own w hg m x v 50 hop 9 3 cm_law Try.underlying50 _ b n D hm h1 hn (.string s) (.int .i64 c) (.string s.data.toList) hx hv (Go.WideMaps.keyOf_string_mk Try.underlying9 hs) (.lit (.int .i64 c)) [] (plainElem_int Try.underlying3 hc) ?_
  intro w' hw hgr
  obtain ⟨es, hD, _, _⟩ := h1.entries cm_law
  refine hK w' ⟨_, hw, fun x hx => ?_⟩ (mod_grown (Mod.refl w _) hgr (fun y hy => by simp_all))
  unfold fput
  by_cases e : x.data.toList = s.data.toList
  · rw [if_pos e, e]
    exact Maps.atKey_put_same ⟨es, hD⟩ (show WideAt.IsKeyLit (.string s.data.toList) from trivial) _ _
  · rw [if_neg e, Maps.atKey_put_other (fun z => e (by injection z))]
    exact h2 x hx
end
theorem cm_run {w : World} {b n : Nat} {f : ByteArray → Int} (h : CM w b n f) (s : ByteArray) (hs : s.size ≤ maxLen) : (Instr.lookup 50 (.map (some b)) (.string s) false).run Try.prog w = .ok (.int .i64 (f s)) w := by
  obtain ⟨D, h1, h2⟩ := h
  obtain ⟨c, hrun, hat, _⟩ := h1.lookup_int cm_law Try.underlying50 Try.underlying3 (cm_zero w) (Go.WideMaps.keyOf_string_mk Try.underlying9 hs)
  rw [h2 s hs] at hat
  injection hat with hat
  injection hat with _ hat
  subst hat
  exact hrun
/-- A range over such a map: what is still to come is k entries; all of them hold what f says. -/
def CR (w : World) (b r n : Nat) (f : ByteArray → Int) (k : Nat) : Prop := ∃ (D : DataW Unit) (left : Lit → Bool), w.ranges Try.prog 9 (plainElem Try.prog 3) b r n D left k ∧ ∀ s : ByteArray, s.size ≤ maxLen → D.atKey (.string s.data.toList) (.lit (.int .i64 0)) = .lit (.int .i64 (f s))
theorem CR.mod {w w' : World} {b r n k : Nat} {f : ByteArray → Int} {fp : List Nat} (h : CR w b r n f k) (m : Mod w w' fp) (hb : b ∉ fp) (hr : r ∉ fp) : CR w' b r n f k := by
  obtain ⟨D, left, ⟨es, clock, since, seen, c0, h1, h2, h3, h4, h5, h6⟩, h7⟩ := h
  exact ⟨D, left, ⟨es, clock, since, seen, c0, m.at_ h1 hb, h2, h3, h4, m.at_ h5 hr, h6⟩, h7⟩
section
variable {w : World} {ops : Array Oper} {rest : List Oper} {o : Oper} {a : Act} {Q : Exit → Act → World → Prop}
theorem cm_range (hg : o.guard = none) (m : Operand) (hop : o.op = Op.range 50 m) (b n : Nat) (f : ByteArray → Int) (hm : a.eval m = .map (some b)) (h : CM w b n f)
    (hK : ∀ w' k, CR w' b w.heap.size n f k → Mod w w' [] → wpList Try.prog ops Q rest (a.put o.dst (.pointer (some ⟨w.heap.size, 0, none⟩))) w') : wpList Try.prog ops Q (o :: rest) a w := by
  obtain ⟨D, h1, h2⟩ := h
  refine wpList_range_own w hg m 50 hop 9 3 cm_law Try.underlying50 _ b n D hm h1 ?_
  intro w' hr hgr _
  exact hK w' _ ⟨D, _, hr, h2⟩ (mod_grown (Mod.refl w []) hgr (fun y hy => by cases hy))
theorem cm_next (hg : o.guard = none) (it : Operand) (hop : o.op = Op.next it false) (b r n k : Nat) (f : ByteArray → Int) (hit : a.eval it = .pointer (some ⟨r, 0, none⟩)) (h : CR w b r n f k)
    (hDone : wpList Try.prog ops Q rest (a.put o.dst (.tuple #[.bool false])) w)
    (hMore : ∀ (x : ByteArray) (w' : World) (k' : Nat), x.size ≤ maxLen → CR w' b r n f k' → k' < k → Mod w w' [r] → (Instr.entry (.pointer (some ⟨r, 0, none⟩))).run Try.prog w' = .ok (.tuple #[.string x, .int .i64 (f x)]) w' → wpList Try.prog ops Q rest (a.put o.dst (.tuple #[.bool true, .string x, .int .i64 (f x)])) w') :
    wpList Try.prog ops Q (o :: rest) a w := by
  obtain ⟨D, left, h1, h2⟩ := h
  refine wpList_next_ranges w hg it hop 9 cm_law (plainElem Try.prog 3) Value.string (Value.int .i64) (fun key kl hk => ?_) (fun v y hv => ?_) b r n D left k hit h1 (fun _ _ => hDone) ?_
  · obtain ⟨s, rfl, _⟩ := Go.WideMaps.string_of_keyOf Try.underlying9 hk
    exact ⟨s, rfl⟩
  · obtain ⟨c, rfl, _⟩ := plainElem_int_inv Try.underlying3 hv
    exact ⟨c, rfl⟩
  · intro x c kl y w' k' hk _ hv hat hr hlt hgr _ hen
    obtain ⟨s, e1, rfl, hs⟩ := Go.WideMaps.string_of_keyOf Try.underlying9 hk
    injection e1 with e1
    subst e1
    obtain ⟨c', e2, rfl, _⟩ := plainElem_int_inv Try.underlying3 hv
    injection e2 with _ e2
    subst e2
    have e3 : c = f x := by
      have := hat (.lit (.int .i64 0))
      rw [h2 x hs] at this
      injection this with this
      injection this with _ this
      exact this.symm
    subst e3
    exact hMore x w' k' hs ⟨D, _, hr, h2⟩ hlt (mod_grown (Mod.refl w _) hgr (fun y hy => by simp_all)) hen
end
/-! how often a text is on a list -/
def cnt (s : ByteArray) (L : List ByteArray) : Int := ((L.countP (fun x => x.data.toList == s.data.toList) : Nat) : Int)
theorem cnt_nonneg (s : ByteArray) (L : List ByteArray) : 0 ≤ cnt s L := Int.natCast_nonneg _
theorem cnt_le (s : ByteArray) (L : List ByteArray) : cnt s L ≤ L.length := by have := List.countP_le_length (p := fun x : ByteArray => x.data.toList == s.data.toList) (l := L); unfold cnt; omega
theorem cnt_append (s x : ByteArray) (L : List ByteArray) : cnt s (L ++ [x]) = cnt s L + (if s.data.toList = x.data.toList then 1 else 0) := by
  unfold cnt
  rw [List.countP_append, List.countP_cons, List.countP_nil]
  by_cases e : s.data.toList = x.data.toList
  · simp [e]
  · have e2 : (x.data.toList == s.data.toList) = false := beq_eq_false_iff_ne.2 (fun z => e z.symm)
    simp only [e2, if_neg e]
    simp
theorem cnt_cons (s x : ByteArray) (L : List ByteArray) : cnt s (x :: L) = cnt s L + (if s.data.toList = x.data.toList then 1 else 0) := by
  unfold cnt
  rw [List.countP_cons]
  by_cases e : s.data.toList = x.data.toList
  · simp [e]
  · have e2 : (x.data.toList == s.data.toList) = false := beq_eq_false_iff_ne.2 (fun z => e z.symm)
    simp only [e2, if_neg e]
    simp
theorem cnt_cut (s : ByteArray) (raw : Int) (L : List ByteArray) (h : 0 < L.length) : cnt s (pcut raw L) = cnt s L - (if s.data.toList = (pat raw L).data.toList then 1 else 0) := by
  have hp := pidx_lt raw h
  have e1 : L = L.take (pidx raw L.length) ++ pat raw L :: L.drop (pidx raw L.length + 1) := by
    rw [← pat_get h, ← List.drop_eq_getElem_cons hp, List.take_append_drop]
  have e2 : pcut raw L = L.take (pidx raw L.length) ++ L.drop (pidx raw L.length + 1) := by unfold pcut; rw [List.eraseIdx_eq_take_drop_succ]
  have e3 : cnt s L = cnt s (L.take (pidx raw L.length)) + cnt s (pat raw L :: L.drop (pidx raw L.length + 1)) := by
    have := congrArg (cnt s) e1
    rw [this]
    unfold cnt
    rw [List.countP_append]; omega
  have e4 : cnt s (pcut raw L) = cnt s (L.take (pidx raw L.length)) + cnt s (L.drop (pidx raw L.length + 1)) := by
    rw [e2]
    unfold cnt
    rw [List.countP_append]; omega
  rw [e4, e3, cnt_cons]
  omega
theorem pat_mem (raw : Int) (L : List ByteArray) (h : 0 < L.length) : pat raw L ∈ L := by rw [← pat_get h]; exact List.getElem_mem _
theorem pcut_mem (raw : Int) (L : List ByteArray) : ∀ x ∈ pcut raw L, x ∈ L := fun x hx => List.mem_of_mem_eraseIdx hx
theorem fput_add {f : ByteArray → Int} {L : List ByteArray} (hf : ∀ s, f s = cnt s L) (x : ByteArray) : ∀ s, fput f x (f x + 1) s = cnt s (L ++ [x]) := by
  intro s
  unfold fput
  rw [cnt_append]
  by_cases e : s.data.toList = x.data.toList
  · rw [if_pos e, if_pos e, hf]
    unfold cnt; rw [e]
  · rw [if_neg e, if_neg e, hf]; omega
theorem fput_sub {f : ByteArray → Int} {L : List ByteArray} (hf : ∀ s, f s = cnt s L) (raw : Int) (h : 0 < L.length) : ∀ s, fput f (pat raw L) (f (pat raw L) - 1) s = cnt s (pcut raw L) := by
  intro s
  unfold fput
  rw [cnt_cut _ _ _ h]
  by_cases e : s.data.toList = (pat raw L).data.toList
  · rw [if_pos e, if_pos e, hf]
    unfold cnt; rw [e]
  · rw [if_neg e, if_neg e, hf]; omega
/-- What a round of PostKeeps holds: the post, and the counts of its letters. -/
structure KI (w W : World) (g b : Nat) (L : List ByteArray) (fp : List Nat) (n : Nat) (f : ByteArray → Int) : Prop where
  own : Own w W 70 g L fp
  cm : CM W b n f
  hb : b ∉ fp
  hw : w.heap.size ≤ b
  hf : ∀ s, f s = cnt s L
  sz : ∀ x ∈ L, x.size ≤ 9223372036854775807
  hl : L.length ≤ 200
theorem KI.mod {w W W' : World} {g b : Nat} {L : List ByteArray} {fp : List Nat} {n : Nat} {f : ByteArray → Int} (h : KI w W g b L fp n f) (m : Mod W W' []) : KI w W' g b L fp n f :=
  ⟨h.own.mod m, h.cm.mod m (by simp), h.hb, h.hw, h.hf, h.sz, h.hl⟩
theorem KI.step {w W W1 W2 : World} {g b : Nat} {L L' : List ByteArray} {fp : List Nat} {n n' : Nat} {f f' : ByteArray → Int} (h : KI w W g b L fp n f) (s : ∃ fp', PF 70 W1 g L' fp' ∧ Mod W W1 fp ∧ ∀ y ∈ fp', y ∈ fp ∨ W.heap.size ≤ y)
    (c : CM W2 b n' f') (m : Mod W1 W2 [b]) (hf : ∀ s, f' s = cnt s L') (sz : ∀ x ∈ L', x.size ≤ 9223372036854775807) (hl : L'.length ≤ 200) : ∃ fp', KI w W2 g b L' fp' n' f' := by
  have hlt := h.cm.lt
  obtain ⟨fp', p, m1, b1⟩ := s
  have hb' : b ∉ fp' := fun hy => by
    rcases b1 b hy with hh | hh
    · exact h.hb hh
    · omega
  obtain ⟨p2, q2, k2⟩ : Own w W1 70 g L' fp' := ⟨p, fun x hx => by
    rcases b1 x hx with hh | hh
    · exact h.own.2.1 x hh
    · have := h.own.2.2.size; omega, h.own.2.2.trans m1 (fun y hy => .inr (h.own.2.1 y hy))⟩
  exact ⟨fp', ⟨p.mod m (fun x hx hy => by rw [List.mem_singleton] at hy; subst hy; exact hb' hx), q2, k2.trans m (fun y hy => by rw [List.mem_singleton] at hy; subst hy; exact .inr h.hw)⟩, c, hb', h.hw, hf, sz, hl⟩
theorem KI.cm1 {w W W1 : World} {g b : Nat} {L : List ByteArray} {fp : List Nat} {n : Nat} {f : ByteArray → Int} (h : KI w W g b L fp n f) (m : Mod W W1 fp) : CM W1 b n f := h.cm.mod m h.hb
theorem KI.stay {w W W1 : World} {g b : Nat} {L : List ByteArray} {fp : List Nat} {n : Nat} {f : ByteArray → Int} (h : KI w W g b L fp n f) (s : ∃ fp', PF 70 W1 g L fp' ∧ Mod W W1 fp ∧ ∀ y ∈ fp', y ∈ fp ∨ W.heap.size ≤ y) : ∃ fp', KI w W1 g b L fp' n f := by
  have s2 := s
  obtain ⟨fp', p, m1, b1⟩ := s2
  exact h.step s (h.cm1 m1) (Mod.refl _ _) h.hf h.sz h.hl
/-- All, and where what comes back lies. -/
def AllQ (W : World) (l : List ByteArray) (e : Ending) (W' : World) : Prop := ∃ A n c, e = .returned (.slice A n c) ∧ n = l.length ∧ Row Kd.string 9 W' (.slice A n c) l ∧ (∀ y ∈ ownList (.slice A n c), W.heap.size ≤ y) ∧ Mod W W' []
theorem clone2_calls {W : World} {A : Option Addr} {c : Nat} {l : List ByteArray} (h : Row Kd.string 9 W (.slice A l.length c) l) (hs : l.length ≤ 1000000000) : Calls Try.prog 44 #[.slice A l.length c] W (AllQ W l) := by
  by_cases hl : 0 < l.length
  · obtain ⟨q, rfl, hq⟩ := string_cell h hl
    have hcell : ∀ j, j < l.length → W.cell? ⟨q, 0 + j, none⟩ = some (.string (l.getD j ByteArray.empty)) := by
      intro j hj
      rw [Nat.zero_add, hq j hj, List.getD_eq_getElem?_getD, List.getElem?_eq_getElem hj]; rfl
    refine (slices_Clone_string q 0 l.length c l W (Nat.le_refl _) (by omega) hcell).mono ?_
    rintro e W' ⟨v', rfl, ho, _, hb⟩
    rw [List.take_length] at ho
    have hR0 : Kd.R Kd.string 9 W' W.heap.size (fun _ => True) v' l := Kd.R_of_own ho (fun _ _ => trivial)
    have hR : Row Kd.string 9 W' v' l := Row.of hR0
    obtain ⟨A1, c1, rfl, h1, h2⟩ := hR.C
    exact ⟨A1, _, c1, rfl, rfl, hR, fun y hy => Kd.R_base hR0 y (own_mem _ y hy), Mod.of_below hb⟩
  · obtain rfl : l = [] := List.eq_nil_of_length_eq_zero (by omega)
    cases A with
    | none =>
      refine (slices_Clone_string_nil 0 c W).mono ?_
      rintro e W' ⟨rfl, rfl⟩
      exact ⟨none, 0, 0, rfl, rfl, Row.nil _ _ _, by simp [ownList], Mod.refl _ _⟩
    | some a =>
      refine (slices_Clone_string_zero a c W).mono ?_
      rintro e W' ⟨v', rfl, ho, _, hb⟩
      have hR0 : Kd.R Kd.string 9 W' W.heap.size (fun _ => True) v' ([] : List ByteArray) := Kd.R_of_own ho (fun _ _ => trivial)
      have hR : Row Kd.string 9 W' v' ([] : List ByteArray) := Row.of hR0
      obtain ⟨A1, c1, rfl, h1, h2⟩ := hR.C
      exact ⟨A1, 0, c1, rfl, rfl, hR, fun y hy => Kd.R_base hR0 y (own_mem _ y hy), Mod.of_below hb⟩
theorem all2_calls {W : World} {g : Nat} {l : List ByteArray} {fp : List Nat} (h : PF 70 W g l fp) (hs : l.length ≤ 1000000000) : Calls Try.prog 27 #[.pointer (some ⟨g, 0, none⟩)] W (AllQ W l) := by
  obtain ⟨A, c, h1, h2, h3, h4, h5⟩ := h.cell
  have hc : W.cell? ⟨g, 0, none⟩ = some (.slice A l.length c) := (blk_cell h1 0).trans rfl
  have H2 := Lib.hid (And.intro h2 hs)
  clear h h1 h2 h3 h4 h5 hs
  go_enter Try.func27, Try.ntmps27
  go_wp2_with fail
  refine (clone2_calls H2.out.1 H2.out.2).mono ?_
  rintro e W1 ⟨A1, n1, c1, rfl, hA⟩
  have HA := Lib.hid hA
  clear hA
  go_wp2
  go_ret
  exact ⟨A1, n1, c1, rfl, HA.out⟩
theorem fput_drop {f : ByteArray → Int} {L : List ByteArray} {x : ByteArray} (hf : ∀ s, f s = cnt s (x :: L)) : ∀ s, fput f x (f x - 1) s = cnt s L := by
  intro s
  unfold fput
  by_cases e : s.data.toList = x.data.toList
  · rw [if_pos e, hf, cnt_cons, if_pos rfl]
    unfold cnt; rw [e]; omega
  · rw [if_neg e, hf, cnt_cons, if_neg e]; omega
set_option maxRecDepth 100000 in
set_option maxHeartbeats 4000000 in
theorem keeps_calls (A : Option Addr) (c : Nat) (l : List S45) (w : World) (hr : Kd.C k45 w A l.length l) (hc : l.length ≤ c) (hsz : ∀ x ∈ l, x.f2.size ≤ 9223372036854775807) :
    Calls Try.prog 6 #[.slice A l.length c] w (AwkP w) := by
  have HR := Lib.hid (And.intro hr (And.intro hc hsz))
  clear hr hc hsz
  have hmm := @run_makeMap Try.prog
  go_enter Try.func6, Try.ntmps6
  go_wp2_with fail
  refine awake_calls.mono ?_
  rintro e W1 ⟨rfl, m1⟩
  have H1 := Lib.hid m1
  clear m1
  go_wp2_with fail
  refine new_calls.mono ?_
  rintro e W2 ⟨rfl, f2, m2⟩
  have hO : Own w W2 70 W1.heap.size [] [W1.heap.size] := ⟨f2, by have := H1.out.size; simp; omega, H1.out.trans m2 (by simp)⟩
  have hK : KI w (W2.alloc (.map #[] 0)) W1.heap.size W2.heap.size [] [W1.heap.size] 0 (fun _ => 0) := by
    refine ⟨hO.mod ((Mod.refl W2 []).alloc _), CM.made W2, ?_, hO.2.2.size, fun s => rfl, by simp, by simp⟩
    have := f2.lt W1.heap.size (by simp)
    simp; omega
  have HK := Lib.hid hK
  clear f2 m2 hO hK
  generalize W1.heap.size = g at *
  go_wp2_with fail
  generalize W2.heap.size = b at *
  go_loopg [21] l.length (fun k i wr => ∃ (j : Nat) (L : List ByteArray) (fp : List Nat) (n : Nat) (f : ByteArray → Int), j ≤ l.length ∧ k = l.length - j ∧ i = .int .i64 j ∧ j ≤ 400 ∧ n ≤ j ∧ KI w wr g b L fp n f)
  case atStart => exact ⟨0, [], [g], 0, _, Nat.zero_le _, rfl, rfl, by omega, Nat.le_refl _, HK.out⟩
  case round =>
    obtain ⟨j, L, fp, n, f, hj, rfl, rfl, hj3, hn, hst⟩ := hrel
    have HT := Lib.hid (And.intro hst hn)
    clear hst hn
    by_cases hjl : j < l.length
    · obtain ⟨ad, rfl, a0, a1, a2⟩ := act_cells (Kd.C_below HR.out.1 HT.out.1.own.2.2.bel) j hjl
      have hjz : (j : Int) < (l.length : Int) := by omega
      by_cases h3 : j = 400
      · have e5 : ad.add (j * 3) = ⟨ad.block, ad.off + 1200, none⟩ := by rw [h3]; simp [Addr.add]
        rw [e5] at a0 a1 a2
        dsimp only at a0 a1 a2
        have h3z : (j : Int) = 400 := by omega
        clear e5
        have HE : Hid (KI w (wr.alloc (.cells #[.int .i64 l[j].f0, .int .i64 l[j].f1, .string l[j].f2] 45)) g b L fp n f ∧ n ≤ 400) := Lib.hid ⟨HT.out.1.mod ((Mod.refl wr []).alloc _), by have := HT.out.2; omega⟩
        generalize l[j].f0 = x0 at *
        generalize l[j].f1 = x1 at *
        generalize l[j].f2 = x2 at *
        go_wp2_with fail
        generalize wr.alloc (.cells #[.int .i64 x0, .int .i64 x1, .string x2] 45) = V at *
        refine (all2_calls HE.out.1.own.1 (by have := HE.out.1.hl; omega)).mono ?_
        rintro e V1 ⟨A5, n5, c5, rfl, rfl, r5, b5, m5⟩
        have hbV : b < V.heap.size := HE.out.1.cm.lt
        have H6 := Lib.hid (And.intro (HE.out.1.cm.mod m5 (by simp)) (And.intro r5 (And.intro (show b ∉ ownList (.slice A5 L.length c5) from fun hy => by have := b5 b hy; omega) (HE.out.1.own.2.2.trans m5 (by simp)))))
        clear r5 b5 m5 hbV
        go_wp2_with fail
        go_loopg [107] L.length (fun k i wr => ∃ (j n2 : Nat) (f2 : ByteArray → Int), j ≤ L.length ∧ k = L.length - j ∧ i = .int .i64 j ∧ n2 ≤ 400 + j ∧ CM wr b n2 f2 ∧ (∀ s, f2 s = cnt s (L.drop j)) ∧ Mod V1 wr [b])
        case atStart => exact ⟨0, n, f, Nat.zero_le _, rfl, rfl, by have := HE.out.2; omega, H6.out.1, fun s => by rw [HE.out.1.hf]; rfl, Mod.refl _ _⟩
        case round =>
          obtain ⟨j2, n2, f2, hj2, rfl, rfl, hn2, hcm2, hf2, hm2⟩ := hrel
          have HJ := Lib.hid (And.intro hn2 (And.intro hcm2 (And.intro hf2 hm2)))
          clear hn2 hcm2 hf2 hm2
          by_cases hjl2 : j2 < L.length
          · have hrow : Row Kd.string 9 wr (.slice A5 L.length c5) L := H6.out.2.1.mod plain_string HJ.out.2.2.2 (fun y hy hz => by rw [List.mem_singleton] at hz; subst hz; exact H6.out.2.2.1 hy)
            have hC5 : Kd.C Kd.string wr A5 L.length L := by
              obtain ⟨A', c', e, _, hC⟩ := hrow.C
              injection e with e1 _ _
              rw [e1]; exact hC
            obtain ⟨ad5, rfl, hcl⟩ := str_cells hC5 j2 hjl2
            have hdr : L.drop j2 = L[j2] :: L.drop (j2 + 1) := List.drop_eq_getElem_cons hjl2
            have HSp : Hid (L[j2].size ≤ 9223372036854775807) := Lib.hid (HE.out.1.sz _ (List.getElem_mem _))
            have hjz2 : (j2 : Int) < (L.length : Int) := by omega
            clear hrow hC5
            generalize L[j2] = y at *
            have hf0 : 0 ≤ f2 y ∧ f2 y ≤ 200 := by have := HE.out.1.hl; rw [HJ.out.2.2.1]; have := cnt_nonneg y (L.drop j2); have := cnt_le y (L.drop j2); have h9 : (L.drop j2).length ≤ L.length := (by rw [List.length_drop]; omega); omega
            have hwp : IntKind.i64.wrap (f2 y - 1) = f2 y - 1 := by unfold IntKind.wrap; simp [IntKind.signed, IntKind.bits]; omega
            have HWF : Hid ((Lit.int .i64 (f2 y - 1)).wf = true) := Lib.hid (WalkArith.wf_i64 (by omega))
            have hw2 : IntKind.i64.wrap ((j2 : Int) + 1) = ((j2 + 1 : Nat) : Int) := by have := HE.out.1.hl; unfold IntKind.wrap; simp [IntKind.signed, IntKind.bits]; omega
            have HDR : Hid (∀ s, f2 s = cnt s (y :: L.drop (j2 + 1))) := Lib.hid (fun s => by rw [HJ.out.2.2.1, hdr])
            clear hdr hf0
            go_wp2_with (first
              | (at_lookup; refine cm_look rfl _ _ rfl b n2 f2 rfl HJ.out.2.1 y rfl HSp.out ?_)
              | (at_mapUpdate; refine cm_put rfl _ _ _ rfl b n2 f2 rfl HJ.out.2.1 (by have := HJ.out.1; have := HE.out.1.hl; unfold maxLen; omega) y rfl HSp.out (f2 y - 1) rfl HWF.out ?_; intro V3 hcm3 hm3; have HN3 := Lib.hid (And.intro hcm3 (HJ.out.2.2.2.trans hm3 (fun k hk => .inl hk))); clear hcm3 hm3)
              | fail)
            go_roundg (L.length - (j2 + 1))
            case measure => omega
            case rel => exact ⟨j2 + 1, n2 + 1, _, by omega, rfl, by rw [show ((j2 + 1 : Nat) : Int) = (j2 : Int) + 1 by omega], by have := HJ.out.1; omega, HN3.out.1, fput_drop HDR.out, HN3.out.2⟩
          · obtain rfl : j2 = L.length := by omega
            have hzz : ¬ ((L.length : Int) < (L.length : Int)) := by omega
            have HF0 : Hid (∀ s, f2 s = 0) := Lib.hid (fun s => by rw [HJ.out.2.2.1, List.drop_length]; rfl)
            have HM2 : Hid (Mod w wr []) := Lib.hid (H6.out.2.2.2.trans HJ.out.2.2.2 (fun y hy => by rw [List.mem_singleton] at hy; subst hy; exact .inr HE.out.1.hw))
            have hwr : w.heap.size ≤ wr.heap.size := HM2.out.size
            have HWR := Lib.hid hwr
            clear hwr
            go_wp2_with (first
              | (at_range; refine cm_range rfl _ rfl b n2 f2 rfl HJ.out.2.1 ?_; intro V6 k6 hr6 hm6; have HR6 := Lib.hid (And.intro hr6 (HM2.out.trans hm6 (by simp))); clear hr6 hm6)
              | fail)
            generalize wr.heap.size = r at *
            go_loopg [14] k6 (fun k v wr => CR wr b r n2 f2 k ∧ Mod w wr [])
            case atStart => exact ⟨HR6.out.1, HR6.out.2⟩
            case round =>
              obtain ⟨hcr, hmm6⟩ := hrel
              have HQ := Lib.hid (And.intro hcr hmm6)
              clear hcr hmm6
              go_wp2_with (first
                | (at_next; refine cm_next rfl _ rfl b r n2 _ f2 rfl HQ.out.1 ?_ ?_)
                | fail)
              · go_wp2
                go_ret
                exact ⟨rfl, HQ.out.2⟩
              · intro x V7 k7 _ hcr7 hlt7 hm7 hen7
                have hx0 : f2 x = 0 := HF0.out x
                have H7 := Lib.hid (And.intro hcr7 (HQ.out.2.trans hm7 (fun y hy => by rw [List.mem_singleton] at hy; subst hy; exact .inr HWR.out)))
                clear hcr7 hm7
                rw [hx0] at hen7 ⊢
                go_wp2
                go_roundg k7
                case measure => exact hlt7
                case rel => exact ⟨H7.out.1, H7.out.2⟩
      · have h3z : ¬ ((j : Int) = 400) := by omega
        have h3b : ((j : Int) == 400) = false := by simpa using h3z
        have HSz : Hid (l[j].f2.size ≤ 9223372036854775807) := Lib.hid (HR.out.2.2 _ (List.getElem_mem _))
        generalize l[j].f0 = x0 at *
        generalize l[j].f1 = x1 at *
        generalize l[j].f2 = x2 at *
        have hbn : (wr.alloc (.cells #[.int .i64 x0, .int .i64 x1, .string x2] 45)).heap[wr.heap.size]? = some (.cells #[.int .i64 x0, .int .i64 x1, .string x2] 45 (0, 0)) := blk_new _ _
        have hV : KI w (wr.alloc (.cells #[.int .i64 x0, .int .i64 x1, .string x2] 45)) g b L fp n f := HT.out.1.mod ((Mod.refl wr []).alloc _)
        have hbf : wr.heap.size ∉ fp := fun hy => by have := HT.out.1.own.1.lt _ hy; omega
        have HB := Lib.hid (And.intro hV (And.intro hbn hbf))
        clear hV hbn hbf
        go_wp2_with fail
        generalize wr.alloc (.cells #[.int .i64 x0, .int .i64 x1, .string x2] 45) = V at *
        generalize hq : wr.heap.size = q at *
        refine (all_calls HB.out.1.own.1 (by have := HB.out.1.hl; omega)).mono ?_
        rintro e V1 ⟨A5, n5, c5, rfl, rfl, g5, r5, m5⟩
        have hb1 := m5.at_ HB.out.2.1 (by simp)
        have hc0 : V1.cell? ⟨q, 0, none⟩ = some (.int .i64 x0) := (blk_cell hb1 0).trans rfl
        have hc1 : V1.cell? ⟨q, 1, none⟩ = some (.int .i64 x1) := (blk_cell hb1 1).trans rfl
        have hc2 : V1.cell? ⟨q, 2, none⟩ = some (.string x2) := (blk_cell hb1 2).trans rfl
        have H5 := Lib.hid (And.intro (HB.out.1.mod m5) (And.intro hb1 (And.intro g5 r5)))
        clear g5 r5 m5 hb1
        by_cases hL : 0 < L.length
        · have hn := Int.lt_tmod_of_pos x1 (b := (L.length : Int)) (by omega)
          have hp := Int.tmod_lt_of_pos x1 (b := (L.length : Int)) (by omega)
          have hLz : 0 < (L.length : Int) := by omega
          have hLn : ¬ ((L.length : Int) = 0) := by omega
          have hw : IntKind.i64.wrap (x1.tmod L.length + L.length) = x1.tmod L.length + L.length := by have := HB.out.1.hl; unfold IntKind.wrap; simp [IntKind.signed, IntKind.bits]; omega
          have hpi := pidx_mod x1 hL
          obtain ⟨ad5, rfl, hce⟩ := str_cells H5.out.2.2.2 _ (pidx_lt x1 hL)
          rw [pat_get hL] at hce
          rw [Int.add_emod_right] at hpi
          rw [show pidx x1 L.length = (x1.tmod L.length % L.length).toNat by rw [← hpi]; simp] at hce
          have hq0 : 0 ≤ x1.tmod L.length % L.length := by rw [← hpi]; omega
          have hq1 : x1.tmod L.length % L.length < L.length := by rw [← hpi]; have := pidx_lt x1 hL; omega
          clear hpi
          go_upto_region 13 with fail
          clear hce hw hn hp
          by_cases c0 : x0 = 0
          · subst c0
            go_wp2_with fail
            refine (send_calls x2 H5.out.1.own.1 (by have := H5.out.1.hl; omega)).mono ?_
            rintro e V2 ⟨rfl, h2⟩
            by_cases hr : L.length < 200
            · rw [if_pos hr] at h2
              rw [decide_eq_true hr]
              obtain ⟨fp2, p2, m2, b2⟩ := h2
              have hd2 : V2.cell? ⟨q, 2, none⟩ = some (.string x2) := (blk_cell (m2.at_ H5.out.2.1 HB.out.2.2) 2).trans rfl
              have HX := Lib.hid (And.intro p2 (And.intro m2 b2))
              have HC := Lib.hid (H5.out.1.cm1 m2)
              clear p2 m2 b2
              have hf0 : 0 ≤ f x2 ∧ f x2 ≤ 200 := by have := H5.out.1.hl; rw [H5.out.1.hf]; have := cnt_nonneg x2 L; have := cnt_le x2 L; omega
              have hwp : IntKind.i64.wrap (f x2 + 1) = f x2 + 1 := by unfold IntKind.wrap; simp [IntKind.signed, IntKind.bits]; omega
              have HWF : Hid ((Lit.int .i64 (f x2 + 1)).wf = true) := Lib.hid (WalkArith.wf_i64 (by omega))
              have HR2 := Lib.hid hr
              clear hr hf0
              go_wp2_with (first
                | (at_lookup; refine cm_look rfl _ _ rfl b n f rfl HC.out (x2) rfl HSz.out ?_)
                | (at_mapUpdate; refine cm_put rfl _ _ _ rfl b n f rfl HC.out (by have := HT.out.2; unfold maxLen; omega) (x2) rfl HSz.out (f x2 + 1) rfl HWF.out ?_; intro V3 hcm3 hm3; have HN3 := Lib.hid (And.intro hcm3 hm3); clear hcm3 hm3)
                | fail)
              obtain ⟨fp4, hk4⟩ := H5.out.1.step ⟨fp2, HX.out⟩ HN3.out.1 HN3.out.2 (fput_add H5.out.1.hf x2) (fun x hx => by rcases List.mem_append.1 hx with h | h; exact H5.out.1.sz x h; rw [List.mem_singleton.1 h]; exact HSz.out) (by have := HR2.out; simp; omega)
              have H4 := Lib.hid hk4
              clear hk4
              go_roundg (l.length - (j + 1))
              case measure => omega
              case rel => exact ⟨j + 1, _, fp4, n + 1, _, by omega, rfl, by rw [show ((j + 1 : Nat) : Int) = (j : Int) + 1 by omega], by omega, by have := HT.out.2; omega, H4.out⟩
            · rw [if_neg hr] at h2
              rw [decide_eq_false hr]
              obtain ⟨fp4, hk4⟩ := H5.out.1.stay h2
              have H4 := Lib.hid hk4
              clear hk4 h2
              go_wp2
              go_roundg (l.length - (j + 1))
              case measure => omega
              case rel => exact ⟨j + 1, L, fp4, n, f, by omega, rfl, by rw [show ((j + 1 : Nat) : Int) = (j : Int) + 1 by omega], by omega, by have := HT.out.2; omega, H4.out⟩
          · by_cases c1 : x0 = 1
            · subst c1
              go_wp2_with fail
              refine (take_calls x1 H5.out.1.own.1 (by have := H5.out.1.hl; omega)).mono ?_
              rintro e V2 ⟨rfl, h2⟩
              rw [decide_eq_true hL]
              obtain ⟨fp2, p2, m2, b2⟩ := h2
              have hd2 : V2.cell? ⟨q, 2, none⟩ = some (.string x2) := (blk_cell (m2.at_ H5.out.2.1 HB.out.2.2) 2).trans rfl
              have HX := Lib.hid (And.intro p2 (And.intro m2 b2))
              have HC := Lib.hid (H5.out.1.cm1 m2)
              clear p2 m2 b2
              have HSp : Hid ((pat x1 L).size ≤ 9223372036854775807) := Lib.hid (H5.out.1.sz _ (pat_mem x1 L hL))
              have hf0 : 0 ≤ f (pat x1 L) ∧ f (pat x1 L) ≤ 200 := by have := H5.out.1.hl; rw [H5.out.1.hf]; have := cnt_nonneg (pat x1 L) L; have := cnt_le (pat x1 L) L; omega
              have hwp : IntKind.i64.wrap (f (pat x1 L) - 1) = f (pat x1 L) - 1 := by unfold IntKind.wrap; simp [IntKind.signed, IntKind.bits]; omega
              have HWF : Hid ((Lit.int .i64 (f (pat x1 L) - 1)).wf = true) := Lib.hid (WalkArith.wf_i64 (by omega))
              clear hf0
              have hlt : ¬ (fput f (pat x1 L) (f (pat x1 L) - 1) (pat x1 L) < 0) := by have := fput_sub H5.out.1.hf x1 hL (pat x1 L); rw [this]; have := cnt_nonneg (pat x1 L) (pcut x1 L); omega
              go_wp2_with (first
                | (at_lookup; refine cm_look rfl _ _ rfl b n f rfl HC.out (pat x1 L) rfl HSp.out ?_)
                | (at_lookup; refine cm_look rfl _ _ rfl b (n + 1) (fput f (pat x1 L) (f (pat x1 L) - 1)) rfl HN3.out.1 (pat x1 L) rfl HSp.out ?_)
                | (at_mapUpdate; refine cm_put rfl _ _ _ rfl b n f rfl HC.out (by have := HT.out.2; unfold maxLen; omega) (pat x1 L) rfl HSp.out (f (pat x1 L) - 1) rfl HWF.out ?_; intro V3 hcm3 hm3; have HN3 := Lib.hid (And.intro hcm3 hm3); clear hcm3 hm3; have hlk := cm_run HN3.out.1 (pat x1 L) HSp.out)
                | fail)
              obtain ⟨fp4, hk4⟩ := H5.out.1.step ⟨fp2, HX.out⟩ HN3.out.1 HN3.out.2 (fput_sub H5.out.1.hf x1 hL) (fun x hx => H5.out.1.sz x (pcut_mem x1 L x hx)) (Nat.le_trans pcut_le H5.out.1.hl)
              have H4 := Lib.hid hk4
              clear hk4
              go_roundg (l.length - (j + 1))
              case measure => omega
              case rel => exact ⟨j + 1, _, fp4, n + 1, _, by omega, rfl, by rw [show ((j + 1 : Nat) : Int) = (j : Int) + 1 by omega], by omega, by have := HT.out.2; omega, H4.out⟩
            · by_cases c2 : x0 = 2
              · subst c2
                go_wp2_with fail
                refine (lose_calls x1 H5.out.1.own.1 (by have := H5.out.1.hl; omega)).mono ?_
                rintro e V2 ⟨rfl, h2⟩
                rw [decide_eq_true hL]
                obtain ⟨fp2, p2, m2, b2⟩ := h2
                have hd2 : V2.cell? ⟨q, 2, none⟩ = some (.string x2) := (blk_cell (m2.at_ H5.out.2.1 HB.out.2.2) 2).trans rfl
                have HX := Lib.hid (And.intro p2 (And.intro m2 b2))
                have HC := Lib.hid (H5.out.1.cm1 m2)
                clear p2 m2 b2
                have HSp : Hid ((pat x1 L).size ≤ 9223372036854775807) := Lib.hid (H5.out.1.sz _ (pat_mem x1 L hL))
                have hf0 : 0 ≤ f (pat x1 L) ∧ f (pat x1 L) ≤ 200 := by have := H5.out.1.hl; rw [H5.out.1.hf]; have := cnt_nonneg (pat x1 L) L; have := cnt_le (pat x1 L) L; omega
                have hwp : IntKind.i64.wrap (f (pat x1 L) - 1) = f (pat x1 L) - 1 := by unfold IntKind.wrap; simp [IntKind.signed, IntKind.bits]; omega
                have HWF : Hid ((Lit.int .i64 (f (pat x1 L) - 1)).wf = true) := Lib.hid (WalkArith.wf_i64 (by omega))
                clear hf0
                go_wp2_with (first
                  | (at_lookup; refine cm_look rfl _ _ rfl b n f rfl HC.out (pat x1 L) rfl HSp.out ?_)
                  | (at_mapUpdate; refine cm_put rfl _ _ _ rfl b n f rfl HC.out (by have := HT.out.2; unfold maxLen; omega) (pat x1 L) rfl HSp.out (f (pat x1 L) - 1) rfl HWF.out ?_; intro V3 hcm3 hm3; have HN3 := Lib.hid (And.intro hcm3 hm3); clear hcm3 hm3)
                  | fail)
                obtain ⟨fp4, hk4⟩ := H5.out.1.step ⟨fp2, HX.out⟩ HN3.out.1 HN3.out.2 (fput_sub H5.out.1.hf x1 hL) (fun x hx => H5.out.1.sz x (pcut_mem x1 L x hx)) (Nat.le_trans pcut_le H5.out.1.hl)
                have H4 := Lib.hid hk4
                clear hk4
                go_roundg (l.length - (j + 1))
                case measure => omega
                case rel => exact ⟨j + 1, _, fp4, n + 1, _, by omega, rfl, by rw [show ((j + 1 : Nat) : Int) = (j : Int) + 1 by omega], by omega, by have := HT.out.2; omega, H4.out⟩
              · by_cases c3 : x0 = 3
                · subst c3
                  go_wp2_with fail
                  refine (double_calls x1 H5.out.1.own.1 (by have := H5.out.1.hl; omega)).mono ?_
                  rintro e V2 ⟨rfl, h2⟩
                  by_cases hr : L.length < 200
                  · have hld : ldouble x1 L = L ++ [pat x1 L] := by unfold ldouble; rw [if_pos ⟨hL, hr⟩]
                    rw [hld] at h2
                    rw [decide_eq_true (show 0 < L.length ∧ L.length < 200 from ⟨hL, hr⟩)]
                    have HR2 := Lib.hid hr
                    clear hr hld
                    obtain ⟨fp2, p2, m2, b2⟩ := h2
                    have hd2 : V2.cell? ⟨q, 2, none⟩ = some (.string x2) := (blk_cell (m2.at_ H5.out.2.1 HB.out.2.2) 2).trans rfl
                    have HX := Lib.hid (And.intro p2 (And.intro m2 b2))
                    have HC := Lib.hid (H5.out.1.cm1 m2)
                    clear p2 m2 b2
                    have HSp : Hid ((pat x1 L).size ≤ 9223372036854775807) := Lib.hid (H5.out.1.sz _ (pat_mem x1 L hL))
                    have hf0 : 0 ≤ f (pat x1 L) ∧ f (pat x1 L) ≤ 200 := by have := H5.out.1.hl; rw [H5.out.1.hf]; have := cnt_nonneg (pat x1 L) L; have := cnt_le (pat x1 L) L; omega
                    have hwp : IntKind.i64.wrap (f (pat x1 L) + 1) = f (pat x1 L) + 1 := by unfold IntKind.wrap; simp [IntKind.signed, IntKind.bits]; omega
                    have HWF : Hid ((Lit.int .i64 (f (pat x1 L) + 1)).wf = true) := Lib.hid (WalkArith.wf_i64 (by omega))
                    clear hf0
                    go_wp2_with (first
                      | (at_lookup; refine cm_look rfl _ _ rfl b n f rfl HC.out (pat x1 L) rfl HSp.out ?_)
                      | (at_mapUpdate; refine cm_put rfl _ _ _ rfl b n f rfl HC.out (by have := HT.out.2; unfold maxLen; omega) (pat x1 L) rfl HSp.out (f (pat x1 L) + 1) rfl HWF.out ?_; intro V3 hcm3 hm3; have HN3 := Lib.hid (And.intro hcm3 hm3); clear hcm3 hm3)
                      | fail)
                    obtain ⟨fp4, hk4⟩ := H5.out.1.step ⟨fp2, HX.out⟩ HN3.out.1 HN3.out.2 (fput_add H5.out.1.hf _) (fun x hx => by rcases List.mem_append.1 hx with h | h; exact H5.out.1.sz x h; rw [List.mem_singleton.1 h]; exact HSp.out) (by have := HR2.out; simp; omega)
                    have H4 := Lib.hid hk4
                    clear hk4
                    go_roundg (l.length - (j + 1))
                    case measure => omega
                    case rel => exact ⟨j + 1, _, fp4, n + 1, _, by omega, rfl, by rw [show ((j + 1 : Nat) : Int) = (j : Int) + 1 by omega], by omega, by have := HT.out.2; omega, H4.out⟩
                  · have hld : ldouble x1 L = L := by unfold ldouble; rw [if_neg (fun z => hr z.2)]
                    rw [hld] at h2
                    rw [decide_eq_false (fun z : 0 < L.length ∧ L.length < 200 => hr z.2)]
                    clear hld
                    obtain ⟨fp4, hk4⟩ := H5.out.1.stay h2
                    have H4 := Lib.hid hk4
                    clear hk4 h2
                    go_wp2
                    go_roundg (l.length - (j + 1))
                    case measure => omega
                    case rel => exact ⟨j + 1, L, fp4, n, f, by omega, rfl, by rw [show ((j + 1 : Nat) : Int) = (j : Int) + 1 by omega], by omega, by have := HT.out.2; omega, H4.out⟩
                · go_wp2
                  go_roundg (l.length - (j + 1))
                  case measure => omega
                  case rel => exact ⟨j + 1, L, fp, n, f, by omega, rfl, by rw [show ((j + 1 : Nat) : Int) = (j : Int) + 1 by omega], by omega, by have := HT.out.2; omega, H5.out.1⟩
        · have hLz : ¬ (0 < (L.length : Int)) := by omega
          go_upto_region 13 with fail
          by_cases c0 : x0 = 0
          · subst c0
            go_wp2_with fail
            refine (send_calls x2 H5.out.1.own.1 (by have := H5.out.1.hl; omega)).mono ?_
            rintro e V2 ⟨rfl, h2⟩
            by_cases hr : L.length < 200
            · rw [if_pos hr] at h2
              rw [decide_eq_true hr]
              obtain ⟨fp2, p2, m2, b2⟩ := h2
              have hd2 : V2.cell? ⟨q, 2, none⟩ = some (.string x2) := (blk_cell (m2.at_ H5.out.2.1 HB.out.2.2) 2).trans rfl
              have HX := Lib.hid (And.intro p2 (And.intro m2 b2))
              have HC := Lib.hid (H5.out.1.cm1 m2)
              clear p2 m2 b2
              have hf0 : 0 ≤ f x2 ∧ f x2 ≤ 200 := by have := H5.out.1.hl; rw [H5.out.1.hf]; have := cnt_nonneg x2 L; have := cnt_le x2 L; omega
              have hwp : IntKind.i64.wrap (f x2 + 1) = f x2 + 1 := by unfold IntKind.wrap; simp [IntKind.signed, IntKind.bits]; omega
              have HWF : Hid ((Lit.int .i64 (f x2 + 1)).wf = true) := Lib.hid (WalkArith.wf_i64 (by omega))
              have HR2 := Lib.hid hr
              clear hr hf0
              go_wp2_with (first
                | (at_lookup; refine cm_look rfl _ _ rfl b n f rfl HC.out (x2) rfl HSz.out ?_)
                | (at_mapUpdate; refine cm_put rfl _ _ _ rfl b n f rfl HC.out (by have := HT.out.2; unfold maxLen; omega) (x2) rfl HSz.out (f x2 + 1) rfl HWF.out ?_; intro V3 hcm3 hm3; have HN3 := Lib.hid (And.intro hcm3 hm3); clear hcm3 hm3)
                | fail)
              obtain ⟨fp4, hk4⟩ := H5.out.1.step ⟨fp2, HX.out⟩ HN3.out.1 HN3.out.2 (fput_add H5.out.1.hf x2) (fun x hx => by rcases List.mem_append.1 hx with h | h; exact H5.out.1.sz x h; rw [List.mem_singleton.1 h]; exact HSz.out) (by have := HR2.out; simp; omega)
              have H4 := Lib.hid hk4
              clear hk4
              go_roundg (l.length - (j + 1))
              case measure => omega
              case rel => exact ⟨j + 1, _, fp4, n + 1, _, by omega, rfl, by rw [show ((j + 1 : Nat) : Int) = (j : Int) + 1 by omega], by omega, by have := HT.out.2; omega, H4.out⟩
            · rw [if_neg hr] at h2
              rw [decide_eq_false hr]
              obtain ⟨fp4, hk4⟩ := H5.out.1.stay h2
              have H4 := Lib.hid hk4
              clear hk4 h2
              go_wp2
              go_roundg (l.length - (j + 1))
              case measure => omega
              case rel => exact ⟨j + 1, L, fp4, n, f, by omega, rfl, by rw [show ((j + 1 : Nat) : Int) = (j : Int) + 1 by omega], by omega, by have := HT.out.2; omega, H4.out⟩
          · by_cases c1 : x0 = 1
            · subst c1
              go_wp2_with fail
              refine (take_calls x1 H5.out.1.own.1 (by have := H5.out.1.hl; omega)).mono ?_
              rintro e V2 ⟨rfl, h2⟩
              replace h2 : ∃ fp', PF 70 V2 g L fp' ∧ Mod V1 V2 fp ∧ ∀ y ∈ fp', y ∈ fp ∨ V1.heap.size ≤ y := by rw [show pcut x1 L = L by rw [List.eq_nil_of_length_eq_zero (by omega : L.length = 0)]; rfl] at h2; exact h2
              rw [decide_eq_false (hL)]
              obtain ⟨fp4, hk4⟩ := H5.out.1.stay h2
              have H4 := Lib.hid hk4
              clear hk4 h2
              go_wp2
              go_roundg (l.length - (j + 1))
              case measure => omega
              case rel => exact ⟨j + 1, L, fp4, n, f, by omega, rfl, by rw [show ((j + 1 : Nat) : Int) = (j : Int) + 1 by omega], by omega, by have := HT.out.2; omega, H4.out⟩
            · by_cases c2 : x0 = 2
              · subst c2
                go_wp2_with fail
                refine (lose_calls x1 H5.out.1.own.1 (by have := H5.out.1.hl; omega)).mono ?_
                rintro e V2 ⟨rfl, h2⟩
                replace h2 : ∃ fp', PF 70 V2 g L fp' ∧ Mod V1 V2 fp ∧ ∀ y ∈ fp', y ∈ fp ∨ V1.heap.size ≤ y := by rw [show pcut x1 L = L by rw [List.eq_nil_of_length_eq_zero (by omega : L.length = 0)]; rfl] at h2; exact h2
                rw [decide_eq_false (hL)]
                obtain ⟨fp4, hk4⟩ := H5.out.1.stay h2
                have H4 := Lib.hid hk4
                clear hk4 h2
                go_wp2
                go_roundg (l.length - (j + 1))
                case measure => omega
                case rel => exact ⟨j + 1, L, fp4, n, f, by omega, rfl, by rw [show ((j + 1 : Nat) : Int) = (j : Int) + 1 by omega], by omega, by have := HT.out.2; omega, H4.out⟩
              · by_cases c3 : x0 = 3
                · subst c3
                  go_wp2_with fail
                  refine (double_calls x1 H5.out.1.own.1 (by have := H5.out.1.hl; omega)).mono ?_
                  rintro e V2 ⟨rfl, h2⟩
                  replace h2 : ∃ fp', PF 70 V2 g L fp' ∧ Mod V1 V2 fp ∧ ∀ y ∈ fp', y ∈ fp ∨ V1.heap.size ≤ y := by rw [show ldouble x1 L = L by unfold ldouble; rw [if_neg (fun z => hL z.1)]] at h2; exact h2
                  rw [decide_eq_false (fun z : 0 < L.length ∧ L.length < 200 => hL z.1)]
                  obtain ⟨fp4, hk4⟩ := H5.out.1.stay h2
                  have H4 := Lib.hid hk4
                  clear hk4 h2
                  go_wp2
                  go_roundg (l.length - (j + 1))
                  case measure => omega
                  case rel => exact ⟨j + 1, L, fp4, n, f, by omega, rfl, by rw [show ((j + 1 : Nat) : Int) = (j : Int) + 1 by omega], by omega, by have := HT.out.2; omega, H4.out⟩
                · go_wp2
                  go_roundg (l.length - (j + 1))
                  case measure => omega
                  case rel => exact ⟨j + 1, L, fp, n, f, by omega, rfl, by rw [show ((j + 1 : Nat) : Int) = (j : Int) + 1 by omega], by omega, by have := HT.out.2; omega, H5.out.1⟩
    · have HE : Hid (KI w wr g b L fp n f ∧ n ≤ 400) := Lib.hid ⟨HT.out.1, by have := HT.out.2; omega⟩
      have hz : ¬ ((j : Int) < (l.length : Int)) := by omega
      generalize wr = V at HE ⊢
      clear HT
      go_wp2_with fail
      refine (all2_calls HE.out.1.own.1 (by have := HE.out.1.hl; omega)).mono ?_
      rintro e V1 ⟨A5, n5, c5, rfl, rfl, r5, b5, m5⟩
      have hbV : b < V.heap.size := HE.out.1.cm.lt
      have H6 := Lib.hid (And.intro (HE.out.1.cm.mod m5 (by simp)) (And.intro r5 (And.intro (show b ∉ ownList (.slice A5 L.length c5) from fun hy => by have := b5 b hy; omega) (HE.out.1.own.2.2.trans m5 (by simp)))))
      clear r5 b5 m5 hbV
      go_wp2_with fail
      go_loopg [107] L.length (fun k i wr => ∃ (j n2 : Nat) (f2 : ByteArray → Int), j ≤ L.length ∧ k = L.length - j ∧ i = .int .i64 j ∧ n2 ≤ 400 + j ∧ CM wr b n2 f2 ∧ (∀ s, f2 s = cnt s (L.drop j)) ∧ Mod V1 wr [b])
      case atStart => exact ⟨0, n, f, Nat.zero_le _, rfl, rfl, by have := HE.out.2; omega, H6.out.1, fun s => by rw [HE.out.1.hf]; rfl, Mod.refl _ _⟩
      case round =>
        obtain ⟨j2, n2, f2, hj2, rfl, rfl, hn2, hcm2, hf2, hm2⟩ := hrel
        have HJ := Lib.hid (And.intro hn2 (And.intro hcm2 (And.intro hf2 hm2)))
        clear hn2 hcm2 hf2 hm2
        by_cases hjl2 : j2 < L.length
        · have hrow : Row Kd.string 9 wr (.slice A5 L.length c5) L := H6.out.2.1.mod plain_string HJ.out.2.2.2 (fun y hy hz => by rw [List.mem_singleton] at hz; subst hz; exact H6.out.2.2.1 hy)
          have hC5 : Kd.C Kd.string wr A5 L.length L := by
            obtain ⟨A', c', e, _, hC⟩ := hrow.C
            injection e with e1 _ _
            rw [e1]; exact hC
          obtain ⟨ad5, rfl, hcl⟩ := str_cells hC5 j2 hjl2
          have hdr : L.drop j2 = L[j2] :: L.drop (j2 + 1) := List.drop_eq_getElem_cons hjl2
          have HSp : Hid (L[j2].size ≤ 9223372036854775807) := Lib.hid (HE.out.1.sz _ (List.getElem_mem _))
          have hjz2 : (j2 : Int) < (L.length : Int) := by omega
          clear hrow hC5
          generalize L[j2] = y at *
          have hf0 : 0 ≤ f2 y ∧ f2 y ≤ 200 := by have := HE.out.1.hl; rw [HJ.out.2.2.1]; have := cnt_nonneg y (L.drop j2); have := cnt_le y (L.drop j2); have h9 : (L.drop j2).length ≤ L.length := (by rw [List.length_drop]; omega); omega
          have hwp : IntKind.i64.wrap (f2 y - 1) = f2 y - 1 := by unfold IntKind.wrap; simp [IntKind.signed, IntKind.bits]; omega
          have HWF : Hid ((Lit.int .i64 (f2 y - 1)).wf = true) := Lib.hid (WalkArith.wf_i64 (by omega))
          have hw2 : IntKind.i64.wrap ((j2 : Int) + 1) = ((j2 + 1 : Nat) : Int) := by have := HE.out.1.hl; unfold IntKind.wrap; simp [IntKind.signed, IntKind.bits]; omega
          have HDR : Hid (∀ s, f2 s = cnt s (y :: L.drop (j2 + 1))) := Lib.hid (fun s => by rw [HJ.out.2.2.1, hdr])
          clear hdr hf0
          go_wp2_with (first
            | (at_lookup; refine cm_look rfl _ _ rfl b n2 f2 rfl HJ.out.2.1 y rfl HSp.out ?_)
            | (at_mapUpdate; refine cm_put rfl _ _ _ rfl b n2 f2 rfl HJ.out.2.1 (by have := HJ.out.1; have := HE.out.1.hl; unfold maxLen; omega) y rfl HSp.out (f2 y - 1) rfl HWF.out ?_; intro V3 hcm3 hm3; have HN3 := Lib.hid (And.intro hcm3 (HJ.out.2.2.2.trans hm3 (fun k hk => .inl hk))); clear hcm3 hm3)
            | fail)
          go_roundg (L.length - (j2 + 1))
          case measure => omega
          case rel => exact ⟨j2 + 1, n2 + 1, _, by omega, rfl, by rw [show ((j2 + 1 : Nat) : Int) = (j2 : Int) + 1 by omega], by have := HJ.out.1; omega, HN3.out.1, fput_drop HDR.out, HN3.out.2⟩
        · obtain rfl : j2 = L.length := by omega
          have hzz : ¬ ((L.length : Int) < (L.length : Int)) := by omega
          have HF0 : Hid (∀ s, f2 s = 0) := Lib.hid (fun s => by rw [HJ.out.2.2.1, List.drop_length]; rfl)
          have HM2 : Hid (Mod w wr []) := Lib.hid (H6.out.2.2.2.trans HJ.out.2.2.2 (fun y hy => by rw [List.mem_singleton] at hy; subst hy; exact .inr HE.out.1.hw))
          have hwr : w.heap.size ≤ wr.heap.size := HM2.out.size
          have HWR := Lib.hid hwr
          clear hwr
          go_wp2_with (first
            | (at_range; refine cm_range rfl _ rfl b n2 f2 rfl HJ.out.2.1 ?_; intro V6 k6 hr6 hm6; have HR6 := Lib.hid (And.intro hr6 (HM2.out.trans hm6 (by simp))); clear hr6 hm6)
            | fail)
          generalize wr.heap.size = r at *
          go_loopg [14] k6 (fun k v wr => CR wr b r n2 f2 k ∧ Mod w wr [])
          case atStart => exact ⟨HR6.out.1, HR6.out.2⟩
          case round =>
            obtain ⟨hcr, hmm6⟩ := hrel
            have HQ := Lib.hid (And.intro hcr hmm6)
            clear hcr hmm6
            go_wp2_with (first
              | (at_next; refine cm_next rfl _ rfl b r n2 _ f2 rfl HQ.out.1 ?_ ?_)
              | fail)
            · go_wp2
              go_ret
              exact ⟨rfl, HQ.out.2⟩
            · intro x V7 k7 _ hcr7 hlt7 hm7 hen7
              have hx0 : f2 x = 0 := HF0.out x
              have H7 := Lib.hid (And.intro hcr7 (HQ.out.2.trans hm7 (fun y hy => by rw [List.mem_singleton] at hy; subst hy; exact .inr HWR.out)))
              clear hcr7 hm7
              rw [hx0] at hen7 ⊢
              go_wp2
              go_roundg k7
              case measure => exact hlt7
              case rel => exact ⟨H7.out.1, H7.out.2⟩
def dovecotelaw16_PostKeeps.f (k : Nat) (l : List S45) : Option Bool := if (l.all fun x => decide (x.f2.size ≤ 9223372036854775807)) = true then some true else none
theorem dovecotelaw16_PostKeeps.calls (k : Nat) (A0 : Option Addr) (c0 : Nat) (l0 : List S45) (r : Bool) (w : World) (hr0 : Kd.C k45 w A0 l0.length l0) (hc0 : l0.length ≤ c0) (h : dovecotelaw16_PostKeeps.f k l0 = some r) :
    Calls Try.prog 6 #[.slice A0 l0.length c0] w fun e w' => e = .returned (.bool r) ∧ Below w.heap.size w w' := by
  unfold dovecotelaw16_PostKeeps.f at h
  split at h
  · rename_i ha
    obtain rfl : true = r := Option.some.inj h
    exact (keeps_calls A0 c0 l0 w hr0 hc0 (fun x hx => of_decide_eq_true (List.all_eq_true.1 ha x hx))).mono fun e w' ⟨h1, h2⟩ => ⟨h1, h2.bel⟩
  · cases h
end Go.Proofs.Ytgkpljlcdopalaa.Post
