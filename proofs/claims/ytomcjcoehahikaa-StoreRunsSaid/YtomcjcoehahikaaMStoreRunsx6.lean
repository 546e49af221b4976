/- Printed by a program of the session's own (wip/myprint.sh): the kit's printer, with texts of the session's own for some functions. -/
import Derived.Test.YtomcjcoehahikaaMStoreRunsx0
import Derived.Test.YtomcjcoehahikaaMStoreRunsx4
import Derived.Test.YtomcjcoehahikaaMStoreRunsx5
namespace Go.Proofs.Ytomcjcoehahikaa.MStoreRuns
open Go.RowKit Go.Proofs.YtomcjcoehahikaaW.PrintWords Go.Proofs.YtomcjcoehahikaaW.PrintLast Go.Proofs.YtomcjcoehahikaaW.PrintMore
attribute [local go_sem] max2_int min2_int max_two min_two max_three min_three max_four min_four   -- for this text's walks alone
set_option linter.unusedVariables false
set_option linter.unusedSimpArgs false

/-! ### chain_place: function 44 -/
/-! sort.Search over a predicate that rises -/
theorem count_upto (p : Nat → Bool) (i : Nat) : ∀ (n : Nat), i ≤ n → (∀ a, a < i → p a = false) → (∀ a, i ≤ a → a < n → p a = true) → (List.range n).countP (fun a => !p a) = i := by
  intro n
  induction n with
  | zero => intro h _ _; simp; omega
  | succ n ih =>
    intro h h0 h1
    rw [List.range_succ, List.countP_append, List.countP_cons, List.countP_nil]
    by_cases e : i = n + 1
    · have hp : p n = false := h0 n (by omega)
      have hall : (List.range n).countP (fun a => !p a) = (List.range n).length := List.countP_eq_length.2 (fun a ha => by rw [h0 a (by have := List.mem_range.1 ha; omega)]; rfl)
      rw [hall, List.length_range, hp]
      simp; omega
    · have hp : p n = true := h1 n (by omega) (by omega)
      rw [ih (by omega) h0 (fun a ha hb => h1 a ha (by omega)), hp]
      simp
set_option maxHeartbeats 4000000 in
theorem search_walk (n : Nat) (hn : n ≤ 1000000000) (p : Nat → Bool) (cb : Array Value) (w : World)
    (hf : ∀ (W : World) (i : Nat), i < n → Below w.heap.size w W → Calls Try.prog 60 (#[.int .i64 i] ++ cb) W fun e W' => e = .returned (.bool (p i)) ∧ Below W.heap.size W W')
    (hmono : ∀ a b, a ≤ b → b < n → p a = true → p b = true) :
    Calls Try.prog 59 #[.int .i64 n, .func (.func 60) #[] cb] w fun e w' => e = .returned (.int .i64 ((List.range n).countP (fun i => !p i) : Nat)) ∧ Below w.heap.size w w' := by
  have HF : Aside _ := hf
  have HM : Aside _ := hmono
  clear hf hmono
  go_enter Try.func59, Try.ntmps59
  go_wp2_with fail
  go_loopg [5, 6] n (fun k x5 x6 wr => ∃ i j : Nat, x5 = .int .i64 i ∧ x6 = .int .i64 j ∧ i ≤ j ∧ j ≤ n ∧ k = j - i ∧ (∀ a, a < i → p a = false) ∧ (∀ a, j ≤ a → a < n → p a = true) ∧ Below w.heap.size w wr)
  case atStart => exact ⟨0, n, rfl, rfl, Nat.zero_le _, Nat.le_refl _, rfl, fun a h => by omega, fun a h h' => by omega, Below.refl _ _⟩
  case round =>
    obtain ⟨i, j, rfl, rfl, hij, hjn, rfl, h0, h1, hb⟩ := hrel
    have HI := Lib.hid (And.intro h0 (And.intro h1 hb))
    clear h0 h1 hb
    by_cases hlt : i < j
    · have hz : (i : Int) < (j : Int) := by omega
      go_upto_region 4 with fail
      have hh : ((i : Int) + (j : Int)) / 2 = (((i + j) / 2 : Nat) : Int) := by omega
      have hm1 : i ≤ (i + j) / 2 := by omega
      have hm2 : (i + j) / 2 < j := by omega
      simp only [hh]
      generalize (i + j) / 2 = m at *
      clear hh
      cases hp : p m with
      | true =>
        have HP := Lib.hid hp
        clear hp
        go_wp2_with (go_at_call 60; refine (HF wr m (by omega) HI.out.2.2).mono ?_; rw [HP.out]; rintro e W1 ⟨rfl, hb1⟩; have HB1 := Lib.hid (HI.out.2.2.trans (hb1.mono HI.out.2.2.size)); clear hb1)
        go_roundg (m - i)
        case measure => omega
        case rel => exact ⟨i, m, rfl, rfl, hm1, by omega, rfl, HI.out.1, fun a ha hb => HM m a ha hb HP.out, HB1.out⟩
      | false =>
        have HP := Lib.hid hp
        clear hp
        have hw : IntKind.i64.wrap ((m : Int) + 1) = ((m + 1 : Nat) : Int) := by unfold IntKind.wrap; simp [IntKind.signed, IntKind.bits]; omega
        go_wp2_with (go_at_call 60; refine (HF wr m (by omega) HI.out.2.2).mono ?_; rw [HP.out]; rintro e W1 ⟨rfl, hb1⟩; have HB1 := Lib.hid (HI.out.2.2.trans (hb1.mono HI.out.2.2.size)); clear hb1)
        go_roundg (j - (m + 1))
        case measure => omega
        case rel => exact ⟨m + 1, j, by rw [show ((m + 1 : Nat) : Int) = (m : Int) + 1 by omega], rfl, by omega, hjn, rfl, fun a ha => by
          by_cases hpa : p a = true
          · have := HM a m (by omega) (by omega) hpa
            rw [HP.out] at this; cases this
          · exact Bool.eq_false_iff.2 hpa, HI.out.2.1, HB1.out⟩
    · obtain rfl : i = j := by omega
      have hz : ¬ ((i : Int) < (i : Int)) := by omega
      have HC := Lib.hid (count_upto p i n hjn HI.out.1 HI.out.2.1)
      go_wp2
      go_ret
      exact ⟨by rw [HC.out]; rfl, HI.out.2.2⟩
theorem pl_wrap_one {i : Int} {n : Int} (h0 : 0 ≤ i) (h1 : i < n) (hn : n ≤ 9223372036854775807) : wrap64 (i + 1) = i + 1 := by
  unfold wrap64
  omega
theorem pl_or_eq (k : Nat) (hk : 3 ≤ k) (x y : Int) : cmp_Or_int.f k [x, y] = some (if x = 0 then y else x) := by
  obtain ⟨k, rfl⟩ : ∃ m, k = m + 3 := ⟨k - 3, by omega⟩
  have w1 : wrap64 (0 + 1) = 1 := by rw [pl_wrap_one (n := 10) (by omega) (by omega) (by omega)]; rfl
  have w2 : wrap64 (1 + 1) = 2 := by rw [pl_wrap_one (n := 10) (by omega) (by omega) (by omega)]; rfl
  have r0 : rd [x, y] 0 = x := rfl
  have r1 : rd [x, y] 1 = y := rfl
  have hl : (([x, y] : List Int).length : Int) = 2 := rfl
  unfold cmp_Or_int.f
  rw [hl]
  unfold cmp_Or_int.l0
  rw [if_pos (by omega), if_pos (by omega), hl, if_pos (by omega), r0, w1]
  by_cases h : x = 0
  · rw [if_pos h, if_pos h]
    unfold cmp_Or_int.l0
    rw [if_pos (by omega), if_pos (by omega), hl, if_pos (by omega), r1, w2]
    by_cases h' : y = 0
    · rw [if_pos h']
      unfold cmp_Or_int.l0
      rw [if_neg (by omega), h']
    · rw [if_neg h']
  · rw [if_neg h, if_neg h]
theorem pl_cmp64_eq (a b : Int) : cmp_Compare_uint64.f a b = some (if a < b then -1 else if b < a then 1 else 0) := by
  unfold cmp_Compare_uint64.f cmp_isNaN_uint64.f
  simp only [bne_self_eq_false, Option.bind_some, Bool.false_eq_true, if_false]
  by_cases h : a < b
  · rw [if_pos h, if_pos h]
  · rw [if_neg h, if_neg h]
    by_cases h' : b < a
    · rw [if_pos h', if_pos h']
    · rw [if_neg h', if_neg h']
theorem pl_cmp32_eq (a b : Int) : cmp_Compare_uint32.f a b = some (if a < b then -1 else if b < a then 1 else 0) := by
  unfold cmp_Compare_uint32.f cmp_isNaN_uint32.f
  simp only [bne_self_eq_false, Option.bind_some, Bool.false_eq_true, if_false]
  by_cases h : a < b
  · rw [if_pos h, if_pos h]
  · rw [if_neg h, if_neg h]
    by_cases h' : b < a
    · rw [if_pos h', if_pos h']
    · rw [if_neg h', if_neg h']
def pl_less (a b c d : Int) : Bool := decide (a < c ∨ a = c ∧ b < d)
theorem pl_less_eq {k : Nat} (hk : 3 ≤ k) (a b c d : Int) : stamp_Less.f k a b c d = some (pl_less a b c d) := by
  unfold stamp_Less.f pl_less
  rw [pl_cmp64_eq, Option.bind_some, pl_cmp32_eq, Option.bind_some, pl_or_eq k hk, Option.bind_some]
  congr 1
  rw [decide_eq_decide]
  split <;> split <;> (try split) <;> (try split) <;> omega
/-! the first place that isn't above a stamp -/
theorem v_add (ad : Addr) (n i : Nat) (hi : 0 < i) : ad.add (n + i) = ⟨(ad.add n).block, (ad.add n).off + i, none⟩ := by
  unfold Addr.add
  rw [if_neg (by omega)]
  split
  · subst n; simp
  · simp; omega
theorem v_cells {w : World} {A : Option Addr} {l : List S31} (h : Kd.C k31 w A l.length l) (j : Nat) (hj : j < l.length) : ∃ ad, A = some ad ∧ w.cell? (ad.add (j * 6)) = some (.int .u64 l[j].f0.f0) ∧ w.cell? ⟨(ad.add (j * 6)).block, (ad.add (j * 6)).off + 1, none⟩ = some (.int .u32 l[j].f0.f1) ∧
    w.cell? ⟨(ad.add (j * 6)).block, (ad.add (j * 6)).off + 2, none⟩ = some (.int .u32 l[j].f1.f0) ∧ w.cell? ⟨(ad.add (j * 6)).block, (ad.add (j * 6)).off + 3, none⟩ = some (.int .u32 l[j].f1.f1) ∧ w.cell? ⟨(ad.add (j * 6)).block, (ad.add (j * 6)).off + 4, none⟩ = some (.string l[j].f2) ∧ w.cell? ⟨(ad.add (j * 6)).block, (ad.add (j * 6)).off + 5, none⟩ = some (.bool l[j].f3) := by
  obtain ⟨ad, hA, hc⟩ := h.2.2 (by omega)
  obtain ⟨c, h1, h2, h3⟩ := hc j _ (List.getElem?_eq_getElem hj)
  have e := k31_open h2
  subst e
  refine ⟨ad, hA, h3 0 _ rfl, ?_, ?_, ?_, ?_, ?_⟩
  · rw [← v_add ad (j * 6) 1 (by omega)]; exact h3 1 _ rfl
  · rw [← v_add ad (j * 6) 2 (by omega)]; exact h3 2 _ rfl
  · rw [← v_add ad (j * 6) 3 (by omega)]; exact h3 3 _ rfl
  · rw [← v_add ad (j * 6) 4 (by omega)]; exact h3 4 _ rfl
  · rw [← v_add ad (j * 6) 5 (by omega)]; exact h3 5 _ rfl
def pl_above (t0 t1 : Int) (x : S31) : Bool := pl_less t0 t1 x.f0.f0 x.f0.f1
set_option maxHeartbeats 1000000 in
theorem place1_walk {W : World} {A : Option Addr} {c : Nat} {l : List S31} {t0 t1 : Int} {bt bs : Nat} (h1 : W.heap[bt]? = some (.cells #[.int .u64 t0, .int .u32 t1] 27 (0, 0))) (h2 : W.heap[bs]? = some (.cells #[.slice A l.length c] 22 (0, 0))) (hr : Kd.C k31 W A l.length l) (i : Nat) (hi : i < l.length) :
    Calls Try.prog 60 #[.int .i64 i, .pointer (some ⟨bt, 0, none⟩), .pointer (some ⟨bs, 0, none⟩)] W fun e W' => e = .returned (.bool (!pl_above t0 t1 l[i])) ∧ Below W.heap.size W W' := by
  obtain ⟨ad, rfl, a0, a1, _⟩ := v_cells hr i hi
  have c0 : W.cell? ⟨bt, 0, none⟩ = some (.int .u64 t0) := (blk_cell h1 0).trans rfl
  have c1 : W.cell? ⟨bt, 1, none⟩ = some (.int .u32 t1) := (blk_cell h1 1).trans rfl
  have c2 : W.cell? ⟨bs, 0, none⟩ = some (.slice (some ad) l.length c) := (blk_cell h2 0).trans rfl
  have hz : (i : Int) < (l.length : Int) := by omega
  have HL : Hid (stamp_Less.f 3 t0 t1 l[i].f0.f0 l[i].f0.f1 = some (pl_above t0 t1 l[i])) := Lib.hid (pl_less_eq (Nat.le_refl _) _ _ _ _)
  clear h1 h2 hr
  generalize pl_above t0 t1 l[i] = b at *
  generalize l[i].f0.f0 = x0 at *
  generalize l[i].f0.f1 = x1 at *
  go_enter Try.func60, Try.ntmps60
  go_upto_region 1 with fail
  go_region_with (first
    | (go_at_call 48
       refine (stamp_Less.calls 3 t0 t1 x0 x1 b W.drew HL.out).mono ?_
       rintro e W1 ⟨rfl, hb⟩
       have HB : Hid (Below W.heap.size W W1) := Lib.hid ((below_drew (Below.refl W.heap.size W)).trans hb)
       clear hb))
  all_goals go_wp2
  all_goals go_ret
  all_goals exact ⟨rfl, HB.out⟩
def chain_place.f (k : Nat) (l0 : List S31) (a1_0 : Int) (a1_1 : Int) : Option Int := if l0.length ≤ 1000000000 ∧ (∀ a b : Fin l0.length, a.val ≤ b.val → pl_above a1_0 a1_1 l0[a] = false → pl_above a1_0 a1_1 l0[b] = false) then some ((l0.countP (pl_above a1_0 a1_1) : Nat) : Int) else none
theorem count_range (l : List S31) (q : S31 → Bool) : (List.range l.length).countP (fun i => !(match l[i]? with | some x => !q x | none => true)) = l.countP q := by
  induction l with
  | nil => rfl
  | cons x r ih =>
    rw [List.length_cons, List.range_succ_eq_map, List.countP_cons, List.countP_map, List.countP_cons]
    have : (List.range r.length).countP ((fun i => !(match (x :: r)[i]? with | some x => !q x | none => true)) ∘ Nat.succ) = r.countP q := by rw [← ih]; rfl
    rw [this]
    simp
set_option maxHeartbeats 1000000 in
theorem chain_place.calls (k : Nat) (A0 : Option Addr) (c0 : Nat) (l0 : List (S31)) (a1_0 : Int) (a1_1 : Int) (r : Int) (w : World) (hr0 : Kd.C k31 w A0 l0.length l0) (hc0 : l0.length ≤ c0) (h : chain_place.f k l0 a1_0 a1_1 = some r) :
    Calls Try.prog 44 #[.slice A0 l0.length c0, .agg #[.int .u64 a1_0, .int .u32 a1_1]] w fun e w' => e = .returned (.int .i64 r) ∧ Below w.heap.size w w' := by
  unfold chain_place.f at h
  split at h
  · rename_i hok
    obtain rfl := Option.some.inj h
    have HR := Lib.hid (And.intro hr0 hok)
    clear hr0 hok h
    go_enter Try.func44, Try.ntmps44
    go_wp2_with fail
    obtain ⟨W0, hW0⟩ : ∃ W0, W0 = (w.alloc (.cells #[.slice A0 l0.length c0] 22)).alloc (.cells #[.int .u64 a1_0, .int .u32 a1_1] 27) := ⟨_, rfl⟩
    have hb0 : Below w.heap.size w W0 := by rw [hW0]; exact below_alloc (below_alloc (Below.refl _ _) _) _
    have hs : W0.heap[w.heap.size]? = some (.cells #[.slice A0 l0.length c0] 22 (0, 0)) := by rw [hW0]; exact (Below.heap_alloc _ _ _ (by simp)).trans (blk_new w _)
    have ht : W0.heap[w.heap.size + 1]? = some (.cells #[.int .u64 a1_0, .int .u32 a1_1] 27 (0, 0)) := by rw [hW0]; have := blk_new (w.alloc (.cells #[.slice A0 l0.length c0] 22)) (.cells #[.int .u64 a1_0, .int .u32 a1_1] 27); simpa using this
    have HW := Lib.hid (And.intro hb0 (And.intro hs ht))
    rw [← hW0]
    clear hb0 hs ht hW0
    have hS := search_walk l0.length HR.out.2.1 (fun i => match l0[i]? with | some x => !pl_above a1_0 a1_1 x | none => true) #[.pointer (some ⟨w.heap.size + 1, 0, none⟩), .pointer (some ⟨w.heap.size, 0, none⟩)] W0
      (fun W i hi hb => by
        have e := place1_walk (W := W) ((hb.block _ (blk_lt HW.out.2.2)).trans HW.out.2.2) ((hb.block _ (blk_lt HW.out.2.1)).trans HW.out.2.1) (Kd.C_below HR.out.1 (HW.out.1.trans (hb.mono HW.out.1.size))) i hi
        rw [List.getElem?_eq_getElem hi]
        exact e)
      (fun a b hab hb hp => by
        rw [List.getElem?_eq_getElem (by omega : a < l0.length)] at hp
        rw [List.getElem?_eq_getElem hb]
        have := HR.out.2.2 ⟨a, by omega⟩ ⟨b, hb⟩ hab (by simpa using hp)
        simpa using this)
    rw [count_range] at hS
    refine hS.mono ?_
    rintro e W1 ⟨rfl, hb1⟩
    have HB1 := Lib.hid (HW.out.1.trans (hb1.mono HW.out.1.size))
    clear hb1 hS
    go_wp2
    go_ret
    exact ⟨rfl, HB1.out⟩
  · cases h
theorem chain_place.mono : ∀ a0 a1 a2 k, LeO (chain_place.f k a0 a1 a2) (chain_place.f (k + 1) a0 a1 a2) := fun _ _ _ _ => LeO.refl _

/-! ### chain_At: function 16 -/
def chain_At.f (k : Nat) (l0 : List (S31)) (a1_0 : Int) (a1_1 : Int) : Option (Int × Int × Int × Int × ByteArray × Bool × Bool) := (chain_Right.f k l0).bind fun t121 => (if t121 = true then ((chain_place.f k l0 a1_0 a1_1).bind fun t122 => (if t122 = (l0.length : Int) then (some (0, 0, 0, 0, (⟨#[]⟩ : ByteArray), false, false)) else (if 0 ≤ t122 then (if t122 < (l0.length : Int) then (some ((rd_T31 l0 t122).f0.f0, (rd_T31 l0 t122).f0.f1, (rd_T31 l0 t122).f1.f0, (rd_T31 l0 t122).f1.f1, (rd_T31 l0 t122).f2, (rd_T31 l0 t122).f3, true)) else (none)) else (none)))) else (some (0, 0, 0, 0, (⟨#[]⟩ : ByteArray), false, false)))
theorem chain_At.mono : ∀ a0 a1 a2 k, LeO (chain_At.f k a0 a1 a2) (chain_At.f (k + 1) a0 a1 a2) := by
  intro a0 a1 a2 k
  unfold chain_At.f
  repeat' first
      | (with_reducible exact chain_Right.mono _ _)
      | (with_reducible exact chain_place.mono _ _ _ _)
      | (with_reducible exact LeO.refl _)
      | (with_reducible exact LeO.none _)
      | (with_reducible refine LeO.ite ?_ ?_)
      | (with_reducible refine LeO.bind ?_ (fun _ => ?_))
      | exact chain_Right.mono _ _
      | exact chain_place.mono _ _ _ _
      | exact LeO.none _
      | refine LeO.ite ?_ ?_
      | refine LeO.bind ?_ (fun _ => ?_)
set_option maxHeartbeats 8000000 in
set_option maxRecDepth 100000 in
theorem chain_At.calls (k : Nat) (A0 : Option Addr) (c0 : Nat) (l0 : List (S31)) (a1_0 : Int) (a1_1 : Int) (r1 : Int) (r2 : Int) (r3 : Int) (r4 : Int) (r5 : ByteArray) (r6 : Bool) (r7 : Bool) (w : World) (hr0 : Kd.C k31 w A0 l0.length l0) (hc0 : l0.length ≤ c0) (h : chain_At.f k l0 a1_0 a1_1 = some (r1, r2, r3, r4, r5, r6, r7)) :
    Calls Try.prog 16 #[.slice A0 l0.length c0, .agg #[.int .u64 a1_0, .int .u32 a1_1]] w fun e w' => e = .returned (.tuple #[.agg #[.int .u64 r1, .int .u32 r2, .int .u32 r3, .int .u32 r4, .string r5, .bool r6], .bool r7]) ∧ Below w.heap.size w w' := by
  have hu27 := Try.underlying27
  have hu31 := Try.underlying31
  have HR0 := Aside0.mk hr0
  have HC0 := Aside0.mk hc0
  clear hr0 hc0
  have HB := Aside0.mk (Below.refl w.heap.size w)
  have H : ((chain_Right.f k l0).bind fun t121 => (if t121 = true then ((chain_place.f k l0 a1_0 a1_1).bind fun t122 => (if t122 = (l0.length : Int) then (some (0, 0, 0, 0, (⟨#[]⟩ : ByteArray), false, false)) else (if 0 ≤ t122 then (if t122 < (l0.length : Int) then (some ((rd_T31 l0 t122).f0.f0, (rd_T31 l0 t122).f0.f1, (rd_T31 l0 t122).f1.f0, (rd_T31 l0 t122).f1.f1, (rd_T31 l0 t122).f2, (rd_T31 l0 t122).f3, true)) else (none)) else (none)))) else (some (0, 0, 0, 0, (⟨#[]⟩ : ByteArray), false, false)))) = some (r1, r2, r3, r4, r5, r6, r7) := h
  clear h
  replace H := Option.bind_eq_some_iff.mp H
  obtain ⟨t121, A30, H⟩ := H
  replace H : (if t121 = true then ((chain_place.f k l0 a1_0 a1_1).bind fun t122 => (if t122 = (l0.length : Int) then (some (0, 0, 0, 0, (⟨#[]⟩ : ByteArray), false, false)) else (if 0 ≤ t122 then (if t122 < (l0.length : Int) then (some ((rd_T31 l0 t122).f0.f0, (rd_T31 l0 t122).f0.f1, (rd_T31 l0 t122).f1.f0, (rd_T31 l0 t122).f1.f1, (rd_T31 l0 t122).f2, (rd_T31 l0 t122).f3, true)) else (none)) else (none)))) else (some (0, 0, 0, 0, (⟨#[]⟩ : ByteArray), false, false))) = some (r1, r2, r3, r4, r5, r6, r7) := H
  have A3 := Aside0.mk A30
  clear A30
  by_cases c4 : t121 = true
  · subst c4
    have H1 : ((chain_place.f k l0 a1_0 a1_1).bind fun t122 => (if t122 = (l0.length : Int) then (some (0, 0, 0, 0, (⟨#[]⟩ : ByteArray), false, false)) else (if 0 ≤ t122 then (if t122 < (l0.length : Int) then (some ((rd_T31 l0 t122).f0.f0, (rd_T31 l0 t122).f0.f1, (rd_T31 l0 t122).f1.f0, (rd_T31 l0 t122).f1.f1, (rd_T31 l0 t122).f2, (rd_T31 l0 t122).f3, true)) else (none)) else (none)))) = some (r1, r2, r3, r4, r5, r6, r7) := by rw [if_pos rfl] at H; exact H
    clear H
    have H := H1
    clear H1
    replace H := Option.bind_eq_some_iff.mp H
    obtain ⟨t122, A50, H⟩ := H
    replace H : (if t122 = (l0.length : Int) then (some (0, 0, 0, 0, (⟨#[]⟩ : ByteArray), false, false)) else (if 0 ≤ t122 then (if t122 < (l0.length : Int) then (some ((rd_T31 l0 t122).f0.f0, (rd_T31 l0 t122).f0.f1, (rd_T31 l0 t122).f1.f0, (rd_T31 l0 t122).f1.f1, (rd_T31 l0 t122).f2, (rd_T31 l0 t122).f3, true)) else (none)) else (none))) = some (r1, r2, r3, r4, r5, r6, r7) := H
    have A5 := Aside0.mk A50
    clear A50
    by_cases c6 : t122 = (l0.length : Int)
    · rw [if_pos c6] at H
      have c6b0 : (t122 == (l0.length : Int)) = true := beq_iff_eq.mpr c6
      have c6b1 : (t122 != (l0.length : Int)) = false := bne_eq_false_iff_eq.mpr c6
      clear c6
      simp only [Option.some.injEq, Prod.mk.injEq] at H
      obtain ⟨rfl, rfl, rfl, rfl, rfl, rfl, rfl⟩ := H
      go_enter Try.func16, Try.ntmps16
      go_wp2_with (first | ((with_reducible refine gate_dst (N := 3) rfl ?_); refine box_event ?hg (N := 3) ?hd (cs := #[.int .u64 a1_0, .int .u32 a1_1]) (t := 27) ?hr ?_; (case hd => rfl); (case hg => rfl); (case hr => first | (go_simp; done) | (go_simp; rfl)); intro gb119 hg w7 hbox hb; have n0_ := Aside0.mk (below_step (by repeat (first | (with_reducible first | exact HB.out | apply below_alloc | apply pw_below_drewN | apply below_drew1) | exact HB.out)) hb); have n1_ := Aside0.mk (hbox); have n2_ := Aside0.mk ((by rw [hg]; exact (below_size (by repeat (first | (with_reducible first | exact HB.out | apply below_alloc | apply pw_below_drewN | apply below_drew1) | exact HB.out))) : w.heap.size ≤ gb119)); have n3_ := Aside0.mk ((by rw [hg]; exact (below_size (by repeat (first | (with_reducible first | exact HB.out | apply below_alloc | apply pw_below_drewN | apply below_drew1) | exact HB.out))) : w.heap.size ≤ gb119)); clear HB; have HB := n0_; have BK119 := n1_; have GW119 := n2_; have GE119 := n3_; clear n0_ n1_ n2_ n3_; clear hb hbox hg) | ((with_reducible refine gate_dst (N := 4) rfl ?_); refine box_event ?hg (N := 4) ?hd (cs := #[.int .u64 0, .int .u32 0, .int .u32 0, .int .u32 0, .string (⟨#[]⟩ : ByteArray), .bool false]) (t := 31) ?hr ?_; (case hd => rfl); (case hg => rfl); (case hr => first | (go_simp; done) | (go_simp; rfl)); intro gb120 hg w8 hbox hb; have n0_ := Aside0.mk (blk_below (g := gb119) (o := .cells #[.int .u64 a1_0, .int .u32 a1_1] 27 (0, 0)) (by (with_reducible repeat (first | refine blk_drewN ?_ _ | refine blk_drew ?_ | refine blk_alloc ?_ _)); exact BK119.out) hb); have n1_ := Aside0.mk (below_step (by repeat (first | (with_reducible first | exact HB.out | apply below_alloc | apply pw_below_drewN | apply below_drew1 | refine below_set ?_ GE119.out) | exact HB.out)) hb); have n2_ := Aside0.mk (hbox); have n3_ := Aside0.mk ((by rw [hg]; exact (below_size (by repeat (first | (with_reducible first | exact HB.out | apply below_alloc | apply pw_below_drewN | apply below_drew1 | refine below_set ?_ GE119.out) | exact HB.out))) : w.heap.size ≤ gb120)); have n4_ := Aside0.mk ((by rw [hg]; exact (below_size (by repeat (first | (with_reducible first | exact HB.out | apply below_alloc | apply pw_below_drewN | apply below_drew1 | refine below_set ?_ GE119.out) | exact HB.out))) : w.heap.size ≤ gb120)); have n5_ := Aside0.mk ((by rw [hg]; exact Nat.ne_of_lt (blk_lt (g := gb119) (o := .cells #[.int .u64 a1_0, .int .u32 a1_1] 27 (0, 0)) (by (with_reducible repeat (first | refine blk_drewN ?_ _ | refine blk_drew ?_ | refine blk_alloc ?_ _)); exact BK119.out)) : gb119 ≠ gb120)); have n6_ := Aside0.mk ((by rw [hg]; exact Nat.ne_of_gt (blk_lt (g := gb119) (o := .cells #[.int .u64 a1_0, .int .u32 a1_1] 27 (0, 0)) (by (with_reducible repeat (first | refine blk_drewN ?_ _ | refine blk_drew ?_ | refine blk_alloc ?_ _)); exact BK119.out)) : gb120 ≠ gb119)); clear BK119; clear HB; have BK119 := n0_; have HB := n1_; have BK120 := n2_; have GW120 := n3_; have GE120 := n4_; have NB119_120 := n5_; have NB120_119 := n6_; clear n0_ n1_ n2_ n3_ n4_ n5_ n6_; clear hb hbox hg) | ((with_reducible refine gate_callee (f := 19) rfl ?_); refine goesL_ (some 8) rfl rfl Try.func19 (by kernel_rfl) rfl #[.slice A0 l0.length c0] rfl (by (try simp only [List.map_toArray, List.map_cons, List.map_nil]); first | done | rfl | (simp only [List.length_drop, List.length_take]; rfl)) ?_; (with_reducible refine (chain_Right.calls k _ _ l0 true _ ?side1 ?side2 A3.out).mono ?_); (case side1 => repeat (first | exact (Kd.C_below HR0.out HB.out) | (with_reducible refine Kd.C_alloc ?_ _) | (with_reducible refine Kd.C_drewN ?_ _) | (with_reducible refine Kd.C_drew ?_))); (case side2 => exact HC0.out); rintro e w9 ⟨rfl, hb⟩; refine ⟨_, rfl, ?_⟩; have n0_ := Aside0.mk (blk_below (g := gb119) (o := .cells #[.int .u64 a1_0, .int .u32 a1_1] 27 (0, 0)) (by (with_reducible repeat (first | refine blk_drewN ?_ _ | refine blk_drew ?_ | refine blk_alloc ?_ _)); exact BK119.out) hb); have n1_ := Aside0.mk (blk_below (g := gb120) (o := .cells #[.int .u64 0, .int .u32 0, .int .u32 0, .int .u32 0, .string (⟨#[]⟩ : ByteArray), .bool false] 31 (0, 0)) (by (with_reducible repeat (first | refine blk_drewN ?_ _ | refine blk_drew ?_ | refine blk_alloc ?_ _)); exact BK120.out) hb); have n2_ := Aside0.mk (below_step (by repeat (first | (with_reducible first | exact HB.out | apply below_alloc | apply pw_below_drewN | apply below_drew1 | refine below_set ?_ GE119.out | refine below_set ?_ GE120.out) | exact HB.out)) hb); clear BK119; clear BK120; clear HB; have BK119 := n0_; have BK120 := n1_; have HB := n2_; clear n0_ n1_ n2_; (try clear hb); (try clear hb2); (try clear hk); (try clear hi); have hnb10 := NB119_120.out; have hnc10 := NB120_119.out; have hcz11_0 : w9.cell? ⟨gb119, 0, none⟩ = some (.int .u64 a1_0) := (blk_cell BK119.out 0).trans rfl; have hcz11_1 : w9.cell? ⟨gb119, 1, none⟩ = some (.int .u32 a1_1) := (blk_cell BK119.out 1).trans rfl; have hfz11_0 := blk_frozen BK119.out 0; have hfz11_1 := blk_frozen BK119.out 1) | ((with_reducible refine gate_callee (f := 44) rfl ?_); refine goesL_ (some 13) rfl rfl Try.func44 (by kernel_rfl) rfl #[.slice A0 l0.length c0, .agg #[.int .u64 a1_0, .int .u32 a1_1]] rfl (by (try simp only [List.map_toArray, List.map_cons, List.map_nil]); first | done | rfl | (simp only [List.length_drop, List.length_take]; rfl)) ?_; (with_reducible refine (chain_place.calls k _ _ l0 a1_0 a1_1 t122 _ ?side1 ?side2 A5.out).mono ?_); (case side1 => repeat (first | exact (Kd.C_below HR0.out HB.out) | (with_reducible refine Kd.C_alloc ?_ _) | (with_reducible refine Kd.C_drewN ?_ _) | (with_reducible refine Kd.C_drew ?_))); (case side2 => exact HC0.out); rintro e w12 ⟨rfl, hb⟩; refine ⟨_, rfl, ?_⟩; have n0_ := Aside0.mk (blk_below (g := gb119) (o := .cells #[.int .u64 a1_0, .int .u32 a1_1] 27 (0, 0)) (by (with_reducible repeat (first | refine blk_drewN ?_ _ | refine blk_drew ?_ | refine blk_alloc ?_ _)); exact BK119.out) hb); have n1_ := Aside0.mk (blk_below (g := gb120) (o := .cells #[.int .u64 0, .int .u32 0, .int .u32 0, .int .u32 0, .string (⟨#[]⟩ : ByteArray), .bool false] 31 (0, 0)) (by (with_reducible repeat (first | refine blk_drewN ?_ _ | refine blk_drew ?_ | refine blk_alloc ?_ _)); exact BK120.out) hb); have n2_ := Aside0.mk (below_step (by repeat (first | (with_reducible first | exact HB.out | apply below_alloc | apply pw_below_drewN | apply below_drew1 | refine below_set ?_ GE119.out | refine below_set ?_ GE120.out) | exact HB.out)) hb); clear BK119; clear BK120; clear HB; have BK119 := n0_; have BK120 := n1_; have HB := n2_; clear n0_ n1_ n2_; (try clear hb); (try clear hb2); (try clear hk); (try clear hi); have hcz13_0 : w12.cell? ⟨gb120, 0, none⟩ = some (.int .u64 0) := (blk_cell BK120.out 0).trans rfl; have hcz13_1 : w12.cell? ⟨gb120, 1, none⟩ = some (.int .u32 0) := (blk_cell BK120.out 1).trans rfl; have hcz13_2 : w12.cell? ⟨gb120, 2, none⟩ = some (.int .u32 0) := (blk_cell BK120.out 2).trans rfl; have hcz13_3 : w12.cell? ⟨gb120, 3, none⟩ = some (.int .u32 0) := (blk_cell BK120.out 3).trans rfl; have hcz13_4 : w12.cell? ⟨gb120, 4, none⟩ = some (.string (⟨#[]⟩ : ByteArray)) := (blk_cell BK120.out 4).trans rfl; have hcz13_5 : w12.cell? ⟨gb120, 5, none⟩ = some (.bool false) := (blk_cell BK120.out 5).trans rfl; have hfz13_0 := blk_frozen BK120.out 0; have hfz13_1 := blk_frozen BK120.out 1; have hfz13_2 := blk_frozen BK120.out 2; have hfz13_3 := blk_frozen BK120.out 3; have hfz13_4 := blk_frozen BK120.out 4; have hfz13_5 := blk_frozen BK120.out 5))
      refine bodyPost_ret (results_ct rfl _ _ gb120 31 #[.int .u64 0, .int .u32 0, .int .u32 0, .int .u32 0, .string (⟨#[]⟩ : ByteArray), .bool false] (0, 0) _ rfl (by (with_reducible repeat (first | refine blk_drewN ?_ _ | refine blk_drew ?_ | refine blk_alloc ?_ _)); refine blk_put (cs := #[.int .u64 0, .int .u32 0, .int .u32 0, .int .u32 0, .string (⟨#[]⟩ : ByteArray), .bool false]) ?_ 5 _ rfl; (with_reducible repeat (first | refine blk_drewN ?_ _ | refine blk_drew ?_ | refine blk_alloc ?_ _)); refine blk_put (cs := #[.int .u64 0, .int .u32 0, .int .u32 0, .int .u32 0, .string (⟨#[]⟩ : ByteArray), .bool false]) ?_ 4 _ rfl; (with_reducible repeat (first | refine blk_drewN ?_ _ | refine blk_drew ?_ | refine blk_alloc ?_ _)); refine blk_put (cs := #[.int .u64 0, .int .u32 0, .int .u32 0, .int .u32 0, .string (⟨#[]⟩ : ByteArray), .bool false]) ?_ 3 _ rfl; (with_reducible repeat (first | refine blk_drewN ?_ _ | refine blk_drew ?_ | refine blk_alloc ?_ _)); refine blk_put (cs := #[.int .u64 0, .int .u32 0, .int .u32 0, .int .u32 0, .string (⟨#[]⟩ : ByteArray), .bool false]) ?_ 2 _ rfl; (with_reducible repeat (first | refine blk_drewN ?_ _ | refine blk_drew ?_ | refine blk_alloc ?_ _)); refine blk_put (cs := #[.int .u64 0, .int .u32 0, .int .u32 0, .int .u32 0, .string (⟨#[]⟩ : ByteArray), .bool false]) ?_ 1 _ rfl; (with_reducible repeat (first | refine blk_drewN ?_ _ | refine blk_drew ?_ | refine blk_alloc ?_ _)); refine blk_put (cs := #[.int .u64 0, .int .u32 0, .int .u32 0, .int .u32 0, .string (⟨#[]⟩ : ByteArray), .bool false]) ?_ 0 _ rfl; (with_reducible repeat (first | refine blk_drewN ?_ _ | refine blk_drew ?_ | refine blk_alloc ?_ _)); exact BK120.out) Try.underlying31 rfl (by kernel_rfl)) rfl ?_
      exact ⟨by first | rfl | (simp [errW_none, errW_some] <;> rfl) | (simp [*, errW_none, errW_some] <;> rfl), by repeat (first | (with_reducible first | exact HB.out | apply below_alloc | apply pw_below_drewN | apply below_drew1 | refine below_set ?_ GE119.out | refine below_set ?_ GE120.out) | exact HB.out)⟩
    · rw [if_neg c6] at H
      have c6b0 : (t122 == (l0.length : Int)) = false := beq_eq_false_iff_ne.mpr c6
      have c6b1 : (t122 != (l0.length : Int)) = true := bne_iff_ne.mpr c6
      by_cases c14 : 0 ≤ t122
      · rw [if_pos c14] at H
        have c14b0 : decide (0 ≤ t122) = true := decide_eq_true c14
        clear c14
        by_cases c15 : t122 < (l0.length : Int)
        · rw [if_pos c15] at H
          have c15b0 : decide (t122 < (l0.length : Int)) = true := decide_eq_true c15
          clear c15
          simp only [Option.some.injEq, Prod.mk.injEq] at H
          obtain ⟨rfl, rfl, rfl, rfl, rfl, rfl, rfl⟩ := H
          go_enter Try.func16, Try.ntmps16
          go_wp2_with (first | ((with_reducible refine gate_dst (N := 3) rfl ?_); refine box_event ?hg (N := 3) ?hd (cs := #[.int .u64 a1_0, .int .u32 a1_1]) (t := 27) ?hr ?_; (case hd => rfl); (case hg => rfl); (case hr => first | (go_simp; done) | (go_simp; rfl)); intro gb119 hg w16 hbox hb; have n0_ := Aside0.mk (below_step (by repeat (first | (with_reducible first | exact HB.out | apply below_alloc | apply pw_below_drewN | apply below_drew1) | exact HB.out)) hb); have n1_ := Aside0.mk (hbox); have n2_ := Aside0.mk ((by rw [hg]; exact (below_size (by repeat (first | (with_reducible first | exact HB.out | apply below_alloc | apply pw_below_drewN | apply below_drew1) | exact HB.out))) : w.heap.size ≤ gb119)); have n3_ := Aside0.mk ((by rw [hg]; exact (below_size (by repeat (first | (with_reducible first | exact HB.out | apply below_alloc | apply pw_below_drewN | apply below_drew1) | exact HB.out))) : w.heap.size ≤ gb119)); clear HB; have HB := n0_; have BK119 := n1_; have GW119 := n2_; have GE119 := n3_; clear n0_ n1_ n2_ n3_; clear hb hbox hg) | ((with_reducible refine gate_dst (N := 4) rfl ?_); refine box_event ?hg (N := 4) ?hd (cs := #[.int .u64 0, .int .u32 0, .int .u32 0, .int .u32 0, .string (⟨#[]⟩ : ByteArray), .bool false]) (t := 31) ?hr ?_; (case hd => rfl); (case hg => rfl); (case hr => first | (go_simp; done) | (go_simp; rfl)); intro gb120 hg w17 hbox hb; have n0_ := Aside0.mk (blk_below (g := gb119) (o := .cells #[.int .u64 a1_0, .int .u32 a1_1] 27 (0, 0)) (by (with_reducible repeat (first | refine blk_drewN ?_ _ | refine blk_drew ?_ | refine blk_alloc ?_ _)); exact BK119.out) hb); have n1_ := Aside0.mk (below_step (by repeat (first | (with_reducible first | exact HB.out | apply below_alloc | apply pw_below_drewN | apply below_drew1 | refine below_set ?_ GE119.out) | exact HB.out)) hb); have n2_ := Aside0.mk (hbox); have n3_ := Aside0.mk ((by rw [hg]; exact (below_size (by repeat (first | (with_reducible first | exact HB.out | apply below_alloc | apply pw_below_drewN | apply below_drew1 | refine below_set ?_ GE119.out) | exact HB.out))) : w.heap.size ≤ gb120)); have n4_ := Aside0.mk ((by rw [hg]; exact (below_size (by repeat (first | (with_reducible first | exact HB.out | apply below_alloc | apply pw_below_drewN | apply below_drew1 | refine below_set ?_ GE119.out) | exact HB.out))) : w.heap.size ≤ gb120)); have n5_ := Aside0.mk ((by rw [hg]; exact Nat.ne_of_lt (blk_lt (g := gb119) (o := .cells #[.int .u64 a1_0, .int .u32 a1_1] 27 (0, 0)) (by (with_reducible repeat (first | refine blk_drewN ?_ _ | refine blk_drew ?_ | refine blk_alloc ?_ _)); exact BK119.out)) : gb119 ≠ gb120)); have n6_ := Aside0.mk ((by rw [hg]; exact Nat.ne_of_gt (blk_lt (g := gb119) (o := .cells #[.int .u64 a1_0, .int .u32 a1_1] 27 (0, 0)) (by (with_reducible repeat (first | refine blk_drewN ?_ _ | refine blk_drew ?_ | refine blk_alloc ?_ _)); exact BK119.out)) : gb120 ≠ gb119)); clear BK119; clear HB; have BK119 := n0_; have HB := n1_; have BK120 := n2_; have GW120 := n3_; have GE120 := n4_; have NB119_120 := n5_; have NB120_119 := n6_; clear n0_ n1_ n2_ n3_ n4_ n5_ n6_; clear hb hbox hg) | ((with_reducible refine gate_callee (f := 19) rfl ?_); refine goesL_ (some 8) rfl rfl Try.func19 (by kernel_rfl) rfl #[.slice A0 l0.length c0] rfl (by (try simp only [List.map_toArray, List.map_cons, List.map_nil]); first | done | rfl | (simp only [List.length_drop, List.length_take]; rfl)) ?_; (with_reducible refine (chain_Right.calls k _ _ l0 true _ ?side1 ?side2 A3.out).mono ?_); (case side1 => repeat (first | exact (Kd.C_below HR0.out HB.out) | (with_reducible refine Kd.C_alloc ?_ _) | (with_reducible refine Kd.C_drewN ?_ _) | (with_reducible refine Kd.C_drew ?_))); (case side2 => exact HC0.out); rintro e w18 ⟨rfl, hb⟩; refine ⟨_, rfl, ?_⟩; have n0_ := Aside0.mk (blk_below (g := gb119) (o := .cells #[.int .u64 a1_0, .int .u32 a1_1] 27 (0, 0)) (by (with_reducible repeat (first | refine blk_drewN ?_ _ | refine blk_drew ?_ | refine blk_alloc ?_ _)); exact BK119.out) hb); have n1_ := Aside0.mk (blk_below (g := gb120) (o := .cells #[.int .u64 0, .int .u32 0, .int .u32 0, .int .u32 0, .string (⟨#[]⟩ : ByteArray), .bool false] 31 (0, 0)) (by (with_reducible repeat (first | refine blk_drewN ?_ _ | refine blk_drew ?_ | refine blk_alloc ?_ _)); exact BK120.out) hb); have n2_ := Aside0.mk (below_step (by repeat (first | (with_reducible first | exact HB.out | apply below_alloc | apply pw_below_drewN | apply below_drew1 | refine below_set ?_ GE119.out | refine below_set ?_ GE120.out) | exact HB.out)) hb); clear BK119; clear BK120; clear HB; have BK119 := n0_; have BK120 := n1_; have HB := n2_; clear n0_ n1_ n2_; (try clear hb); (try clear hb2); (try clear hk); (try clear hi); have hnb19 := NB119_120.out; have hnc19 := NB120_119.out; have hcz20_0 : w18.cell? ⟨gb119, 0, none⟩ = some (.int .u64 a1_0) := (blk_cell BK119.out 0).trans rfl; have hcz20_1 : w18.cell? ⟨gb119, 1, none⟩ = some (.int .u32 a1_1) := (blk_cell BK119.out 1).trans rfl; have hfz20_0 := blk_frozen BK119.out 0; have hfz20_1 := blk_frozen BK119.out 1) | ((with_reducible refine gate_callee (f := 44) rfl ?_); refine goesL_ (some 13) rfl rfl Try.func44 (by kernel_rfl) rfl #[.slice A0 l0.length c0, .agg #[.int .u64 a1_0, .int .u32 a1_1]] rfl (by (try simp only [List.map_toArray, List.map_cons, List.map_nil]); first | done | rfl | (simp only [List.length_drop, List.length_take]; rfl)) ?_; (with_reducible refine (chain_place.calls k _ _ l0 a1_0 a1_1 t122 _ ?side1 ?side2 A5.out).mono ?_); (case side1 => repeat (first | exact (Kd.C_below HR0.out HB.out) | (with_reducible refine Kd.C_alloc ?_ _) | (with_reducible refine Kd.C_drewN ?_ _) | (with_reducible refine Kd.C_drew ?_))); (case side2 => exact HC0.out); rintro e w21 ⟨rfl, hb⟩; refine ⟨_, rfl, ?_⟩; have n0_ := Aside0.mk (blk_below (g := gb119) (o := .cells #[.int .u64 a1_0, .int .u32 a1_1] 27 (0, 0)) (by (with_reducible repeat (first | refine blk_drewN ?_ _ | refine blk_drew ?_ | refine blk_alloc ?_ _)); exact BK119.out) hb); have n1_ := Aside0.mk (blk_below (g := gb120) (o := .cells #[.int .u64 0, .int .u32 0, .int .u32 0, .int .u32 0, .string (⟨#[]⟩ : ByteArray), .bool false] 31 (0, 0)) (by (with_reducible repeat (first | refine blk_drewN ?_ _ | refine blk_drew ?_ | refine blk_alloc ?_ _)); exact BK120.out) hb); have n2_ := Aside0.mk (below_step (by repeat (first | (with_reducible first | exact HB.out | apply below_alloc | apply pw_below_drewN | apply below_drew1 | refine below_set ?_ GE119.out | refine below_set ?_ GE120.out) | exact HB.out)) hb); clear BK119; clear BK120; clear HB; have BK119 := n0_; have BK120 := n1_; have HB := n2_; clear n0_ n1_ n2_; (try clear hb); (try clear hb2); (try clear hk); (try clear hi); have p123 : 0 ≤ (t122 : Int) := of_decide_eq_true (by first | (with_reducible assumption) | assumption); have q123 : t122 < (l0.length : Int) := of_decide_eq_true (by first | (with_reducible assumption) | assumption); obtain ⟨ad123, e123, hx123_0, hx123_1, hx123_2, hx123_3, hx123_4, hx123_5⟩ := at_T31 HR0.out t122 p123 q123; cases e123; replace hx123_0 := (HB.out.cell (World.block_lt_of_cell? w _ hx123_0)).trans hx123_0; replace hx123_1 := (HB.out.cell (World.block_lt_of_cell? w _ hx123_1)).trans hx123_1; replace hx123_2 := (HB.out.cell (World.block_lt_of_cell? w _ hx123_2)).trans hx123_2; replace hx123_3 := (HB.out.cell (World.block_lt_of_cell? w _ hx123_3)).trans hx123_3; replace hx123_4 := (HB.out.cell (World.block_lt_of_cell? w _ hx123_4)).trans hx123_4; replace hx123_5 := (HB.out.cell (World.block_lt_of_cell? w _ hx123_5)).trans hx123_5; replace p123 := eq_true p123; replace q123 := eq_true q123; have hcz22_0 : w21.cell? ⟨gb120, 0, none⟩ = some (.int .u64 0) := (blk_cell BK120.out 0).trans rfl; have hcz22_1 : w21.cell? ⟨gb120, 1, none⟩ = some (.int .u32 0) := (blk_cell BK120.out 1).trans rfl; have hcz22_2 : w21.cell? ⟨gb120, 2, none⟩ = some (.int .u32 0) := (blk_cell BK120.out 2).trans rfl; have hcz22_3 : w21.cell? ⟨gb120, 3, none⟩ = some (.int .u32 0) := (blk_cell BK120.out 3).trans rfl; have hcz22_4 : w21.cell? ⟨gb120, 4, none⟩ = some (.string (⟨#[]⟩ : ByteArray)) := (blk_cell BK120.out 4).trans rfl; have hcz22_5 : w21.cell? ⟨gb120, 5, none⟩ = some (.bool false) := (blk_cell BK120.out 5).trans rfl; have hfz22_0 := blk_frozen BK120.out 0; have hfz22_1 := blk_frozen BK120.out 1; have hfz22_2 := blk_frozen BK120.out 2; have hfz22_3 := blk_frozen BK120.out 3; have hfz22_4 := blk_frozen BK120.out 4; have hfz22_5 := blk_frozen BK120.out 5))
          refine bodyPost_ret (results_ct rfl _ _ gb120 31 #[.int .u64 ((rd_T31 l0 t122).f0.f0), .int .u32 ((rd_T31 l0 t122).f0.f1), .int .u32 ((rd_T31 l0 t122).f1.f0), .int .u32 ((rd_T31 l0 t122).f1.f1), .string ((rd_T31 l0 t122).f2), .bool ((rd_T31 l0 t122).f3)] (0, 0) _ rfl (by (with_reducible repeat (first | refine blk_drewN ?_ _ | refine blk_drew ?_ | refine blk_alloc ?_ _)); refine blk_put (cs := #[.int .u64 ((rd_T31 l0 t122).f0.f0), .int .u32 ((rd_T31 l0 t122).f0.f1), .int .u32 ((rd_T31 l0 t122).f1.f0), .int .u32 ((rd_T31 l0 t122).f1.f1), .string ((rd_T31 l0 t122).f2), .bool false]) ?_ 5 _ rfl; (with_reducible repeat (first | refine blk_drewN ?_ _ | refine blk_drew ?_ | refine blk_alloc ?_ _)); refine blk_put (cs := #[.int .u64 ((rd_T31 l0 t122).f0.f0), .int .u32 ((rd_T31 l0 t122).f0.f1), .int .u32 ((rd_T31 l0 t122).f1.f0), .int .u32 ((rd_T31 l0 t122).f1.f1), .string (⟨#[]⟩ : ByteArray), .bool false]) ?_ 4 _ rfl; (with_reducible repeat (first | refine blk_drewN ?_ _ | refine blk_drew ?_ | refine blk_alloc ?_ _)); refine blk_put (cs := #[.int .u64 ((rd_T31 l0 t122).f0.f0), .int .u32 ((rd_T31 l0 t122).f0.f1), .int .u32 ((rd_T31 l0 t122).f1.f0), .int .u32 0, .string (⟨#[]⟩ : ByteArray), .bool false]) ?_ 3 _ rfl; (with_reducible repeat (first | refine blk_drewN ?_ _ | refine blk_drew ?_ | refine blk_alloc ?_ _)); refine blk_put (cs := #[.int .u64 ((rd_T31 l0 t122).f0.f0), .int .u32 ((rd_T31 l0 t122).f0.f1), .int .u32 0, .int .u32 0, .string (⟨#[]⟩ : ByteArray), .bool false]) ?_ 2 _ rfl; (with_reducible repeat (first | refine blk_drewN ?_ _ | refine blk_drew ?_ | refine blk_alloc ?_ _)); refine blk_put (cs := #[.int .u64 ((rd_T31 l0 t122).f0.f0), .int .u32 0, .int .u32 0, .int .u32 0, .string (⟨#[]⟩ : ByteArray), .bool false]) ?_ 1 _ rfl; (with_reducible repeat (first | refine blk_drewN ?_ _ | refine blk_drew ?_ | refine blk_alloc ?_ _)); refine blk_put (cs := #[.int .u64 0, .int .u32 0, .int .u32 0, .int .u32 0, .string (⟨#[]⟩ : ByteArray), .bool false]) ?_ 0 _ rfl; (with_reducible repeat (first | refine blk_drewN ?_ _ | refine blk_drew ?_ | refine blk_alloc ?_ _)); exact BK120.out) Try.underlying31 rfl (by kernel_rfl)) rfl ?_
          exact ⟨by first | rfl | (simp [errW_none, errW_some] <;> rfl) | (simp [*, errW_none, errW_some] <;> rfl), by repeat (first | (with_reducible first | exact HB.out | apply below_alloc | apply pw_below_drewN | apply below_drew1 | refine below_set ?_ GE119.out | refine below_set ?_ GE120.out) | exact HB.out)⟩
        · rw [if_neg c15] at H
          exact absurd H (by simp)
      · rw [if_neg c14] at H
        exact absurd H (by simp)
  · replace c4 := Bool.eq_false_iff.mpr c4
    subst c4
    have H1 : (some (0, 0, 0, 0, (⟨#[]⟩ : ByteArray), false, false)) = some (r1, r2, r3, r4, r5, r6, r7) := by rw [if_neg (show ¬ (false = true) by decide)] at H; exact H
    clear H
    have H := H1
    clear H1
    simp only [Option.some.injEq, Prod.mk.injEq] at H
    obtain ⟨rfl, rfl, rfl, rfl, rfl, rfl, rfl⟩ := H
    go_enter Try.func16, Try.ntmps16
    go_wp2_with (first | ((with_reducible refine gate_dst (N := 3) rfl ?_); refine box_event ?hg (N := 3) ?hd (cs := #[.int .u64 a1_0, .int .u32 a1_1]) (t := 27) ?hr ?_; (case hd => rfl); (case hg => rfl); (case hr => first | (go_simp; done) | (go_simp; rfl)); intro gb119 hg w23 hbox hb; have n0_ := Aside0.mk (below_step (by repeat (first | (with_reducible first | exact HB.out | apply below_alloc | apply pw_below_drewN | apply below_drew1) | exact HB.out)) hb); have n1_ := Aside0.mk (hbox); have n2_ := Aside0.mk ((by rw [hg]; exact (below_size (by repeat (first | (with_reducible first | exact HB.out | apply below_alloc | apply pw_below_drewN | apply below_drew1) | exact HB.out))) : w.heap.size ≤ gb119)); have n3_ := Aside0.mk ((by rw [hg]; exact (below_size (by repeat (first | (with_reducible first | exact HB.out | apply below_alloc | apply pw_below_drewN | apply below_drew1) | exact HB.out))) : w.heap.size ≤ gb119)); clear HB; have HB := n0_; have BK119 := n1_; have GW119 := n2_; have GE119 := n3_; clear n0_ n1_ n2_ n3_; clear hb hbox hg) | ((with_reducible refine gate_dst (N := 4) rfl ?_); refine box_event ?hg (N := 4) ?hd (cs := #[.int .u64 0, .int .u32 0, .int .u32 0, .int .u32 0, .string (⟨#[]⟩ : ByteArray), .bool false]) (t := 31) ?hr ?_; (case hd => rfl); (case hg => rfl); (case hr => first | (go_simp; done) | (go_simp; rfl)); intro gb120 hg w24 hbox hb; have n0_ := Aside0.mk (blk_below (g := gb119) (o := .cells #[.int .u64 a1_0, .int .u32 a1_1] 27 (0, 0)) (by (with_reducible repeat (first | refine blk_drewN ?_ _ | refine blk_drew ?_ | refine blk_alloc ?_ _)); exact BK119.out) hb); have n1_ := Aside0.mk (below_step (by repeat (first | (with_reducible first | exact HB.out | apply below_alloc | apply pw_below_drewN | apply below_drew1 | refine below_set ?_ GE119.out) | exact HB.out)) hb); have n2_ := Aside0.mk (hbox); have n3_ := Aside0.mk ((by rw [hg]; exact (below_size (by repeat (first | (with_reducible first | exact HB.out | apply below_alloc | apply pw_below_drewN | apply below_drew1 | refine below_set ?_ GE119.out) | exact HB.out))) : w.heap.size ≤ gb120)); have n4_ := Aside0.mk ((by rw [hg]; exact (below_size (by repeat (first | (with_reducible first | exact HB.out | apply below_alloc | apply pw_below_drewN | apply below_drew1 | refine below_set ?_ GE119.out) | exact HB.out))) : w.heap.size ≤ gb120)); have n5_ := Aside0.mk ((by rw [hg]; exact Nat.ne_of_lt (blk_lt (g := gb119) (o := .cells #[.int .u64 a1_0, .int .u32 a1_1] 27 (0, 0)) (by (with_reducible repeat (first | refine blk_drewN ?_ _ | refine blk_drew ?_ | refine blk_alloc ?_ _)); exact BK119.out)) : gb119 ≠ gb120)); have n6_ := Aside0.mk ((by rw [hg]; exact Nat.ne_of_gt (blk_lt (g := gb119) (o := .cells #[.int .u64 a1_0, .int .u32 a1_1] 27 (0, 0)) (by (with_reducible repeat (first | refine blk_drewN ?_ _ | refine blk_drew ?_ | refine blk_alloc ?_ _)); exact BK119.out)) : gb120 ≠ gb119)); clear BK119; clear HB; have BK119 := n0_; have HB := n1_; have BK120 := n2_; have GW120 := n3_; have GE120 := n4_; have NB119_120 := n5_; have NB120_119 := n6_; clear n0_ n1_ n2_ n3_ n4_ n5_ n6_; clear hb hbox hg) | ((with_reducible refine gate_callee (f := 19) rfl ?_); refine goesL_ (some 8) rfl rfl Try.func19 (by kernel_rfl) rfl #[.slice A0 l0.length c0] rfl (by (try simp only [List.map_toArray, List.map_cons, List.map_nil]); first | done | rfl | (simp only [List.length_drop, List.length_take]; rfl)) ?_; (with_reducible refine (chain_Right.calls k _ _ l0 false _ ?side1 ?side2 A3.out).mono ?_); (case side1 => repeat (first | exact (Kd.C_below HR0.out HB.out) | (with_reducible refine Kd.C_alloc ?_ _) | (with_reducible refine Kd.C_drewN ?_ _) | (with_reducible refine Kd.C_drew ?_))); (case side2 => exact HC0.out); rintro e w25 ⟨rfl, hb⟩; refine ⟨_, rfl, ?_⟩; have n0_ := Aside0.mk (blk_below (g := gb119) (o := .cells #[.int .u64 a1_0, .int .u32 a1_1] 27 (0, 0)) (by (with_reducible repeat (first | refine blk_drewN ?_ _ | refine blk_drew ?_ | refine blk_alloc ?_ _)); exact BK119.out) hb); have n1_ := Aside0.mk (blk_below (g := gb120) (o := .cells #[.int .u64 0, .int .u32 0, .int .u32 0, .int .u32 0, .string (⟨#[]⟩ : ByteArray), .bool false] 31 (0, 0)) (by (with_reducible repeat (first | refine blk_drewN ?_ _ | refine blk_drew ?_ | refine blk_alloc ?_ _)); exact BK120.out) hb); have n2_ := Aside0.mk (below_step (by repeat (first | (with_reducible first | exact HB.out | apply below_alloc | apply pw_below_drewN | apply below_drew1 | refine below_set ?_ GE119.out | refine below_set ?_ GE120.out) | exact HB.out)) hb); clear BK119; clear BK120; clear HB; have BK119 := n0_; have BK120 := n1_; have HB := n2_; clear n0_ n1_ n2_; (try clear hb); (try clear hb2); (try clear hk); (try clear hi); have hnb26 := NB120_119.out; have hnc26 := NB119_120.out; have hcz27_0 : w25.cell? ⟨gb120, 0, none⟩ = some (.int .u64 0) := (blk_cell BK120.out 0).trans rfl; have hcz27_1 : w25.cell? ⟨gb120, 1, none⟩ = some (.int .u32 0) := (blk_cell BK120.out 1).trans rfl; have hcz27_2 : w25.cell? ⟨gb120, 2, none⟩ = some (.int .u32 0) := (blk_cell BK120.out 2).trans rfl; have hcz27_3 : w25.cell? ⟨gb120, 3, none⟩ = some (.int .u32 0) := (blk_cell BK120.out 3).trans rfl; have hcz27_4 : w25.cell? ⟨gb120, 4, none⟩ = some (.string (⟨#[]⟩ : ByteArray)) := (blk_cell BK120.out 4).trans rfl; have hcz27_5 : w25.cell? ⟨gb120, 5, none⟩ = some (.bool false) := (blk_cell BK120.out 5).trans rfl; have hfz27_0 := blk_frozen BK120.out 0; have hfz27_1 := blk_frozen BK120.out 1; have hfz27_2 := blk_frozen BK120.out 2; have hfz27_3 := blk_frozen BK120.out 3; have hfz27_4 := blk_frozen BK120.out 4; have hfz27_5 := blk_frozen BK120.out 5))
    refine bodyPost_ret (results_ct rfl _ _ gb120 31 #[.int .u64 0, .int .u32 0, .int .u32 0, .int .u32 0, .string (⟨#[]⟩ : ByteArray), .bool false] (0, 0) _ rfl (by (with_reducible repeat (first | refine blk_drewN ?_ _ | refine blk_drew ?_ | refine blk_alloc ?_ _)); refine blk_put (cs := #[.int .u64 0, .int .u32 0, .int .u32 0, .int .u32 0, .string (⟨#[]⟩ : ByteArray), .bool false]) ?_ 5 _ rfl; (with_reducible repeat (first | refine blk_drewN ?_ _ | refine blk_drew ?_ | refine blk_alloc ?_ _)); refine blk_put (cs := #[.int .u64 0, .int .u32 0, .int .u32 0, .int .u32 0, .string (⟨#[]⟩ : ByteArray), .bool false]) ?_ 4 _ rfl; (with_reducible repeat (first | refine blk_drewN ?_ _ | refine blk_drew ?_ | refine blk_alloc ?_ _)); refine blk_put (cs := #[.int .u64 0, .int .u32 0, .int .u32 0, .int .u32 0, .string (⟨#[]⟩ : ByteArray), .bool false]) ?_ 3 _ rfl; (with_reducible repeat (first | refine blk_drewN ?_ _ | refine blk_drew ?_ | refine blk_alloc ?_ _)); refine blk_put (cs := #[.int .u64 0, .int .u32 0, .int .u32 0, .int .u32 0, .string (⟨#[]⟩ : ByteArray), .bool false]) ?_ 2 _ rfl; (with_reducible repeat (first | refine blk_drewN ?_ _ | refine blk_drew ?_ | refine blk_alloc ?_ _)); refine blk_put (cs := #[.int .u64 0, .int .u32 0, .int .u32 0, .int .u32 0, .string (⟨#[]⟩ : ByteArray), .bool false]) ?_ 1 _ rfl; (with_reducible repeat (first | refine blk_drewN ?_ _ | refine blk_drew ?_ | refine blk_alloc ?_ _)); refine blk_put (cs := #[.int .u64 0, .int .u32 0, .int .u32 0, .int .u32 0, .string (⟨#[]⟩ : ByteArray), .bool false]) ?_ 0 _ rfl; (with_reducible repeat (first | refine blk_drewN ?_ _ | refine blk_drew ?_ | refine blk_alloc ?_ _)); exact BK120.out) Try.underlying31 rfl (by kernel_rfl)) rfl ?_
    exact ⟨by first | rfl | (simp [errW_none, errW_some] <;> rfl) | (simp [*, errW_none, errW_some] <;> rfl), by repeat (first | (with_reducible first | exact HB.out | apply below_alloc | apply pw_below_drewN | apply below_drew1 | refine below_set ?_ GE119.out | refine below_set ?_ GE120.out) | exact HB.out)⟩

-- NOT PRINTED: function 69 (api_Version_Get)

-- NOT PRINTED: function 52 (store_Store_chain)

-- NOT PRINTED: function 29 (store_Store_Get)

-- NOT PRINTED: function 75 (api_Version_keys)

-- NOT PRINTED: function 68 (api_Version_Keys)

-- NOT PRINTED: function 51 (store_Store_keys)

-- NOT PRINTED: function 30 (store_Store_Scan)

/-! ### api_Version_46: function 46 -/
/-! slices.Clone at versions -/
def v_list (x : S31) : List Value := [.int .u64 x.f0.f0, .int .u32 x.f0.f1, .int .u32 x.f1.f0, .int .u32 x.f1.f1, .string x.f2, .bool x.f3]
theorem v_M (w : World) (base : Nat) (ok : Nat → Prop) (x : S31) : k31.M w base ok x (v_list x) := ⟨[.int .u64 x.f0.f0, .int .u32 x.f0.f1], [.int .u32 x.f1.f0, .int .u32 x.f1.f1, .string x.f2, .bool x.f3], rfl, ⟨_, _, rfl, rfl, rfl⟩, [.int .u32 x.f1.f0, .int .u32 x.f1.f1], [.string x.f2, .bool x.f3], rfl, ⟨_, _, rfl, rfl, rfl⟩, ⟨_, _, rfl, rfl, rfl⟩⟩
theorem v_reads {w W : World} {A : Option Addr} {n : Nat} {l : List S31} (h : Kd.C k31 w A n l) (hb : Below w.heap.size w W) (V : World) (base : Nat) (ok : Nat → Prop) : ReadsRow (k31.M V base ok) k31.sz W A n l :=
  ReadsRow.imp_ h hb (fun x cs hp => by rw [k31_open hp]; exact v_M _ _ _ _)
def api_Version_46.f (k : Nat) (l0 : List S31) : Option (List S31) := if l0.length ≤ 1000000000 then some l0 else none
set_option maxRecDepth 100000 in
set_option maxHeartbeats 1000000 in
theorem api_Version_46.calls (k : Nat) (A0 : Option Addr) (c0 : Nat) (l0 : List (S31)) (r : List (S31)) (w : World) (hr0 : Kd.C k31 w A0 l0.length l0) (hc0 : l0.length ≤ c0) (h : api_Version_46.f k l0 = some r) :
    Calls Try.prog 46 #[.slice A0 l0.length c0] w fun e w' => ∃ v0_ : Value, e = .returned (v0_) ∧ Kd.R k31 31 w' w.heap.size (fun _ => True) v0_ r ∧ Below w.heap.size w w' := by
  unfold api_Version_46.f at h
  split at h
  · rename_i hl
    obtain rfl := Option.some.inj h
    have HR := Lib.hid (And.intro hr0 hl)
    have hq : ∀ (w : World) (a : Option Addr) (n c n' c' : Nat), (binOp .eql 22 (.slice a n c) (.slice none n' c')).run Try.prog w = .ok (.bool a.isNone) w := fun w a n c n' c' => Lib.run_eql_slice_nil w _ _ a n c n' c' Try.underlying22
    clear hr0 hl h
    cases A0 with
    | none =>
      have he : l0.length = 0 := Classical.byContradiction fun z => by
        obtain ⟨ad, h1, _⟩ := HR.out.1.2.2 (by omega)
        cases h1
      obtain rfl : l0 = [] := List.eq_nil_of_length_eq_zero he
      go_enter Try.func46, Try.ntmps46
      go_wp2
      go_ret
      exact ⟨_, rfl, Kd.R_nil _ _ _ _ _, Below.refl _ _⟩
    | some ad =>
      go_enter Try.func46, Try.ntmps46
      have hrow : Kd.R k31 31 (w.alloc (.cells #[] 31)) w.heap.size (fun _ => True) (.slice (some ⟨w.heap.size, 0, none⟩) 0 0) ([] : List S31) :=
        ⟨fun _ _ => trivial, [], World.ownsRow_made w #[] 0 (Nat.le_refl _) (Nat.zero_le _) rfl, rfl, fun j p hj => by simp at hj⟩
      have HN := Lib.hid hrow
      clear hrow
      go_wp2_with (first | (at_builtin; go_loud (refine Kd.R_append_rows k31 (w0 := w) (W := w.alloc (.cells #[] 31)) w.heap.size rfl _ _ 22 31 _ 48 rfl Try.underlying22 info31 rfl (by decide) (by decide) (.slice (some ⟨w.heap.size, 0, none⟩) 0 0) [] l0 (some ad) l0.length c0 (fun _ => True) (fun _ => False) rfl rfl HN.out ?b0 (fun x cs h => h) (fun k h => h.elim) (fun _ _ => trivial) ?b1 ?b3 ?b2 ?_)) | fail)
      case b0 => exact v_reads HR.out.1 (below_alloc (Below.refl _ _) _) _ _ _
      case b1 => exact below_alloc (Below.refl _ _) _
      case b2 => have := HR.out.2; simp; omega
      case b3 => simp
      intro v1 W1 o1 b1 _ _
      have H1 := Lib.hid (And.intro o1 b1)
      clear o1 b1
      go_wp2
      go_ret
      exact ⟨v1, rfl, H1.out⟩
  · cases h
theorem api_Version_46.mono : ∀ a0 k, LeO (api_Version_46.f k a0) (api_Version_46.f (k + 1) a0) := fun _ _ => LeO.refl _

end Go.Proofs.Ytomcjcoehahikaa.MStoreRuns
