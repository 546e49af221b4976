/- The laws' own functions of the layer 'store': awake, filled; a seat's own text, no law of its own. -/
import Derived.Test.YtomcjcoehahikaaStoMeth
import Derived.Deep.LoopGhost
import Derived.Deep.Cut
import Derived.Lib.Hide
import Derived.StillTailTactics
import Derived.Deep.QuietTactic
import Derived.BigQuiet
import Derived.Outline
import Derived.Deep.RegionWith
import Derived.Deep.RegionHeld3
import Derived.WalkLawsBesides
namespace Go.Proofs.Ytomcjcoehahikaa.Sto
open Go.RowKit Go.Proofs.YtomcjcoehahikaaW.PrintWords Go.Proofs.Ytomcjcoehahikaa.Ord Go.Proofs.Ytomcjcoehahikaa.MStoreRuns Go.Proofs.YtomcjcoehahikaaW.PrintLast
set_option linter.unusedVariables false
set_option linter.unusedSimpArgs false
/-! acts -/
structure S69 where
  f0 : Int
  f1 : Int
  f2 : ByteArray
  f3 : ByteArray
  f4 : S31
def k69 : Kd S69 := Kd.iso (Kd.pair (Kd.int .i64) (Kd.pair (Kd.int .i64) (Kd.pair Kd.string (Kd.pair Kd.string k31)))) (fun x : S69 => (x.f0, (x.f1, (x.f2, (x.f3, x.f4)))))
theorem k69_open {w : World} {x : S69} {cs : List Value} (h : k69.K w x cs) : cs = [.int .i64 x.f0, .int .i64 x.f1, .string x.f2, .string x.f3, .int .u64 x.f4.f0.f0, .int .u32 x.f4.f0.f1, .int .u32 x.f4.f1.f0, .int .u32 x.f4.f1.f1, .string x.f4.f2, .bool x.f4.f3] := by
  obtain ⟨_, _, rfl, rfl, ⟨_, _, rfl, rfl, ⟨_, _, rfl, rfl, ⟨_, _, rfl, rfl, h⟩⟩⟩⟩ := h
  obtain rfl := k31_open h
  exact rfl
theorem add_add (ad : Addr) (n i : Nat) (hi : 0 < i) : ad.add (n + i) = ⟨(ad.add n).block, (ad.add n).off + i, none⟩ := by
  unfold Addr.add
  rw [if_neg (by omega)]
  split
  · subst n; simp
  · simp; omega
theorem act_cells {w : World} {A : Option Addr} {l : List S69} (h : Kd.C k69 w A l.length l) (j : Nat) (hj : j < l.length) : ∃ ad, A = some ad ∧ w.cell? (ad.add (j * 10)) = some (.int .i64 l[j].f0) ∧ w.cell? ⟨(ad.add (j * 10)).block, (ad.add (j * 10)).off + 1, none⟩ = some (.int .i64 l[j].f1) ∧ w.cell? ⟨(ad.add (j * 10)).block, (ad.add (j * 10)).off + 2, none⟩ = some (.string l[j].f2) ∧ w.cell? ⟨(ad.add (j * 10)).block, (ad.add (j * 10)).off + 3, none⟩ = some (.string l[j].f3) ∧ w.cell? ⟨(ad.add (j * 10)).block, (ad.add (j * 10)).off + 4, none⟩ = some (.int .u64 l[j].f4.f0.f0) ∧ w.cell? ⟨(ad.add (j * 10)).block, (ad.add (j * 10)).off + 5, none⟩ = some (.int .u32 l[j].f4.f0.f1) ∧ w.cell? ⟨(ad.add (j * 10)).block, (ad.add (j * 10)).off + 6, none⟩ = some (.int .u32 l[j].f4.f1.f0) ∧ w.cell? ⟨(ad.add (j * 10)).block, (ad.add (j * 10)).off + 7, none⟩ = some (.int .u32 l[j].f4.f1.f1) ∧ w.cell? ⟨(ad.add (j * 10)).block, (ad.add (j * 10)).off + 8, none⟩ = some (.string l[j].f4.f2) ∧ w.cell? ⟨(ad.add (j * 10)).block, (ad.add (j * 10)).off + 9, none⟩ = some (.bool l[j].f4.f3) := by
  obtain ⟨ad, hA, hc⟩ := h.2.2 (by omega)
  obtain ⟨c, h1, h2, h3⟩ := hc j _ (List.getElem?_eq_getElem hj)
  have e := k69_open h2
  subst e
  have hp : ∀ i (u : Value), 0 < i → [Value.int .i64 l[j].f0, .int .i64 l[j].f1, .string l[j].f2, .string l[j].f3, .int .u64 l[j].f4.f0.f0, .int .u32 l[j].f4.f0.f1, .int .u32 l[j].f4.f1.f0, .int .u32 l[j].f4.f1.f1, .string l[j].f4.f2, .bool l[j].f4.f3][i]? = some u → w.cell? ⟨(ad.add (j * 10)).block, (ad.add (j * 10)).off + i, none⟩ = some u := fun i u hi hu => by
    rw [← add_add ad (j * 10) i hi]; exact h3 i _ hu
  exact ⟨ad, hA, h3 0 _ rfl, hp 1 _ (by omega) rfl, hp 2 _ (by omega) rfl, hp 3 _ (by omega) rfl, hp 4 _ (by omega) rfl, hp 5 _ (by omega) rfl, hp 6 _ (by omega) rfl, hp 7 _ (by omega) rfl, hp 8 _ (by omega) rfl, hp 9 _ (by omega) rfl⟩
set_option maxHeartbeats 4000000 in
theorem get_none {W : World} (key : ByteArray) (t0 t1 : Int) : Calls Try.prog 29 #[.pointer none, .string key, .agg #[.int .u64 t0, .int .u32 t1]] W (GetP W (⟨#[]⟩, false)) := by
  have hm := (Mod.refl W []).alloc (.cells #[.int .u64 t0, .int .u32 t1] 27)
  have hb := blk_new W (.cells #[.int .u64 t0, .int .u32 t1] 27)
  have hn := at_vw (k := 2000) right_nil t0 t1 (by simp)
  have H := Lib.hid (And.intro trivial (And.intro hm hb))
  have HN := Lib.hid (And.intro hn trivial)
  clear hm hb hn
  go_enter Try.func29, Try.ntmps29
  go_upto_region 1 with fail
  generalize W.alloc (.cells #[.int .u64 t0, .int .u32 t1] 27) = W1 at H ⊢
  generalize hb : W.heap.size = v at H ⊢
  have HB := Lib.hid hb
  clear hb
  have hc0 : W1.cell? ⟨v, 0, none⟩ = some (.int .u64 t0) := (blk_cell H.out.2.2 0).trans rfl
  have hc1 : W1.cell? ⟨v, 1, none⟩ = some (.int .u32 t1) := (blk_cell H.out.2.2 1).trans rfl
  have hn0 := World.new_ne W1 _ hc0
  have hn1 := World.new_ne W1 _ hc1
  have hsz : W.heap.size ≤ W1.heap.size := H.out.2.1.size
  rw [HB.out] at hsz
  have HZ := Lib.hid hsz
  clear hsz
  all_goals
    go_region_held3 (fun w' => w'.cell? ⟨v, 0, none⟩ = some (.int .u64 t0) ∧ w'.cell? ⟨v, 1, none⟩ = some (.int .u32 t1)) (go_keep) (first
      | (go_at_call 52
         refine (chain_none key).mono ?_
         rintro e W2 ⟨rfl, rfl⟩)
      | (go_at_call 16
         refine (chain_At.calls 2000 none 0 [] t0 t1 0 0 0 0 ⟨#[]⟩ false false _ (C_nil _) (Nat.le_refl 0) HN.out.1).mono ?_
         rintro e W2 ⟨rfl, b2⟩
         first
           | (have h3 : W2.heap[W1.heap.size]? = some (.cells #[.int .u64 0, .int .u32 0, .int .u32 0, .int .u32 0, .string ⟨#[]⟩, .bool false] 31 (0, 0)) := by
                refine blk_below ?_ b2
                (with_reducible repeat (first | refine blk_drewN ?_ _ | refine blk_drew ?_)); exact blk_new _ _
              have g0 : W2.cell? ⟨W1.heap.size, 0, none⟩ = some (.int .u64 0) := (blk_cell h3 0).trans rfl
              have g1 : W2.cell? ⟨W1.heap.size, 1, none⟩ = some (.int .u32 0) := (blk_cell h3 1).trans rfl
              have g2 : W2.cell? ⟨W1.heap.size, 2, none⟩ = some (.int .u32 0) := (blk_cell h3 2).trans rfl
              have g3 : W2.cell? ⟨W1.heap.size, 3, none⟩ = some (.int .u32 0) := (blk_cell h3 3).trans rfl
              have g4 : W2.cell? ⟨W1.heap.size, 4, none⟩ = some (.string ⟨#[]⟩) := (blk_cell h3 4).trans rfl
              have g5 : W2.cell? ⟨W1.heap.size, 5, none⟩ = some (.bool false) := (blk_cell h3 5).trans rfl
              have q0 := blk_frozen h3 0
              have q1 := blk_frozen h3 1
              have q2 := blk_frozen h3 2
              have q3 := blk_frozen h3 3
              have q4 := blk_frozen h3 4
              have q5 := blk_frozen h3 5
              have m2 : Mod W1 W2 [] := by
                refine Mod.trans ?_ (Mod.of_below b2) (by simp)
                (with_reducible repeat (first | exact Mod.refl _ _ | refine Mod.alloc ?_ _ | refine Mod.drewN ?_ _ | refine Mod.drew ?_))
              have d0 : W2.cell? ⟨v, 0, none⟩ = some (.int .u64 t0) := (blk_cell (m2.at_ H.out.2.2 (by simp)) 0).trans rfl
              have d1 : W2.cell? ⟨v, 1, none⟩ = some (.int .u32 t1) := (blk_cell (m2.at_ H.out.2.2 (by simp)) 1).trans rfl
              have HM := Lib.hid (And.intro (H.out.2.1.trans m2 (by simp)) (show v ≤ W1.heap.size from HZ.out))
              clear b2 h3 m2)
           | (have m2 : Mod W1 W2 [] := by
                refine Mod.trans ?_ (Mod.of_below b2) (by simp)
                (with_reducible repeat (first | exact Mod.refl _ _ | refine Mod.alloc ?_ _ | refine Mod.drewN ?_ _ | refine Mod.drew ?_))
              have d0 : W2.cell? ⟨v, 0, none⟩ = some (.int .u64 t0) := (blk_cell (m2.at_ H.out.2.2 (by simp)) 0).trans rfl
              have d1 : W2.cell? ⟨v, 1, none⟩ = some (.int .u32 t1) := (blk_cell (m2.at_ H.out.2.2 (by simp)) 1).trans rfl
              have HM := Lib.hid (And.intro (H.out.2.1.trans m2 (by simp)) (show v ≤ W2.heap.size from Nat.le_trans HZ.out m2.size))
              clear b2 m2)))
  all_goals
    go_wp2
    go_ret2
    refine ⟨rfl, ?_⟩
    have hB := HB.out
    have hM := HM.out.2
    (with_reducible repeat (first | exact HM.out.1 | refine Mod.alloc ?_ _ | refine Mod.drewN ?_ _ | refine Mod.drew ?_ | refine Mod.setCell ?_ (.inr (by simp; omega)) _))
theorem put_none {W : World} (key : ByteArray) (a0 a1 a2 a3 : Int) (a4 : ByteArray) (a5 : Bool) :
    Calls Try.prog 33 #[.pointer none, .string key, .agg #[.int .u64 a0, .int .u32 a1, .int .u32 a2, .int .u32 a3, .string a4, .bool a5]] W fun e W' => e = .returned (.int .i64 1) ∧ Mod W W' [] := by
  have hm := (Mod.refl W []).alloc (.cells #[.int .u64 a0, .int .u32 a1, .int .u32 a2, .int .u32 a3, .string a4, .bool a5] 31)
  have H := Lib.hid hm
  clear hm
  go_enter Try.func33, Try.ntmps33
  go_wp2
  go_ret
  exact ⟨rfl, H.out⟩
/-! a store of the call's own -/
def OwnS (w W : World) (s : Nat) (L : St) : Prop := ∃ fp, SF W s L fp ∧ (∀ y ∈ fp, w.heap.size ≤ y) ∧ Mod w W []
theorem OwnS.mod {w W W' : World} {s : Nat} {L : St} (h : OwnS w W s L) (m : Mod W W' []) : OwnS w W' s L := by
  obtain ⟨fp, h1, h2, h3⟩ := h
  exact ⟨fp, h1.mod m (by simp), h2, h3.trans m (by simp)⟩
theorem OwnS.m {w W : World} {s : Nat} {L : St} (h : OwnS w W s L) : Mod w W [] := by
  obtain ⟨fp, h1, h2, h3⟩ := h
  exact h3
theorem OwnS.right {w W : World} {s : Nat} {L : St} (h : OwnS w W s L) : AllR L := by
  obtain ⟨fp, h1, h2, h3⟩ := h
  exact h1.right
theorem OwnS.sorted {w W : World} {s : Nat} {L : St} (h : OwnS w W s L) : Sorted L := by
  obtain ⟨fp, h1, h2, h3⟩ := h
  exact h1.sorted
theorem OwnS.step {w W W' : World} {s : Nat} {L' : St} {fp : List Nat} (h2 : ∀ y ∈ fp, w.heap.size ≤ y) (h3 : Mod w W []) (h : ∃ fp', SF W' s L' fp' ∧ Mod W W' fp ∧ ∀ y ∈ fp', y ∈ fp ∨ W.heap.size ≤ y) : OwnS w W' s L' := by
  obtain ⟨fp', k1, k2, k3⟩ := h
  refine ⟨fp', k1, fun y hy => ?_, h3.trans k2 (fun y hy => .inr (h2 y hy))⟩
  rcases k3 y hy with h | h
  · exact h2 y h
  · exact Nat.le_trans h3.size h
def ONewP (w : World) (e : Ending) (W' : World) : Prop := ∃ s, e = .returned (.pointer (some ⟨s, 0, none⟩)) ∧ OwnS w W' s []
theorem onew {w W : World} (m : Mod w W []) : Calls Try.prog 34 #[] W (ONewP w) := by
  refine new_store.mono ?_
  rintro e W' ⟨s, fp, rfl, h1, h2, h3⟩
  exact ⟨s, rfl, fp, h1, fun y hy => Nat.le_trans m.size (h2 y hy), m.trans h3 (by simp)⟩
def OPutP (w : World) (s : Nat) (L' : St) (r : Int) (e : Ending) (W' : World) : Prop := e = .returned (.int .i64 r) ∧ OwnS w W' s L'
theorem oput {w W : World} {s : Nat} {L L' : St} {r : Int} (key : ByteArray) (a0 a1 a2 a3 : Int) (a4 : ByteArray) (a5 : Bool) (h : OwnS w W s L) (hl : L.length ≤ 1000000) (hp : putS L key ⟨⟨a0, a1⟩, ⟨a2, a3⟩, a4, a5⟩ = (L', r)) :
    Calls Try.prog 33 #[.pointer (some ⟨s, 0, none⟩), .string key, .agg #[.int .u64 a0, .int .u32 a1, .int .u32 a2, .int .u32 a3, .string a4, .bool a5]] W (OPutP w s L' r) := by
  obtain ⟨fp, h1, h2, h3⟩ := h
  refine (Put_calls key a0 a1 a2 a3 a4 a5 h1 hl).mono ?_
  rintro e W' ⟨rfl, h⟩
  rw [hp] at h ⊢
  exact ⟨rfl, OwnS.step h2 h3 h⟩
def OGetP (W : World) (x : ByteArray) (b : Bool) (e : Ending) (W' : World) : Prop := e = .returned (.tuple #[.string x, .bool b]) ∧ Mod W W' []
theorem oget {w W : World} {s : Nat} {L : St} {x : ByteArray} {b : Bool} (key : ByteArray) (t0 t1 : Int) (h : OwnS w W s L) (hx : getS L key t0 t1 = (x, b)) : Calls Try.prog 29 #[.pointer (some ⟨s, 0, none⟩), .string key, .agg #[.int .u64 t0, .int .u32 t1]] W (OGetP W x b) := by
  obtain ⟨fp, h1, h2, h3⟩ := h
  refine (get_calls key t0 t1 h1).mono ?_
  rintro e W' ⟨rfl, h⟩
  rw [hx]
  exact ⟨rfl, h⟩
theorem oscan {w W : World} {s : Nat} {L : St} {r : List S60} (lo hi : ByteArray) (t0 t1 limit : Int) (h : OwnS w W s L) (hl : L.length ≤ 1000000) (hr : scanS L lo hi t0 t1 limit = r) :
    Calls Try.prog 30 #[.pointer (some ⟨s, 0, none⟩), .string lo, .string hi, .agg #[.int .u64 t0, .int .u32 t1], .int .i64 limit] W (ScanP W r) := by
  obtain ⟨fp, h1, h2, h3⟩ := h
  subst hr
  exact scan_calls lo hi t0 t1 limit h1 hl
/-! awake -/
theorem lt_bb (a b : UInt8) : Tree.lt ⟨#[a]⟩ ⟨#[b]⟩ = decide (a < b) := by
  simp [Tree.lt, ByteArray.toList_eq, Op.bytesLess]
theorem put_one {v : S31} (hv : fitsB v = true) : putC [] v = ([v], 0) := by
  have h := put_is (v := v) right_nil
  generalize putC [] v = q at h
  cases h with
  | unfit h => rw [hv] at h; cases h
  | same _ h => cases h
  | busy y _ h _ _ => cases h
  | more _ _ h => simp at h
  | new _ _ _ => rfl
def aw1 : S31 := ⟨⟨5, 0⟩, ⟨0, 0⟩, ⟨#[120]⟩, false⟩
def aw2 : S31 := ⟨⟨6, 0⟩, ⟨0, 0⟩, ⟨#[121]⟩, false⟩
theorem awk1 : putS [] ⟨#[97]⟩ aw1 = ([(⟨#[97]⟩, [aw1])], 0) := by
  unfold putS
  rw [if_neg (by decide), show chOf [] ⟨#[97]⟩ = [] from rfl, put_one (by decide)]
  rfl
theorem awk2 : putS [(⟨#[97]⟩, [aw1])] ⟨#[98]⟩ aw2 = ([(⟨#[97]⟩, [aw1]), (⟨#[98]⟩, [aw2])], 0) := by
  have e : chOf [(⟨#[97]⟩, [aw1])] ⟨#[98]⟩ = [] := by simp [chOf, lget, lt_bb]
  unfold putS
  rw [if_neg (by decide), e, put_one (by decide)]
  simp [lset, lt_bb]
theorem awk3 : scanS [(⟨#[97]⟩, [aw1]), (⟨#[98]⟩, [aw2])] ⟨#[]⟩ ⟨#[]⟩ 5 0 9 = [⟨⟨#[97]⟩, ⟨#[120]⟩⟩] := by
  have g1 : getS [(⟨#[97]⟩, [aw1]), (⟨#[98]⟩, [aw2])] ⟨#[97]⟩ 5 0 = (⟨#[120]⟩, true) := by
    simp [getS, chOf, lget, lt_bb, see, pl_above, pl_less, aw1]
  have g2 : getS [(⟨#[97]⟩, [aw1]), (⟨#[98]⟩, [aw2])] ⟨#[98]⟩ 5 0 = (⟨#[]⟩, false) := by
    simp [getS, chOf, lget, lt_bb, see, pl_above, pl_less, aw2]
  unfold scanS scanA
  rw [range_all]
  simp [scanF, g1, g2]
  rfl
def AwkP (w : World) (e : Ending) (W' : World) : Prop := e = .returned (.bool true) ∧ Mod w W' []
set_option maxRecDepth 100000 in
set_option maxHeartbeats 4000000 in
theorem awake_calls {W : World} : Calls Try.prog 26 #[] W (AwkP W) := by
  go_enter Try.func26, Try.ntmps26
  go_wp2_with fail
  refine (onew (Mod.refl W [])).mono ?_
  rintro e W1 ⟨s, rfl, h1⟩
  have H1 := Lib.hid h1
  clear h1
  go_wp2_with fail
  refine (oput ⟨#[97]⟩ 5 0 0 0 ⟨#[120]⟩ false H1.out (by simp) awk1).mono ?_
  rintro e W2 ⟨rfl, h2⟩
  have H2 := Lib.hid h2
  clear h2
  go_wp2_with fail
  refine (oput ⟨#[98]⟩ 6 0 0 0 ⟨#[121]⟩ false H2.out (by simp) awk2).mono ?_
  rintro e W3 ⟨rfl, h3⟩
  have H3 := Lib.hid h3
  clear h3
  go_wp2_with fail
  refine (oscan ⟨#[]⟩ ⟨#[]⟩ 5 0 9 H3.out (by simp) awk3).mono ?_
  rintro e W4 ⟨A, c, rfl, hr, _, m⟩
  obtain ⟨A', c', e', _, hC⟩ := hr.C
  injection e' with e1 _ _
  subst e1
  obtain ⟨ad, rfl, g0, g1⟩ := at_T60 hC 0 (by omega) (by simp)
  have HM := Lib.hid (H3.out.m.trans m (by simp))
  have k0 : W4.cell? ad = some (.string ⟨#[97]⟩) := g0
  have k1 : W4.cell? ⟨ad.block, ad.off + 1, none⟩ = some (.string ⟨#[120]⟩) := g1
  clear m hr hC g0 g1
  go_wp2
  go_ret
  exact ⟨rfl, HM.out⟩
/-! what is put one behind the other -/
def fillL (L : St) (l : List S69) : St := l.foldl (fun L a => (putS L a.f2 a.f4).1) L
theorem putS_len (L : St) (key : ByteArray) (v : S31) : (putS L key v).1.length ≤ L.length + 1 := by
  unfold putS
  split
  · dsimp only; omega
  · split
    · rw [lset_length]; split <;> omega
    · simp
theorem fill_len (l : List S69) : ∀ L : St, (fillL L l).length ≤ L.length + l.length := by
  induction l with
  | nil => intro L; simp [fillL]
  | cons a l ih =>
    intro L
    have := ih (putS L a.f2 a.f4).1
    have := putS_len L a.f2 a.f4
    simp only [fillL, List.foldl_cons, List.length_cons] at *
    omega
theorem fill_next (l : List S69) (j : Nat) (hj : j < l.length) : fillL [] (l.take (j + 1)) = (putS (fillL [] (l.take j)) l[j].f2 l[j].f4).1 := by
  unfold fillL
  rw [List.take_succ_eq_append_getElem hj, List.foldl_append]
  rfl
def FilP (w : World) (L : St) (e : Ending) (W' : World) : Prop := ∃ s, e = .returned (.pointer (some ⟨s, 0, none⟩)) ∧ OwnS w W' s L
set_option maxRecDepth 100000 in
set_option maxHeartbeats 4000000 in
theorem filled_calls {w W : World} {A : Option Addr} {c : Nat} {l : List S69} (m : Mod w W []) (hr : Kd.C k69 W A l.length l) (hc : l.length ≤ c) :
    Calls Try.prog 27 #[.slice A l.length c] W (FilP w (fillL [] (l.take 100))) := by
  have HR := Lib.hid (And.intro hr (And.intro hc m))
  clear hr hc m
  go_enter Try.func27, Try.ntmps27
  go_wp2_with fail
  refine (onew (w := W) (Mod.refl W [])).mono ?_
  rintro e W1 ⟨s, rfl, h1⟩
  have H1 := Lib.hid h1
  clear h1
  go_wp2_with fail
  go_loopg [9] l.length (fun k i wr => ∃ j : Nat, j ≤ l.length ∧ k = l.length - j ∧ i = .int .i64 j ∧ j ≤ 100 ∧ OwnS W wr s (fillL [] (l.take j)))
  case atStart => exact ⟨0, Nat.zero_le _, rfl, rfl, by omega, H1.out⟩
  case round =>
    obtain ⟨j, hj, rfl, rfl, hj3, hO⟩ := hrel
    have HO := Lib.hid hO
    have hen : ∀ W' L', OwnS W W' s L' → OwnS w W' s L' := fun W' L' ⟨fp, h1, h2, h3⟩ => ⟨fp, h1, fun y hy => Nat.le_trans HR.out.2.2.size (h2 y hy), HR.out.2.2.trans h3 (by simp)⟩
    have HEN := Lib.hid hen
    clear hO hen
    by_cases hjl : j < l.length
    · obtain ⟨ad, rfl, a0, a1, a2, a3, a4, a5, a6, a7, a8, a9⟩ := act_cells (Kd.C_below HR.out.1 (Mod.bel HO.out.m)) j hjl
      have hjz : (j : Int) < (l.length : Int) := by omega
      by_cases h3 : j = 100
      · subst h3
        have e5 : ad.add (100 * 10) = ⟨ad.block, ad.off + 1000, none⟩ := by simp [Addr.add]
        rw [e5] at a0 a1 a2 a3 a4 a5 a6 a7 a8 a9
        dsimp only at a0 a1 a2 a3 a4 a5 a6 a7 a8 a9
        have HE := Lib.hid (HEN.out _ _ (HO.out.mod ((Mod.refl wr []).alloc (.cells #[.int .i64 l[100].f0, .int .i64 l[100].f1, .string l[100].f2, .string l[100].f3, .int .u64 l[100].f4.f0.f0, .int .u32 l[100].f4.f0.f1, .int .u32 l[100].f4.f1.f0, .int .u32 l[100].f4.f1.f1, .string l[100].f4.f2, .bool l[100].f4.f3] 69))))
        go_wp2
        go_ret
        exact ⟨s, rfl, HE.out⟩
      · have h3z : ¬ ((j : Int) = 100) := by omega
        have h3b : ((j : Int) == 100) = false := by simpa using h3z
        have hnx := fill_next l j hjl
        have hln := fill_len (l.take j) []
        have hll : (fillL [] (l.take j)).length ≤ 1000000 := by have : (l.take j).length ≤ j := List.length_take_le _ _; simp at hln; omega
        have HN := Lib.hid (And.intro hnx hll)
        clear hnx hln hll
        have HV := Lib.hid (HO.out.mod ((Mod.refl wr []).alloc (.cells #[.int .i64 l[j].f0, .int .i64 l[j].f1, .string l[j].f2, .string l[j].f3, .int .u64 l[j].f4.f0.f0, .int .u32 l[j].f4.f0.f1, .int .u32 l[j].f4.f1.f0, .int .u32 l[j].f4.f1.f1, .string l[j].f4.f2, .bool l[j].f4.f3] 69)))
        have hw : IntKind.i64.wrap ((j : Int) + 1) = ((j + 1 : Nat) : Int) := by rw [i64w (by omega) (by omega)]; omega
        obtain ⟨L', r, hq⟩ : ∃ L' r, putS (fillL [] (l.take j)) l[j].f2 l[j].f4 = (L', r) := ⟨_, _, rfl⟩
        have HQ := Lib.hid hq
        clear hq
        generalize l[j] = x at *
        obtain ⟨x0, x1, x2, x3, ⟨⟨v0, v1⟩, ⟨v2, v3⟩, v4, v5⟩⟩ := x
        dsimp only at a0 a1 a2 a3 a4 a5 a6 a7 a8 a9 HQ HN HV ⊢
        generalize fillL [] (l.take j) = L at *
        go_wp2_with fail
        refine (oput x2 v0 v1 v2 v3 v4 v5 HV.out HN.out.2 HQ.out).mono ?_
        rintro e W3 ⟨rfl, h3⟩
        have H3 := Lib.hid h3
        clear h3
        go_wp2
        go_roundg (l.length - (j + 1))
        case measure => omega
        case rel => exact ⟨j + 1, by omega, rfl, by rw [show ((j + 1 : Nat) : Int) = (j : Int) + 1 by omega], by omega, by rw [HN.out.1, HQ.out]; exact H3.out⟩
    · obtain rfl : j = l.length := by omega
      have hzz : ¬ ((l.length : Int) < (l.length : Int)) := by omega
      have HE : Hid (OwnS w wr s (fillL [] (l.take 100))) := Lib.hid (by
        have := HEN.out _ _ HO.out
        rw [List.take_length] at this
        rw [List.take_of_length_le hj3]
        exact this)
      go_wp2
      go_ret
      exact ⟨s, rfl, HE.out⟩
/-! what Get tells behind Set and Cut -/
theorem lget_none {α : Type} {r : List (ByteArray × α)} {s : ByteArray} (h : ∀ p ∈ r, Tree.lt s p.1 = true) : lget r s = none := by
  cases r with
  | nil => rfl
  | cons p r =>
    obtain ⟨k, v⟩ := p
    have h1 := h (k, v) (by simp)
    simp only [lget]
    rw [lt_as h1, if_neg (by simp), if_neg (lt_ne h1)]
theorem lget_lset {α : Type} (L : List (ByteArray × α)) (key : ByteArray) (x : α) (s : ByteArray) : lget (lset L key x) s = if s.toList = key.toList then some x else lget L s := by
  induction L with
  | nil =>
    simp only [lset, lget]
    by_cases e : s.toList = key.toList
    · rw [lt_r e key, lt_irr, if_neg (by simp)]
    · split <;> simp [e]
  | cons p r ih =>
    obtain ⟨k, v⟩ := p
    simp only [lset]
    by_cases c : Tree.lt k key = true
    · rw [if_pos c]
      simp only [lget]
      rw [ih]
      by_cases e : s.toList = key.toList
      · rw [if_pos e, lt_r e k, if_pos c, if_pos e]
      · rw [if_neg e, if_neg e]
    · rw [if_neg c]
      by_cases d : key.toList = k.toList
      · rw [if_pos d]
        simp only [lget]
        by_cases e : s.toList = key.toList
        · rw [if_pos e, lt_r (e.trans d) k, lt_irr, if_neg (by simp), if_pos (e.trans d)]
        · rw [if_neg e]
          have e' : ¬ s.toList = k.toList := fun z => e (z.trans d.symm)
          rw [if_neg e', if_neg e']
      · rw [if_neg d]
        have hlt : Tree.lt key k = true := lt_tot (by simpa using c) (fun z => d z.symm)
        by_cases e : s.toList = key.toList
        · rw [if_pos e]
          rw [lget, lt_r e key, lt_irr, if_neg (by simp), if_pos e]
        · rw [if_neg e]
          rw [lget]
          by_cases f : Tree.lt key s = true
          · rw [if_pos f]
          · rw [if_neg f, if_neg e]
            have hs : Tree.lt s key = true := lt_tot (by simpa using f) (fun z => e z.symm)
            refine (?_ : lget ((k, v) :: r) s = none).symm
            have h2 := lt_tr hs hlt
            simp only [lget]
            rw [lt_as h2, if_neg (by simp), if_neg (lt_ne h2)]
theorem lget_lcut {α : Type} (L : List (ByteArray × α)) (hL : Sorted L) (key : ByteArray) (s : ByteArray) : lget (lcut L key) s = if s.toList = key.toList then none else lget L s := by
  induction L with
  | nil => simp [lcut, lget]
  | cons p r ih =>
    obtain ⟨k, v⟩ := p
    have hr : Sorted r := (List.pairwise_cons.1 hL).2
    have hk : ∀ p ∈ r, Tree.lt k p.1 = true := (List.pairwise_cons.1 hL).1
    simp only [lcut]
    by_cases c : Tree.lt k key = true
    · rw [if_pos c]
      simp only [lget]
      rw [ih hr]
      by_cases e : s.toList = key.toList
      · rw [if_pos e, lt_r e k, if_pos c, if_pos e]
      · rw [if_neg e, if_neg e]
    · rw [if_neg c]
      by_cases d : key.toList = k.toList
      · rw [if_pos d]
        by_cases e : s.toList = key.toList
        · rw [if_pos e]
          exact lget_none (fun p hp => by rw [lt_l (e.trans d)]; exact hk p hp)
        · rw [if_neg e]
          simp only [lget]
          have e' : ¬ s.toList = k.toList := fun z => e (z.trans d.symm)
          by_cases f : Tree.lt k s = true
          · rw [if_pos f]
          · rw [if_neg f, if_neg e']
            have hs : Tree.lt s k = true := lt_tot (by simpa using f) (fun z => e' z.symm)
            exact lget_none (fun p hp => lt_tr hs (hk p hp))
      · rw [if_neg d]
        have hlt : Tree.lt key k = true := lt_tot (by simpa using c) (fun z => d z.symm)
        by_cases e : s.toList = key.toList
        · rw [if_pos e]
          refine lget_none (fun p hp => ?_)
          rw [lt_l e]
          rcases List.mem_cons.1 hp with rfl | hp
          · exact hlt
          · exact lt_tr hlt (hk p hp)
        · rw [if_neg e]
theorem chOf_set (L : St) (key : ByteArray) (x : List S31) (s : ByteArray) : chOf (lset L key x) s = if s.toList = key.toList then x else chOf L s := by
  unfold chOf
  rw [lget_lset]
  split <;> rfl
theorem put_clen {c : List S31} (h : RightP c) (v : S31) : (putC c v).1.length ≤ c.length + 1 := by
  have hs := put_is (v := v) h
  generalize putC c v = q at hs
  cases hs with
  | unfit _ => simp
  | same _ _ => simp
  | busy _ _ _ _ _ => simp
  | more _ _ _ => simp
  | new _ _ _ => rw [putL_length]; omega
theorem putS_right {L : St} (h : AllR L) (key : ByteArray) (v : S31) : AllR (putS L key v).1 := by
  unfold putS
  split
  · exact h
  · split
    · exact h.set (put_right (h.chain key))
    · exact h
theorem putS_chlen {L : St} (h : AllR L) (key : ByteArray) (v : S31) (s : ByteArray) : (chOf (putS L key v).1 s).length ≤ (chOf L s).length + 1 := by
  unfold putS
  split
  · dsimp only; omega
  · split
    · dsimp only
      rw [chOf_set]
      split
      · rename_i e
        have e2 : chOf L s = chOf L key := by rw [ba_inj e]
        rw [e2]
        exact put_clen (h.chain key) v
      · omega
    · dsimp only; omega
theorem fill_right (l : List S69) : ∀ {L : St}, AllR L → AllR (fillL L l) := by
  induction l with
  | nil => intro L h; exact h
  | cons a l ih => intro L h; exact ih (putS_right h a.f2 a.f4)
theorem fill_chlen (l : List S69) (s : ByteArray) : ∀ {L : St}, AllR L → (chOf (fillL L l) s).length ≤ (chOf L s).length + l.length := by
  induction l with
  | nil => intro L h; simp [fillL]
  | cons a l ih =>
    intro L h
    have h1 := ih (putS_right h a.f2 a.f4)
    have h2 := putS_chlen h a.f2 a.f4 s
    simp only [fillL, List.foldl_cons, List.length_cons] at *
    omega
/-! a store of the call's own, and blocks that lie beside it -/
def OwnK (w W : World) (s : Nat) (L : St) (K : List (Nat × Obj)) : Prop := ∃ fp, SF W s L fp ∧ (∀ y ∈ fp, w.heap.size ≤ y) ∧ Mod w W [] ∧ ∀ p ∈ K, W.heap[p.1]? = some p.2 ∧ p.1 ∉ fp
theorem OwnS.k {w W : World} {s : Nat} {L : St} (h : OwnS w W s L) : OwnK w W s L [] := by
  obtain ⟨fp, h1, h2, h3⟩ := h
  exact ⟨fp, h1, h2, h3, fun p hp => by cases hp⟩
theorem OwnK.s {w W : World} {s : Nat} {L : St} {K : List (Nat × Obj)} (h : OwnK w W s L K) : OwnS w W s L := by
  obtain ⟨fp, h1, h2, h3, _⟩ := h
  exact ⟨fp, h1, h2, h3⟩
theorem OwnK.mod {w W W' : World} {s : Nat} {L : St} {K : List (Nat × Obj)} (h : OwnK w W s L K) (m : Mod W W' []) : OwnK w W' s L K := by
  obtain ⟨fp, h1, h2, h3, h4⟩ := h
  exact ⟨fp, h1.mod m (by simp), h2, h3.trans m (by simp), fun p hp => ⟨m.at_ (h4 p hp).1 (by simp), (h4 p hp).2⟩⟩
theorem OwnK.alloc {w W : World} {s : Nat} {L : St} {K : List (Nat × Obj)} (h : OwnK w W s L K) (o : Obj) : OwnK w (W.alloc o) s L ((W.heap.size, o) :: K) := by
  obtain ⟨fp, h1, h2, h3, h4⟩ := h
  have m := (Mod.refl W []).alloc o
  refine ⟨fp, h1.mod m (by simp), h2, h3.trans m (by simp), fun p hp => ?_⟩
  rcases List.mem_cons.1 hp with rfl | hp
  · exact ⟨blk_new W o, fun hy => by have := h1.lt _ hy; omega⟩
  · exact ⟨m.at_ (h4 p hp).1 (by simp), (h4 p hp).2⟩
theorem OwnK.at {w W : World} {s : Nat} {L : St} {K : List (Nat × Obj)} (h : OwnK w W s L K) {b : Nat} {o : Obj} (hp : (b, o) ∈ K) : W.heap[b]? = some o := by
  obtain ⟨fp, h1, h2, h3, h4⟩ := h
  exact (h4 _ hp).1
theorem OwnK.step {w W W' : World} {s : Nat} {L' : St} {K : List (Nat × Obj)} {fp : List Nat} (h2 : ∀ y ∈ fp, w.heap.size ≤ y) (h3 : Mod w W []) (h4 : ∀ p ∈ K, W.heap[p.1]? = some p.2 ∧ p.1 ∉ fp) (h : ∃ fp', SF W' s L' fp' ∧ Mod W W' fp ∧ ∀ y ∈ fp', y ∈ fp ∨ W.heap.size ≤ y) : OwnK w W' s L' K := by
  obtain ⟨fp', k1, k2, k3⟩ := h
  refine ⟨fp', k1, fun y hy => ?_, h3.trans k2 (fun y hy => .inr (h2 y hy)), fun p hp => ⟨k2.at_ (h4 p hp).1 (h4 p hp).2, fun hy => ?_⟩⟩
  · rcases k3 y hy with h | h
    · exact h2 y h
    · exact Nat.le_trans h3.size h
  · rcases k3 _ hy with h | h
    · exact (h4 p hp).2 h
    · have := blk_lt (h4 p hp).1; omega
def KPutP (w : World) (s : Nat) (L' : St) (K : List (Nat × Obj)) (r : Int) (e : Ending) (W' : World) : Prop := e = .returned (.int .i64 r) ∧ OwnK w W' s L' K
theorem kput {w W : World} {s : Nat} {L L' : St} {K : List (Nat × Obj)} {r : Int} (key : ByteArray) (a0 a1 a2 a3 : Int) (a4 : ByteArray) (a5 : Bool) (h : OwnK w W s L K) (hl : L.length ≤ 1000000) (hp : putS L key ⟨⟨a0, a1⟩, ⟨a2, a3⟩, a4, a5⟩ = (L', r)) :
    Calls Try.prog 33 #[.pointer (some ⟨s, 0, none⟩), .string key, .agg #[.int .u64 a0, .int .u32 a1, .int .u32 a2, .int .u32 a3, .string a4, .bool a5]] W (KPutP w s L' K r) := by
  obtain ⟨fp, h1, h2, h3, h4⟩ := h
  refine (Put_calls key a0 a1 a2 a3 a4 a5 h1 hl).mono ?_
  rintro e W' ⟨rfl, h⟩
  rw [hp] at h ⊢
  exact ⟨rfl, OwnK.step h2 h3 h4 h⟩
def KPruneP (w : World) (s : Nat) (L' : St) (K : List (Nat × Obj)) (n : Nat) (e : Ending) (W' : World) : Prop := e = .returned (.int .i64 n) ∧ OwnK w W' s L' K
theorem kprune {w W : World} {s : Nat} {L L' : St} {K : List (Nat × Obj)} {n : Nat} (t0 t1 : Int) (h : OwnK w W s L K) (hl : L.length ≤ 1000000) (hp : pruneS L t0 t1 = L') (hn : gone L t0 t1 = n) :
    Calls Try.prog 36 #[.pointer (some ⟨s, 0, none⟩), .agg #[.int .u64 t0, .int .u32 t1]] W (KPruneP w s L' K n) := by
  obtain ⟨fp, h1, h2, h3, h4⟩ := h
  subst hp
  subst hn
  refine (prune_calls t0 t1 h1 hl).mono ?_
  rintro e W' ⟨rfl, h⟩
  exact ⟨rfl, OwnK.step h2 h3 h4 h⟩
theorem knewest {w W : World} {s : Nat} {L : St} {n : Int × Int} (key : ByteArray) (h : OwnS w W s L) (hn : nwC (chOf L key) = n) : Calls Try.prog 32 #[.pointer (some ⟨s, 0, none⟩), .string key] W (NewestP W n) := by
  obtain ⟨fp, h1, _, _⟩ := h
  subst hn
  exact newest_calls key h1
theorem kcount {w W : World} {s : Nat} {L : St} {n : Nat} (key : ByteArray) (h : OwnS w W s L) (hn : (chOf L key).length = n) : Calls Try.prog 35 #[.pointer (some ⟨s, 0, none⟩), .string key] W (fun e W' => e = .returned (.int .i64 n) ∧ W' = W) := by
  obtain ⟨fp, h1, _, _⟩ := h
  subst hn
  exact count_calls key h1
theorem kitems {w W : World} {s : Nat} {L : St} (h : OwnS w W s L) (hl : L.length ≤ 1000000) : Calls Try.prog 28 #[.pointer (some ⟨s, 0, none⟩)] W (ItemsP W (itemsL L)) := by
  obtain ⟨fp, h1, _, _⟩ := h
  exact items_calls h1 hl
theorem tl0 : (⟨#[]⟩ : ByteArray).toList = [] := by rw [ByteArray.toList_eq]
theorem lt_nil (k : ByteArray) : Tree.lt ⟨#[]⟩ k = true ∨ (⟨#[]⟩ : ByteArray).toList = k.toList := by
  rw [tl0]
  cases h : k.toList with
  | nil => exact .inr rfl
  | cons a b => left; simp [Tree.lt, tl0, h, Op.bytesLess]
theorem rangeL_parts {α : Type} (L : List (ByteArray × α)) (mid : ByteArray) (hm : mid.toList ≠ []) (hs : Sorted L) : rangeL L ⟨#[]⟩ mid ++ rangeL L mid ⟨#[]⟩ = L.map Prod.fst := by
  induction L with
  | nil => rfl
  | cons p r ih =>
    obtain ⟨k, v⟩ := p
    have hc := List.pairwise_cons.1 hs
    have e := ih hc.2
    by_cases h : Tree.lt k mid = true
    · have a1 : inR ⟨#[]⟩ mid k = true := decide_eq_true ⟨lt_nil k, .inr h⟩
      have a2 : inR mid ⟨#[]⟩ k = false := decide_eq_false (fun hh => hh.1.elim (fun z => by rw [lt_as h] at z; cases z) (fun z => lt_ne h z.symm))
      simp only [rangeL, List.map_cons, List.filter_cons, a1, a2, if_true, Bool.false_eq_true, if_false, List.cons_append]
      exact congrArg (k :: ·) e
    · have hge : Tree.lt mid k = true ∨ mid.toList = k.toList := by
        by_cases e2 : k.toList = mid.toList
        · exact .inr e2.symm
        · exact .inl (lt_tot (by simpa using h) e2)
      have a1 : inR ⟨#[]⟩ mid k = false := decide_eq_false (fun hh => hh.2.elim hm h)
      have a2 : inR mid ⟨#[]⟩ k = true := decide_eq_true ⟨hge, .inl tl0⟩
      have e0 : rangeL r ⟨#[]⟩ mid = [] := rangeL_none (fun p hp => decide_eq_false (fun hh => hh.2.elim hm (fun z => by
        have h1 : Tree.lt mid p.1 = true := le_lt (by simpa using h) (hc.1 p hp)
        rw [lt_as h1] at z; cases z)))
      rw [e0, List.nil_append] at e
      have e1 : rangeL ((k, v) :: r) ⟨#[]⟩ mid = [] := by
        have : rangeL ((k, v) :: r) ⟨#[]⟩ mid = rangeL r ⟨#[]⟩ mid := by simp only [rangeL, List.map_cons, List.filter_cons, a1, Bool.false_eq_true, if_false]
        rw [this, e0]
      rw [e1, List.nil_append]
      simp only [rangeL, List.map_cons, List.filter_cons, a2, if_true]
      exact congrArg (k :: ·) e
theorem OwnK.add {w W : World} {s : Nat} {L : St} {K : List (Nat × Obj)} (h : OwnK w W s L K) {b : Nat} {o : Obj} (hb : W.heap[b]? = some o) (hlt : b < w.heap.size) : OwnK w W s L ((b, o) :: K) := by
  obtain ⟨fp, h1, h2, h3, h4⟩ := h
  refine ⟨fp, h1, h2, h3, fun p hp => ?_⟩
  rcases List.mem_cons.1 hp with rfl | hp
  · exact ⟨hb, fun hy => by have := h2 _ hy; dsimp only at this; omega⟩
  · exact h4 p hp
theorem pairs_refl (l : List S60) (hl : l.length ≤ 1000000000) : ∀ d i k, i + d = l.length → d < k → dovecoteref09_Pairs.l0 k l l (i : Int) = some true := by
  intro d
  induction d with
  | zero =>
    intro i k h hk
    obtain ⟨k, rfl⟩ : ∃ m, k = m + 1 := ⟨k - 1, by omega⟩
    simp only [dovecoteref09_Pairs.l0]
    rw [if_neg (by omega)]
  | succ d ih =>
    intro i k h hk
    obtain ⟨k, rfl⟩ : ∃ m, k = m + 1 := ⟨k - 1, by omega⟩
    simp only [dovecoteref09_Pairs.l0]
    rw [if_pos (by omega), if_pos (by omega), if_pos (by omega), w64 (by omega), if_neg (by simp)]
    exact ih (i + 1) k (by omega) (by omega)
theorem pairs_eq (l : List S60) (hl : l.length ≤ 1000000000) : dovecoteref09_Pairs.f (l.length + 1) l l = some true := by
  unfold dovecoteref09_Pairs.f
  rw [if_pos rfl]
  exact pairs_refl l hl l.length 0 _ (by omega) (by omega)
theorem pairs_calls {W : World} {A B : Option Addr} {n1 n2 c1 c2 : Nat} {l : List S60} (hl : l.length ≤ 1000000000) (e1 : n1 = l.length) (g1 : l.length ≤ c1) (h1 : Kd.C k60 W A l.length l) (e2 : n2 = l.length) (g2 : l.length ≤ c2) (h2 : Kd.C k60 W B l.length l) :
    Calls Try.prog 31 #[.slice A n1 c1, .slice B n2 c2] W fun e W' => e = .returned (.bool true) ∧ Mod W W' [] := by
  subst e1
  subst e2
  exact (dovecoteref09_Pairs.calls (l.length + 1) A c1 l B c2 l true W h1 g1 h2 g2 (pairs_eq l hl)).mono (fun e W' h => ⟨h.1, Mod.of_drawn h.2⟩)
theorem scan_want (L : St) (lo hi : ByteArray) (t0 t1 : Int) : scanS L lo hi t0 t1 1000 = ((rangeL L lo hi).filterMap (scanF L t0 t1)).take 32 := rfl
theorem scan_all (L : St) (t0 t1 : Int) : scanS L ⟨#[]⟩ ⟨#[]⟩ t0 t1 1000 = ((L.map Prod.fst).filterMap (scanF L t0 t1)).take 32 := by rw [scan_want, range_all]
theorem scan_parts (L : St) (hs : Sorted L) (t0 t1 : Int) (mid : ByteArray) (hm : mid.toList ≠ []) (hl : ((L.map Prod.fst).filterMap (scanF L t0 t1)).length ≤ 32) :
    scanS L ⟨#[]⟩ mid t0 t1 1000 ++ scanS L mid ⟨#[]⟩ t0 t1 1000 = (L.map Prod.fst).filterMap (scanF L t0 t1) := by
  rw [← rangeL_parts L mid hm hs, List.filterMap_append] at hl ⊢
  rw [List.length_append] at hl
  rw [scan_want, scan_want, List.take_of_length_le (by omega), List.take_of_length_le (by omega)]
/-! two things that lie apart -/
structure Thing (P : World → List Nat → Prop) : Prop where
  stab : ∀ {W W' : World} {fp fp' : List Nat}, P W fp → Mod W W' fp' → (∀ y ∈ fp, y ∉ fp') → P W' fp
  bnd : ∀ {W : World} {fp : List Nat}, P W fp → ∀ y ∈ fp, y < W.heap.size
def Two (w W : World) (P Q : World → List Nat → Prop) (K : List (Nat × Obj)) : Prop :=
  ∃ fp fq, P W fp ∧ Q W fq ∧ (∀ y ∈ fp, w.heap.size ≤ y) ∧ (∀ y ∈ fq, w.heap.size ≤ y) ∧ (∀ y ∈ fp, y ∉ fq) ∧ Mod w W [] ∧ ∀ p ∈ K, W.heap[p.1]? = some p.2 ∧ p.1 ∉ fp ∧ p.1 ∉ fq
theorem thingS (s : Nat) (L : St) : Thing (fun W fp => SF W s L fp) := ⟨fun h m hd => h.mod m hd, fun h => h.lt⟩
theorem Two.swap {w W : World} {P Q : World → List Nat → Prop} {K : List (Nat × Obj)} (h : Two w W P Q K) : Two w W Q P K := by
  obtain ⟨fp, fq, h1, h2, h3, h4, h5, h6, h7⟩ := h
  exact ⟨fq, fp, h2, h1, h4, h3, fun y hy hz => h5 y hz hy, h6, fun p hp => ⟨(h7 p hp).1, (h7 p hp).2.2, (h7 p hp).2.1⟩⟩
theorem Two.m {w W : World} {P Q : World → List Nat → Prop} {K : List (Nat × Obj)} (h : Two w W P Q K) : Mod w W [] := by
  obtain ⟨fp, fq, h1, h2, h3, h4, h5, h6, h7⟩ := h
  exact h6
theorem Two.mod {w W W' : World} {P Q : World → List Nat → Prop} {K : List (Nat × Obj)} (tp : Thing P) (tq : Thing Q) (h : Two w W P Q K) (m : Mod W W' []) : Two w W' P Q K := by
  obtain ⟨fp, fq, h1, h2, h3, h4, h5, h6, h7⟩ := h
  exact ⟨fp, fq, tp.stab h1 m (by simp), tq.stab h2 m (by simp), h3, h4, h5, h6.trans m (by simp), fun p hp => ⟨m.at_ (h7 p hp).1 (by simp), (h7 p hp).2⟩⟩
theorem Two.alloc {w W : World} {P Q : World → List Nat → Prop} {K : List (Nat × Obj)} (tp : Thing P) (tq : Thing Q) (h : Two w W P Q K) (o : Obj) : Two w (W.alloc o) P Q ((W.heap.size, o) :: K) := by
  obtain ⟨fp, fq, h1, h2, h3, h4, h5, h6, h7⟩ := h
  have m := (Mod.refl W []).alloc o
  refine ⟨fp, fq, tp.stab h1 m (by simp), tq.stab h2 m (by simp), h3, h4, h5, h6.trans m (by simp), fun p hp => ?_⟩
  rcases List.mem_cons.1 hp with rfl | hp
  · exact ⟨blk_new W o, fun hy => by have := tp.bnd h1 _ hy; omega, fun hy => by have := tq.bnd h2 _ hy; omega⟩
  · exact ⟨m.at_ (h7 p hp).1 (by simp), (h7 p hp).2⟩
theorem Two.at {w W : World} {P Q : World → List Nat → Prop} {K : List (Nat × Obj)} (h : Two w W P Q K) {b : Nat} {o : Obj} (hp : (b, o) ∈ K) : W.heap[b]? = some o := by
  obtain ⟨fp, fq, h1, h2, h3, h4, h5, h6, h7⟩ := h
  exact (h7 _ hp).1
theorem Two.step {w W W' : World} {P' Q : World → List Nat → Prop} {K : List (Nat × Obj)} (tq : Thing Q) {fp fq : List Nat} (h2 : Q W fq) (h3 : ∀ y ∈ fp, w.heap.size ≤ y) (h4 : ∀ y ∈ fq, w.heap.size ≤ y) (h5 : ∀ y ∈ fp, y ∉ fq) (h6 : Mod w W []) (h7 : ∀ p ∈ K, W.heap[p.1]? = some p.2 ∧ p.1 ∉ fp ∧ p.1 ∉ fq)
    (h : ∃ fp', P' W' fp' ∧ Mod W W' fp ∧ ∀ y ∈ fp', y ∈ fp ∨ W.heap.size ≤ y) : Two w W' P' Q K := by
  obtain ⟨fp', k1, k2, k3⟩ := h
  have hb := tq.bnd h2
  refine ⟨fp', fq, k1, tq.stab h2 k2 (fun y hy hz => h5 y hz hy), fun y hy => ?_, h4, fun y hy hz => ?_, h6.trans k2 (fun y hy => .inr (h3 y hy)), fun p hp => ⟨k2.at_ (h7 p hp).1 (h7 p hp).2.1, fun hy => ?_, (h7 p hp).2.2⟩⟩
  · rcases k3 y hy with h | h
    · exact h3 y h
    · exact Nat.le_trans h6.size h
  · rcases k3 y hy with h | h
    · exact h5 y h hz
    · have := hb y hz; omega
  · rcases k3 _ hy with h | h
    · exact (h7 p hp).2.1 h
    · have := blk_lt (h7 p hp).1; omega
/-- One thing, and a second one made behind it. -/
theorem Two.of {w W W' : World} {P Q : World → List Nat → Prop} (tp : Thing P) {fp fq : List Nat} (h1 : P W fp) (h3 : ∀ y ∈ fp, w.heap.size ≤ y) (h6 : Mod w W []) (h2 : Q W' fq) (h4 : ∀ y ∈ fq, W.heap.size ≤ y) (m : Mod W W' []) : Two w W' P Q [] :=
  ⟨fp, fq, tp.stab h1 m (by simp), h2, h3, fun y hy => Nat.le_trans h6.size (h4 y hy), fun y hy hz => by have := tp.bnd h1 y hy; have := h4 y hz; omega, h6.trans m (by simp), fun p hp => by cases hp⟩
theorem Two.add {w W : World} {P Q : World → List Nat → Prop} {K : List (Nat × Obj)} (h : Two w W P Q K) {b : Nat} {o : Obj} (hb : W.heap[b]? = some o) (hlt : b < w.heap.size) : Two w W P Q ((b, o) :: K) := by
  obtain ⟨fp, fq, h1, h2, h3, h4, h5, h6, h7⟩ := h
  refine ⟨fp, fq, h1, h2, h3, h4, h5, h6, fun p hp => ?_⟩
  rcases List.mem_cons.1 hp with rfl | hp
  · exact ⟨hb, fun hy => by have := h3 _ hy; dsimp only at this; omega, fun hy => by have := h4 _ hy; dsimp only at this; omega⟩
  · exact h7 p hp
abbrev SP (s : Nat) (L : St) : World → List Nat → Prop := fun W fp => SF W s L fp
theorem Two.s {w W : World} {s : Nat} {L : St} {Q : World → List Nat → Prop} {K : List (Nat × Obj)} (h : Two w W (SP s L) Q K) : OwnS w W s L := by
  obtain ⟨fp, fq, h1, h2, h3, h4, h5, h6, h7⟩ := h
  exact ⟨fp, h1, h3, h6⟩
def TPutP (w : World) (s : Nat) (L' : St) (Q : World → List Nat → Prop) (K : List (Nat × Obj)) (r : Int) (e : Ending) (W' : World) : Prop := e = .returned (.int .i64 r) ∧ Two w W' (SP s L') Q K
theorem tput {w W : World} {s : Nat} {L L' : St} {Q : World → List Nat → Prop} {K : List (Nat × Obj)} {r : Int} (tq : Thing Q) (key : ByteArray) (a0 a1 a2 a3 : Int) (a4 : ByteArray) (a5 : Bool) (h : Two w W (SP s L) Q K) (hl : L.length ≤ 1000000) (hp : putS L key ⟨⟨a0, a1⟩, ⟨a2, a3⟩, a4, a5⟩ = (L', r)) :
    Calls Try.prog 33 #[.pointer (some ⟨s, 0, none⟩), .string key, .agg #[.int .u64 a0, .int .u32 a1, .int .u32 a2, .int .u32 a3, .string a4, .bool a5]] W (TPutP w s L' Q K r) := by
  obtain ⟨fp, fq, h1, h2, h3, h4, h5, h6, h7⟩ := h
  refine (Put_calls key a0 a1 a2 a3 a4 a5 h1 hl).mono ?_
  rintro e W' ⟨rfl, h⟩
  rw [hp] at h ⊢
  exact ⟨rfl, Two.step tq h2 h3 h4 h5 h6 h7 h⟩
def TPruneP (w : World) (s : Nat) (L' : St) (Q : World → List Nat → Prop) (K : List (Nat × Obj)) (n : Nat) (e : Ending) (W' : World) : Prop := e = .returned (.int .i64 n) ∧ Two w W' (SP s L') Q K
theorem tprune {w W : World} {s : Nat} {L L' : St} {Q : World → List Nat → Prop} {K : List (Nat × Obj)} {n : Nat} (tq : Thing Q) (t0 t1 : Int) (h : Two w W (SP s L) Q K) (hl : L.length ≤ 1000000) (hp : pruneS L t0 t1 = L') (hn : gone L t0 t1 = n) :
    Calls Try.prog 36 #[.pointer (some ⟨s, 0, none⟩), .agg #[.int .u64 t0, .int .u32 t1]] W (TPruneP w s L' Q K n) := by
  obtain ⟨fp, fq, h1, h2, h3, h4, h5, h6, h7⟩ := h
  subst hp
  subst hn
  refine (prune_calls t0 t1 h1 hl).mono ?_
  rintro e W' ⟨rfl, h⟩
  exact ⟨rfl, Two.step tq h2 h3 h4 h5 h6 h7 h⟩
theorem OwnS.two {w W W' : World} {s s2 : Nat} {L L2 : St} (h : OwnS w W s L) (h2 : OwnS W W' s2 L2) : Two w W' (SP s L) (SP s2 L2) [] := by
  obtain ⟨fp, h1, h3, h6⟩ := h
  obtain ⟨fq, k1, k2, k3⟩ := h2
  exact Two.of (thingS s L) h1 h3 h6 k1 k2 k3
/-! pruning, pure -/
theorem pruneL_nil (t0 t1 : Int) : pruneL [] t0 t1 = [] := rfl
theorem chOf_prune {L : St} (hs : Sorted L) (t0 t1 : Int) (key : ByteArray) : chOf (pruneS L t0 t1) key = pruneL (chOf L key) t0 t1 := by
  induction L with
  | nil => rfl
  | cons p r ih =>
    obtain ⟨k, v⟩ := p
    have hr : Sorted r := (List.pairwise_cons.1 hs).2
    have hk : ∀ p ∈ r, Tree.lt k p.1 = true := (List.pairwise_cons.1 hs).1
    have ih := ih hr
    have hk' : ∀ p ∈ pruneS r t0 t1, Tree.lt k p.1 = true := fun p hp => by
      obtain ⟨x, hx, rfl, _⟩ := pruneS_mem hp
      exact hk x hx
    have hcons : pruneS ((k, v) :: r) t0 t1 = (prune1 t0 t1 (k, v)).toList ++ pruneS r t0 t1 := by
      unfold pruneS
      rw [List.filterMap_cons]
      cases prune1 t0 t1 (k, v) <;> rfl
    rw [hcons]
    unfold prune1
    by_cases c : Tree.lt k key = true
    · have e1 : chOf ((k, v) :: r) key = chOf r key := by unfold chOf; simp only [lget]; rw [if_pos c]
      rw [e1, ← ih]
      by_cases d : pruneL v t0 t1 = []
      · rw [if_pos d]; rfl
      · rw [if_neg d]
        unfold chOf
        simp only [Option.toList_some, List.singleton_append, lget]
        rw [if_pos c]
    · by_cases d : key.toList = k.toList
      · have e1 : chOf ((k, v) :: r) key = v := by unfold chOf; simp only [lget]; rw [if_neg c, if_pos d]; rfl
        rw [e1]
        by_cases f : pruneL v t0 t1 = []
        · rw [if_pos f, f]
          unfold chOf
          simp only [Option.toList_none, List.nil_append]
          rw [lget_none (fun p hp => by rw [lt_l d]; exact hk' p hp)]
          rfl
        · rw [if_neg f]
          unfold chOf
          simp only [Option.toList_some, List.singleton_append, lget]
          rw [if_neg c, if_pos d]
          rfl
      · have e1 : chOf ((k, v) :: r) key = [] := by unfold chOf; simp only [lget]; rw [if_neg c, if_neg d]; rfl
        have hlt : Tree.lt key k = true := lt_tot (by simpa using c) (fun z => d z.symm)
        rw [e1, pruneL_nil]
        unfold chOf
        rw [lget_none (fun p hp => ?_)]
        · rfl
        · rcases List.mem_append.1 hp with hp | hp
          · by_cases f : pruneL v t0 t1 = []
            · rw [if_pos f] at hp; cases hp
            · rw [if_neg f] at hp
              simp only [Option.toList_some, List.mem_singleton] at hp
              subst hp
              exact hlt
          · exact lt_tr hlt (hk' p hp)
theorem getS_prune {L : St} (hs : Sorted L) (hr : AllR L) {s0 s1 t0 t1 : Int} (ht : ¬ (t0 < s0 ∨ t0 = s0 ∧ t1 < s1)) (key : ByteArray) : getS (pruneS L s0 s1) key t0 t1 = getS L key t0 t1 := by
  unfold getS
  rw [chOf_prune hs]
  rcases see_prune (hr.chain key) ht with h | ⟨h1, h2⟩
  · rw [h]
  · rw [h1]
    cases h3 : see (chOf L key) t0 t1 with
    | none => rfl
    | some y => dsimp only; rw [if_pos (h2 y h3)]
theorem scanF_prune {L : St} (hs : Sorted L) (hr : AllR L) {s0 s1 t0 t1 : Int} (ht : ¬ (t0 < s0 ∨ t0 = s0 ∧ t1 < s1)) : scanF (pruneS L s0 s1) t0 t1 = scanF L t0 t1 := by
  funext k
  unfold scanF
  rw [getS_prune hs hr ht]
theorem want_prune {L : St} (hs : Sorted L) (hr : AllR L) {s0 s1 t0 t1 : Int} (ht : ¬ (t0 < s0 ∨ t0 = s0 ∧ t1 < s1)) : ((pruneS L s0 s1).map Prod.fst).filterMap (scanF (pruneS L s0 s1) t0 t1) = (L.map Prod.fst).filterMap (scanF L t0 t1) := by
  rw [scanF_prune hs hr ht]
  have key : ∀ M : St, (∀ p ∈ M, chOf L p.1 = p.2) → ((pruneS M s0 s1).map Prod.fst).filterMap (scanF L t0 t1) = (M.map Prod.fst).filterMap (scanF L t0 t1) := by
    intro M
    induction M with
    | nil => intro _; rfl
    | cons p M ih =>
      intro hM
      have ih := ih (fun q hq => hM q (by simp [hq]))
      have hp := hM p (by simp)
      have hcons : pruneS (p :: M) s0 s1 = (prune1 s0 s1 p).toList ++ pruneS M s0 s1 := by
        unfold pruneS
        rw [List.filterMap_cons]
        cases prune1 s0 s1 p <;> rfl
      rw [hcons]
      by_cases f : pruneL p.2 s0 s1 = []
      · have hg := getS_prune hs hr ht p.1
        have hn : scanF L t0 t1 p.1 = none := by
          unfold scanF
          rw [← hg]
          unfold getS
          rw [chOf_prune hs, hp, f]
          rfl
        unfold prune1
        rw [if_pos f, List.map_cons, List.filterMap_cons, hn]
        exact ih
      · unfold prune1
        rw [if_neg f, List.map_cons]
        simp only [Option.toList_some, List.singleton_append, List.map_cons, List.filterMap_cons]
        rw [ih]
  refine key L (fun p hp => ?_)
  obtain ⟨j, hj, rfl⟩ := List.getElem_of_mem hp
  exact sorted_get hs hj
def lenS (L : St) : Nat := (L.map (fun p => p.2.length)).sum
theorem len_prune (L : St) (t0 t1 : Int) : lenS (pruneS L t0 t1) + gone L t0 t1 = lenS L := by
  induction L with
  | nil => rfl
  | cons p L ih =>
    have hcons : pruneS (p :: L) t0 t1 = (prune1 t0 t1 p).toList ++ pruneS L t0 t1 := by
      unfold pruneS
      rw [List.filterMap_cons]
      cases prune1 t0 t1 p <;> rfl
    have hl := prune_len p.2 t0 t1
    have e1 : gone (p :: L) t0 t1 = (p.2.length - (pruneL p.2 t0 t1).length) + gone L t0 t1 := by simp [gone]
    have e2 : lenS (p :: L) = p.2.length + lenS L := by simp [lenS]
    have e3 : lenS (pruneS (p :: L) t0 t1) = (pruneL p.2 t0 t1).length + lenS (pruneS L t0 t1) := by
      rw [hcons]
      unfold prune1 lenS
      by_cases f : pruneL p.2 t0 t1 = []
      · rw [if_pos f, f]; simp
      · rw [if_neg f]; simp
    omega
theorem sum_zero {α : Type} {f : α → Nat} {l : List α} (h : ∀ a ∈ l, f a = 0) : (l.map f).sum = 0 := by
  induction l with
  | nil => rfl
  | cons a l ih => rw [List.map_cons, List.sum_cons, h a (by simp), ih (fun b hb => h b (by simp [hb]))]
theorem gone_prune {L : St} (hr : AllR L) (t0 t1 : Int) : gone (pruneS L t0 t1) t0 t1 = 0 := by
  unfold gone
  refine sum_zero (fun p hp => ?_)
  obtain ⟨x, hx, rfl, _⟩ := pruneS_mem hp
  dsimp only
  rw [prune_twice (hr x hx) t0 t1 t0 t1 (by omega)]
  omega
theorem lenS_next (L : St) {j : Nat} (hj : j < L.length) : lenS (L.take (j + 1)) = lenS (L.take j) + L[j].2.length := by
  unfold lenS
  rw [List.take_succ_eq_append_getElem hj, List.map_append, List.sum_append]
  simp
theorem lenS_le {L : St} (h : AllR L) : lenS L ≤ 1000 * L.length := by
  unfold lenS
  induction L with
  | nil => simp
  | cons p L ih =>
    have h1 := (h p (by simp)).n
    have h2 := ih (fun q hq => h q (by simp [hq]))
    simp only [List.map_cons, List.sum_cons, List.length_cons]
    omega
theorem prune_length (L : St) (t0 t1 : Int) : (pruneS L t0 t1).length ≤ L.length := List.length_filterMap_le _ _
theorem pruneS_cons (p : ByteArray × List S31) (L : St) (t0 t1 : Int) : pruneS (p :: L) t0 t1 = if pruneL p.2 t0 t1 = [] then pruneS L t0 t1 else (p.1, pruneL p.2 t0 t1) :: pruneS L t0 t1 := by
  unfold pruneS
  rw [List.filterMap_cons]
  by_cases f : pruneL p.2 t0 t1 = []
  · rw [show prune1 t0 t1 p = none from if_pos f, if_pos f]
  · rw [show prune1 t0 t1 p = some (p.1, pruneL p.2 t0 t1) from if_neg f, if_neg f]
theorem pruneS_twice {L : St} (hr : AllR L) (t0 t1 : Int) : pruneS (pruneS L t0 t1) t0 t1 = pruneS L t0 t1 := by
  induction L with
  | nil => rfl
  | cons p L ih =>
    have ih := ih (fun q hq => hr q (by simp [hq]))
    rw [pruneS_cons p L]
    by_cases f : pruneL p.2 t0 t1 = []
    · rw [if_pos f]; exact ih
    · have e := prune_twice (hr p (by simp)) t0 t1 t0 t1 (by omega)
      rw [if_neg f, pruneS_cons]
      dsimp only
      rw [e, if_neg f, ih]
theorem scan_prune {L : St} (hs : Sorted L) (hr : AllR L) {s0 s1 t0 t1 : Int} (ht : ¬ (t0 < s0 ∨ t0 = s0 ∧ t1 < s1)) (lim : Int) : scanS (pruneS L s0 s1) ⟨#[]⟩ ⟨#[]⟩ t0 t1 lim = scanS L ⟨#[]⟩ ⟨#[]⟩ t0 t1 lim := by
  unfold scanS scanA
  rw [range_all, range_all, want_prune hs hr ht]
end Go.Proofs.Ytomcjcoehahikaa.Sto
