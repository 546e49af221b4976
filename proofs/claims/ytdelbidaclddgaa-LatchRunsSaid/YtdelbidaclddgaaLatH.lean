/- The layer 'latch': LatH; a seat's own text, no law of its own. -/
import Derived.Test.YtdelbidaclddgaaLatG
import Derived.Deep.LoopGhost
import Derived.Deep.Cut
import Derived.Lib.Hide
import Derived.StillTailTactics
import Derived.Deep.QuietTactic
import Derived.BigQuiet
import Derived.Outline
import Derived.Deep.RegionWith
import Derived.Deep.RegionHeld3
import Derived.WalkLawsBesides
namespace Go.Proofs.Ytdelbidaclddgaa.Lat
open Go.RowKit Go.Proofs.YtdelbidaclddgaaW.PrintWords Go.Proofs.Ytdelbidaclddgaa.MLatchRuns Go.Proofs.YtdelbidaclddgaaW.PrintLast
set_option linter.unusedVariables false
set_option linter.unusedSimpArgs false
/-! Cut -/
theorem hdrop {W : World} {hb m : Nat} {Hs : List Hd} (h : W.ownsMap Try.prog 32 RPt hb m (HD Hs)) (hr : RgsH Hs) {c n : Int} (hk : inK c n) :
    ∃ W', (Builtin.delete_ #[101, 32] 0 #[.map (some hb), .agg #[.int .u32 c, .int .u32 n]]).run Try.prog W = .ok (.tuple #[]) W' ∧ W'.ownsMap Try.prog 32 RPt hb m (HD (Hs.filter fun h => !decide (h.c = c ∧ h.n = n))) ∧ Mod W W' [hb] := by
  obtain ⟨W', h1, h2, h3⟩ := h.drop law32 Try.underlying101 (key_of hk) 0
  refine ⟨W', h1, ?_, mod_grown (Mod.refl W _) h3.grown (fun y hy => by cases hy; simp)⟩
  have e : (HD Hs).del (klit c n) = HD (Hs.filter fun h => !decide (h.c = c ∧ h.n = n)) := by
    obtain ⟨k1, k2, k3, k4⟩ := hk
    have e0 : (Hs.filter fun h => !(klit h.c h.n).sameKey (klit c n)) = Hs.filter fun h => !decide (h.c = c ∧ h.n = n) := by
      refine List.filter_congr fun x hx => ?_
      obtain ⟨r1, r2, r3, r4⟩ := hr x hx
      rw [klit_same r1 r2 r3 r4 k1 k2 k3 k4]
    unfold HD
    rw [← e0]
    generalize klit c n = kl
    unfold mapD DataW.del
    show DataW.map (List.filter _ (List.map _ Hs)) = DataW.map _
    rw [List.filter_map]
    rfl
  rw [← e]
  exact h2
def offL (L : List S65) (c n : Int) : List S65 := L.filter fun x => !isBy c n x
theorem lcut_pairs (key : ByteArray) : ∀ {L : List S65}, Sorted (L.map pairOf) → lcut (L.map pairOf) key = (L.filter fun x => !decide (x.f4.f0.toList = key.toList)).map pairOf
  | [], _ => rfl
  | y :: r, hs => by
    obtain ⟨s1, s2⟩ := List.pairwise_cons.1 hs
    have ih := lcut_pairs key s2
    show (if Tree.lt y.f4.f0 key = true then pairOf y :: lcut (r.map pairOf) key else if key.toList = y.f4.f0.toList then r.map pairOf else pairOf y :: r.map pairOf) = _
    have hne : Tree.lt y.f4.f0 key = false → r.filter (fun x => !decide (x.f4.f0.toList = key.toList)) = r := fun c1 => by
      refine List.filter_eq_self.2 fun x hx => ?_
      rw [decide_eq_false]
      · rfl
      · intro e
        have h1 : Tree.lt y.f4.f0 x.f4.f0 = true := s1 (pairOf x) (List.mem_map_of_mem hx)
        rw [lt_r e] at h1
        rw [h1] at c1
        cases c1
    rw [List.filter_cons]
    by_cases c1 : Tree.lt y.f4.f0 key = true
    · rw [if_pos c1, decide_eq_false (fun e => lt_ne c1 e), ih]
      rfl
    · rw [if_neg c1]
      have h2 := hne (by simpa using c1)
      by_cases c2 : key.toList = y.f4.f0.toList
      · rw [if_pos c2, decide_eq_true c2.symm, h2]
        rfl
      · rw [if_neg c2, decide_eq_false (fun e => c2 e.symm), h2]
        rfl
theorem TB.keys {W W' : World} {t hb m kb : Nat} {Hs : List Hd} {K K' : List (ByteArray × S105)} {fk fk' : List Nat} (h : TB W t hb m kb Hs K fk) (hk' : MapF W' kb K' fk') (mm : Mod W W' fk) (hs : ∀ y ∈ fk', y ∈ fk ∨ W.heap.size ≤ y) : TB W' t hb m kb Hs K' fk' := by
  have nin : ∀ y, y ∉ fk → y < W.heap.size → y ∉ fk' := fun y h1 h2 hm => by
    rcases hs y hm with e | e
    · exact h1 e
    · omega
  have hlt := h.lt
  exact ⟨mm.at_ h.ht h.a1, owns_mod h.hm mm h.a2, h.ord, h.rgs, hk', fun y hy => (h.hh y hy).mod mm (fun x hx => (h.b1 y hy).2.2 x hx),
    nin t h.a1 (hlt t (in_blocks.2 (.inl rfl))), nin hb h.a2 (hlt hb (in_blocks.2 (.inr (.inl rfl)))),
    fun y hy => ⟨(h.b1 y hy).1, (h.b1 y hy).2.1, fun x hx => nin x ((h.b1 y hy).2.2 x hx) (hlt x (in_blocks.2 (.inr (.inr (.inr ⟨y, hy, hx⟩)))))⟩, h.b2⟩
def offH (c n : Int) (Hs : List Hd) : List Hd := Hs.filter fun h => !decide (h.c = c ∧ h.n = n)
theorem TB.drop {W W' : World} {t hb m kb : Nat} {Hs : List Hd} {K : List (ByteArray × S105)} {fk : List Nat} {c n : Int} (h : TB W t hb m kb Hs K fk) (hm : W'.ownsMap Try.prog 32 RPt hb m (HD (offH c n Hs))) (mm : Mod W W' [hb]) : TB W' t hb m kb (offH c n Hs) K fk :=
  ⟨mm.at_ h.ht (by simpa using h.ne), hm, List.Pairwise.sublist List.filter_sublist h.ord, fun y hy => h.rgs y (List.mem_filter.1 hy).1, h.hk.mod mm (fun x hx e => by simp at e; subst e; exact h.a2 hx),
    fun y hy => (h.hh y (List.mem_filter.1 hy).1).mod mm (fun x hx e => by simp at e; subst e; exact (h.b1 y (List.mem_filter.1 hy).1).2.1 hx), h.a1, h.a2, fun y hy => h.b1 y (List.mem_filter.1 hy).1, List.Pairwise.sublist List.filter_sublist h.b2⟩
theorem Lk.off {Hs : List Hd} {L : List S65} (lk : Lk Hs L) (c n : Int) : Lk (offH c n Hs) (offL L c n) := by
  refine ⟨fun x hx => ?_, fun h hh => ?_⟩
  · obtain ⟨hx1, hx2⟩ := List.mem_filter.1 hx
    obtain ⟨h, hi, e1, e2, e3⟩ := lk.hd x hx1
    refine ⟨h, List.mem_filter.2 ⟨hi, ?_⟩, e1, e2, e3⟩
    unfold isBy at hx2
    rw [e1, e2]
    exact hx2
  · obtain ⟨h1, h2⟩ := List.mem_filter.1 hh
    have e : byL (offL L c n) h.c h.n = byL L h.c h.n := by
      unfold byL offL
      rw [List.filter_filter]
      refine List.filter_congr fun x _ => ?_
      have h3 : ¬ (h.c = c ∧ h.n = n) := fun e => by rw [decide_eq_true e] at h2; cases h2
      by_cases e : isBy h.c h.n x = true
      · rw [e]
        have e' := of_decide_eq_true e
        have : isBy c n x = false := decide_eq_false (fun e2 => h3 ⟨by omega, by omega⟩)
        rw [this]
        rfl
      · rw [Bool.eq_false_iff.2 e]
        rfl
    rw [e]
    exact lk.ws h h1
def anyK (ys : List S65) (x : S65) : Bool := ys.any fun y => decide (x.f4.f0.toList = y.f4.f0.toList)
def cutJ (L ys : List S65) (j : Nat) : List S65 := L.filter fun x => !anyK (ys.take j) x
theorem cutJ_0 (L ys : List S65) : cutJ L ys 0 = L := List.filter_eq_self.2 fun x _ => by simp [anyK]
theorem cutJ_sorted {L : List S65} (hs : Sorted (L.map pairOf)) (ys : List S65) (j : Nat) : Sorted ((cutJ L ys j).map pairOf) := List.Pairwise.sublist (List.filter_sublist.map _) hs
theorem cutJ_next {L : List S65} (hs : Sorted (L.map pairOf)) (ys : List S65) (j : Nat) (hj : j < ys.length) : lcut ((cutJ L ys j).map pairOf) ys[j].f4.f0 = (cutJ L ys (j + 1)).map pairOf := by
  rw [lcut_pairs _ (cutJ_sorted hs ys j)]
  unfold cutJ
  rw [List.filter_filter]
  congr 1
  refine List.filter_congr fun x _ => ?_
  rw [List.take_succ_eq_append_getElem hj]
  unfold anyK
  rw [List.any_append]
  simp [Bool.and_comm]
theorem cutJ_end {L : List S65} (hs : Sorted (L.map pairOf)) (c n : Int) : cutJ L (byL L c n) (byL L c n).length = offL L c n := by
  unfold cutJ offL
  rw [List.take_length]
  refine List.filter_congr fun x hx => ?_
  congr 1
  cases e : isBy c n x with
  | true =>
    unfold anyK
    rw [List.any_eq_true]
    exact ⟨x, List.mem_filter.2 ⟨hx, e⟩, decide_eq_true rfl⟩
  | false =>
    unfold anyK
    rw [List.any_eq_false]
    intro y hy e2
    obtain ⟨y1, y2⟩ := List.mem_filter.1 hy
    have e3 : x.f4.f0 = y.f4.f0 := bytes_ext (of_decide_eq_true e2)
    have f1 := find_at hs hx
    have f2 := find_at hs y1
    rw [e3, f2] at f1
    obtain rfl := Option.some.inj f1
    rw [e] at y2
    cases y2
def CutIP (W : World) (t m : Nat) (ys L' : List S65) (fp : List Nat) (e : Ending) (W' : World) : Prop := ∃ A k, e = .returned (.slice A ys.length k) ∧ Row k65 65 W' (.slice A ys.length k) ys ∧ (∀ y ∈ ownList (.slice A ys.length k), W.heap.size ≤ y) ∧ (∃ fp', Tab W' t m L' fp' ∧ ∀ y ∈ fp', y ∈ fp) ∧ Mod W W' fp
theorem it_cells {w : World} {A : Option Addr} {l : List S65} (h : Kd.C k65 w A l.length l) (j : Nat) (hj : j < l.length) : ∃ ad, A = some ad ∧ w.cell? (ad.add (j * 10)) = some (.int .u32 l[j].f0.f0) ∧
    w.cell? ⟨(ad.add (j * 10)).block, (ad.add (j * 10)).off + 1, none⟩ = some (.int .u32 l[j].f0.f1) ∧ w.cell? ⟨(ad.add (j * 10)).block, (ad.add (j * 10)).off + 2, none⟩ = some (.int .u64 l[j].f1.f0) ∧ w.cell? ⟨(ad.add (j * 10)).block, (ad.add (j * 10)).off + 3, none⟩ = some (.int .u32 l[j].f1.f1) ∧
    w.cell? ⟨(ad.add (j * 10)).block, (ad.add (j * 10)).off + 4, none⟩ = some (.int .u64 l[j].f2.f0) ∧ w.cell? ⟨(ad.add (j * 10)).block, (ad.add (j * 10)).off + 5, none⟩ = some (.int .u32 l[j].f2.f1) ∧ w.cell? ⟨(ad.add (j * 10)).block, (ad.add (j * 10)).off + 6, none⟩ = some (.string l[j].f3) ∧
    w.cell? ⟨(ad.add (j * 10)).block, (ad.add (j * 10)).off + 7, none⟩ = some (.string l[j].f4.f0) ∧ w.cell? ⟨(ad.add (j * 10)).block, (ad.add (j * 10)).off + 8, none⟩ = some (.string l[j].f4.f1) ∧ w.cell? ⟨(ad.add (j * 10)).block, (ad.add (j * 10)).off + 9, none⟩ = some (.bool l[j].f4.f2) := by
  obtain ⟨ad, e, h0, h1, h2, h3, h4, h5, h6, h7, h8, h9⟩ := at_T65 h (j : Int) (by omega) (by omega)
  have e2 : rd_T65 l (j : Int) = l[j] := by
    unfold rd_T65
    rw [show ((j : Int)).toNat = j from by omega]
    exact (List.getElem_eq_getD _).symm
  rw [e2, show ((j : Int)).toNat = j from by omega] at h0 h1 h2 h3 h4 h5 h6 h7 h8 h9
  exact ⟨ad, e, h0, h1, h2, h3, h4, h5, h6, h7, h8, h9⟩
structure Cz (W2 V : World) (q t hb m kb : Nat) (Hs : List Hd) (K : List (ByteArray × S105)) (fk : List Nat) (c n : Int) (lv : Value) (ys : List S65) : Prop where
  hT : ∃ fk', TB V t hb m kb Hs K fk' ∧ ∀ y ∈ fk', y ∈ fk
  hN : NB V q ⟨c, n⟩
  hM : Mod W2 V fk
  hR : Row k65 65 V lv ys
set_option maxHeartbeats 4000000 in
set_option maxRecDepth 100000 in
theorem cutI_calls {W : World} {t m : Nat} {L : List S65} {fp : List Nat} (h : Tab W t m L fp) (hl : L.length ≤ 1000000) (c n : Int) (hk : inK c n) {ys L' : List S65} (hys : byL L c n = ys) (hL' : offL L c n = L') :
    Calls Try.prog 30 #[.pointer (some ⟨t, 0, none⟩), .agg #[.int .u32 c, .int .u32 n]] W (CutIP W t m ys L' fp) := by
  have m1 := ((Mod.refl W []).alloc (.cells #[.int .u32 c, .int .u32 n] 32))
  have n1 : NB (W.alloc (.cells #[.int .u32 c, .int .u32 n] 32)) W.heap.size ⟨c, n⟩ := blk_new W _
  have hyl : ys.length ≤ 1000000 := by rw [← hys]; exact Nat.le_trans (byL_len L c n) hl
  have HW := Lib.hid (And.intro (h.mod0 m1) (And.intro n1 (And.intro m1 h.lt)))
  have HK := Lib.hid (And.intro hk (And.intro hys hL'))
  clear h m1 n1 hk hys hL'
  go_enter Try.func30, Try.ntmps30
  go_upto_region 1 with fail
  generalize W.alloc _ = W1 at *
  generalize hgq : W.heap.size = q at *
  obtain ⟨b0, b1⟩ := HW.out.2.1.all
  simp only at b0 b1
  go_wp2_with fail
  refine (by_calls HW.out.1 hl c n HK.out.1).mono ?_
  rw [HK.out.2.1]
  rintro e W2 ⟨A, k, rfl, hR, m2⟩
  have hnew : ∀ y ∈ ownList (.slice A ys.length k), W1.heap.size ≤ y := fun y hy => hR.1 y (own_mem _ y hy)
  obtain ⟨hb, kb, Hs, fk, h1, lk, hfp⟩ := HW.out.1
  have hltb := h1.lt
  have HS := Lib.hid h1.hk.sorted
  have HL := Lib.hid (And.intro lk (And.intro hfp (And.intro hnew hltb)))
  have hq1 : q < W1.heap.size := blk_lt HW.out.2.1
  have hqf : ∀ x ∈ blocks t hb fk Hs, x < q := fun x hx => HW.out.2.2.2 x (hfp ▸ hx)
  have H2 : Hid (TB W2 t hb m kb Hs (L.map pairOf) fk ∧ NB W2 q ⟨c, n⟩ ∧ Row k65 65 W2 (.slice A ys.length k) ys ∧ Mod W1 W2 []) := Lib.hid ⟨h1.mod0 m2, HW.out.2.1.mod m2 (by simp), Row.of hR, m2⟩
  have HQ := Lib.hid (And.intro hq1 (And.intro hqf hgq))
  clear m2 h1 lk hfp hnew hltb b0 b1 hR hq1 hqf hgq
  have HX : Hid (∀ (j : Nat) (hj : j < ys.length), lcut ((cutJ L ys j).map pairOf) ys[j].f4.f0 = (cutJ L ys (j + 1)).map pairOf) := Lib.hid fun j hj => cutJ_next HS.out ys j hj
  have HE : Hid (cutJ L ys ys.length = L') := Lib.hid (by obtain ⟨_, e1, e2⟩ := HK.out; rw [← e1, ← e2]; exact cutJ_end HS.out c n)
  have HZ : Hid (∀ j, ((cutJ L ys j).map pairOf).length ≤ 1000000000) := Lib.hid fun j => by rw [List.length_map]; have := List.length_filter_le (fun x => !anyK (ys.take j) x) L; unfold cutJ; omega
  have H0 := Lib.hid (cutJ_0 L ys)
  generalize cutJ L ys = C at *
  go_wp2_with fail
  go_loopg [13] ys.length (fun k i wr => ∃ (j : Nat) (fk' : List Nat), j ≤ ys.length ∧ k = ys.length - j ∧ i = .int .i64 j ∧ TB wr t hb m kb Hs ((C j).map pairOf) fk' ∧ (∀ y ∈ fk', y ∈ fk) ∧ Mod W2 wr fk)
  case atStart => exact ⟨0, fk, Nat.zero_le _, rfl, rfl, by rw [H0.out]; exact H2.out.1, fun _ hy => hy, Mod.refl _ _⟩
  case round =>
    obtain ⟨j, fk', hj, rfl, rfl, hT, hsub, hM⟩ := hrel
    have hfk : ∀ x ∈ fk, x < q := fun x hx => HQ.out.2.1 x (in_blocks.2 (.inr (.inr (.inl hx))))
    have hrow : Row k65 65 wr (.slice A ys.length k) ys := H2.out.2.2.1.mod plain65 hM (fun y hy hm => by have := HL.out.2.2.1 y hy; have := hfk y hm; have := HQ.out.1; omega)
    have hnb : NB wr q ⟨c, n⟩ := H2.out.2.1.mod hM (fun hm => by have := hfk q hm; omega)
    by_cases hjl : j < ys.length
    · have hjz : (j : Int) < (ys.length : Int) := by omega
      have hw : IntKind.i64.wrap ((j : Int) + 1) = ((j + 1 : Nat) : Int) := by rw [i64w (by omega) (by omega)]; omega
      have hx := HX.out j hjl
      obtain ⟨A', k', e', hk', hC⟩ := hrow.C
      injection e' with ea eb ec
      subst ea ec
      obtain ⟨ad, rfl, a0, a1, a2, a3, a4, a5, a6, a7, a8, a9⟩ := it_cells hC j hjl
      have m6 : Mod wr (wr.alloc (.cells #[.int .u32 ys[j].f0.f0, .int .u32 ys[j].f0.f1, .int .u64 ys[j].f1.f0, .int .u32 ys[j].f1.f1, .int .u64 ys[j].f2.f0, .int .u32 ys[j].f2.f1, .string ys[j].f3, .string ys[j].f4.f0, .string ys[j].f4.f1, .bool ys[j].f4.f2] 65)) [] := (Mod.refl wr []).alloc _
      have x6 : IB (wr.alloc (.cells #[.int .u32 ys[j].f0.f0, .int .u32 ys[j].f0.f1, .int .u64 ys[j].f1.f0, .int .u32 ys[j].f1.f1, .int .u64 ys[j].f2.f0, .int .u32 ys[j].f2.f1, .string ys[j].f3, .string ys[j].f4.f0, .string ys[j].f4.f1, .bool ys[j].f4.f2] 65)) wr.heap.size ys[j] := blk_new wr _
      have H6 := Lib.hid (And.intro (hT.mod0 m6) (And.intro x6 (And.intro ((hM.trans m6 (fun _ hk => by cases hk))) hx)))
      have HJ := Lib.hid (And.intro hsub (fun x (hx : x ∈ fk') => (⟨hfk x (hsub x hx), hT.hk.lt x hx⟩ : x < q ∧ x < wr.heap.size)))
      clear hT hsub hM hrow hnb hC m6 x6 hx hfk
      generalize ys[j] = y at *
      go_upto_region 5 with fail
      clear a0 a1 a2 a3 a4 a5 a6 a7 a8 a9
      generalize wr.alloc _ = W6 at *
      generalize wr.heap.size = q7 at *
      have HS5 : Hid (∀ W', Mod W6 W' fk' → W'.cell? ⟨t, 1, none⟩ = some (.pointer (some ⟨kb, 0, none⟩)) ∧ W'.cell? ⟨q7, 7, none⟩ = some (.string y.f4.f0)) := Lib.hid fun W' mm => by
        have h7 := (H6.out.2.1.mod mm (fun hm => by have := (HJ.out.2 _ hm).2; omega)).all
        exact ⟨mm.cellN H6.out.1.c1 H6.out.1.a1, h7.2.2.2.2.2.2.2.1⟩
      go_region_held3 (fun W' => W'.cell? ⟨t, 1, none⟩ = some (.pointer (some ⟨kb, 0, none⟩)) ∧ W'.cell? ⟨q7, 7, none⟩ = some (.string y.f4.f0))
        (first | exact HS5.out _ (by (with_reducible repeat (first | exact N4.out | exact Mod.refl _ _ | refine Mod.drew ?_)))) (first
        | (go_at_call 69
           (
             have TD := H6.out.1.mod0 (Mod.refl W6 []).drew
             refine Calls.mono (mcut y.f4.f0 TD.hk (HZ.out j)) ?_
             rintro e V4 ⟨rfl, fk2, hk2, m4, hs2⟩
             have T4 := TD.keys hk2 m4 (fun z hz => .inl (hs2 z hz))
             have N4 : Hid (Mod W6 V4 fk') := Lib.hid ((Mod.refl W6 fk').drew.trans m4 (fun z hz => .inl hz))
             have H4 := Lib.hid (And.intro T4 hs2)
             clear T4 hk2 m4 hs2 TD)))
      all_goals
        go_wp2
        go_roundg (ys.length - (j + 1))
        case measure => omega
        case rel => exact ⟨j + 1, fk2, by omega, rfl, by rw [show ((j + 1 : Nat) : Int) = (j : Int) + 1 by omega], by rw [← H6.out.2.2.2]; exact H4.out.1, fun z hz => HJ.out.1 z (H4.out.2 z hz), H6.out.2.2.1.trans N4.out (fun z hz => .inl (HJ.out.1 z hz))⟩
    · obtain rfl : j = ys.length := by omega
      have hjz : ¬ (ys.length : Int) < (ys.length : Int) := by omega
      rw [HE.out] at hT
      have HJ := Lib.hid (And.intro hT (And.intro hsub (And.intro hM (And.intro hrow hnb))))
      clear hT hsub hM hrow hnb hfk
      go_upto_region 8 with fail
      obtain ⟨V8, hrun, hown, m8⟩ := hdrop (W := wr.drew) (owns_mod HJ.out.1.hm (Mod.refl wr []).drew (by simp)) HJ.out.1.rgs HK.out.1
      have H8 := Lib.hid (And.intro hown m8)
      clear hown m8
      have HS8 : Hid (∀ W', Mod wr W' [hb] → W'.cell? ⟨t, 0, none⟩ = some (.map (some hb)) ∧ W'.cell? ⟨q, 0, none⟩ = some (.int .u32 c) ∧ W'.cell? ⟨q, 1, none⟩ = some (.int .u32 n)) := Lib.hid fun W' mm => by
        have h7 := (HJ.out.2.2.2.2.mod mm (fun hm => by simp at hm; have := HQ.out.2.1 hb (in_blocks.2 (.inr (.inl rfl))); omega)).all
        exact ⟨mm.cellN HJ.out.1.c0 (by simpa using HJ.out.1.ne), h7.1, h7.2⟩
      have N8 : Hid (Mod wr V8 [hb]) := Lib.hid ((Mod.refl wr [hb]).drew.trans H8.out.2 (fun z hz => .inl hz))
      go_region_held3 (fun W' => W'.cell? ⟨t, 0, none⟩ = some (.map (some hb)) ∧ W'.cell? ⟨q, 0, none⟩ = some (.int .u32 c) ∧ W'.cell? ⟨q, 1, none⟩ = some (.int .u32 n))
        (first | exact HS8.out _ (by (with_reducible repeat (first | exact N8.out | exact Mod.refl _ _ | refine Mod.drew ?_)))) (fail)
      all_goals
        go_wp2
        go_ret
        have hfp := HL.out.2.1
        have T8 := (HJ.out.1.mod0 (Mod.refl wr []).drew).drop H8.out.1 H8.out.2
        have hall : ∀ z ∈ blocks t hb fk' (offH c n Hs), z ∈ fp := fun z hz => by
          rw [hfp]
          rcases in_blocks.1 hz with e | e | e | ⟨y, hy, e⟩
          · exact in_blocks.2 (.inl e)
          · exact in_blocks.2 (.inr (.inl e))
          · exact in_blocks.2 (.inr (.inr (.inl (HJ.out.2.1 z e))))
          · exact in_blocks.2 (.inr (.inr (.inr ⟨y, (List.mem_filter.1 hy).1, e⟩)))
        have lk := HL.out.1.off c n
        rw [HK.out.2.2] at lk
        have hnew : ∀ y ∈ ownList (.slice A ys.length k), q ≤ y := fun y hy => by have := HL.out.2.2.1 y hy; have := HQ.out.1; omega
        refine ⟨A, k, rfl, HJ.out.2.2.2.1.mod plain65 N8.out (fun y hy hm => ?_), fun y hy => by rw [HQ.out.2.2]; exact hnew y hy, ⟨_, ⟨hb, kb, _, fk', T8, lk, rfl⟩, hall⟩, ?_⟩
        · simp at hm
          subst hm
          have := hnew _ hy
          have := HQ.out.2.1 _ (in_blocks.2 (.inr (.inl rfl)))
          omega
        · have m2 := (HW.out.2.2.1.trans H2.out.2.2.2 (fun _ hk => by cases hk)).mono (fp' := fp) (fun _ hk => by cases hk)
          refine (m2.trans HJ.out.2.2.1 (fun z hz => .inl ?_)).trans N8.out (fun z hz => .inl ?_)
          · rw [hfp]; exact in_blocks.2 (.inr (.inr (.inl hz)))
          · simp at hz; subst hz; rw [hfp]; exact in_blocks.2 (.inr (.inl rfl))
end Go.Proofs.Ytdelbidaclddgaa.Lat
