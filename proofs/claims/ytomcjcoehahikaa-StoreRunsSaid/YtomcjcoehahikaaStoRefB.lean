/- The document's answer for the layer 'store', walked; a seat's own text, no law of its own. -/
import Derived.Test.YtomcjcoehahikaaStoRef
import Derived.Test.YtomcjcoehahikaaStoLaw
import Derived.Deep.LoopGhost
import Derived.Deep.Cut
import Derived.Lib.Hide
import Derived.StillTailTactics
import Derived.Deep.QuietTactic
import Derived.BigQuiet
import Derived.Outline
import Derived.Deep.RegionWith
import Derived.Deep.RegionHeld3
import Derived.WalkLawsBesides
namespace Go.Proofs.Ytomcjcoehahikaa.Sto
open Go.RowKit Go.Proofs.YtomcjcoehahikaaW.PrintWords Go.Proofs.Ytomcjcoehahikaa.Ord Go.Proofs.Ytomcjcoehahikaa.MStoreRuns Go.Proofs.YtomcjcoehahikaaW.PrintLast
set_option linter.unusedVariables false
set_option linter.unusedSimpArgs false
/-! the document's answer for the layer 'store', walked -/
def RS (g : Nat) (L : St) (W : World) (fp : List Nat) : Prop := ∃ A c rfp, W.heap[g]? = some (.cells #[.slice A L.length c] 76 (0, 0)) ∧ k56.R 56 W 0 (fun k => k ∈ rfp) (.slice A L.length c) (itemsL L) ∧ g ∉ rfp ∧ (∀ y ∈ rfp, y < W.heap.size) ∧ fp = g :: rfp
theorem itemsL_len (L : St) : (itemsL L).length = L.length := by unfold itemsL; rw [List.length_map]
theorem thingRS (g : Nat) (L : St) : Thing (RS g L) := by
  refine ⟨?_, ?_⟩
  · rintro W W' fp fp' ⟨A, c, rfp, h1, h2, h3, h4, rfl⟩ m hd
    exact ⟨A, c, rfp, m.at_ h1 (hd g (by simp)), Kd.R_step h2 (fun k hk hlt => m.block k hlt (hd k (by simp [hk]))), h3, fun y hy => Nat.lt_of_lt_of_le (h4 y hy) m.size, rfl⟩
  · rintro W fp ⟨A, c, rfp, h1, h2, h3, h4, rfl⟩ y hy
    rcases List.mem_cons.1 hy with rfl | hy
    · exact blk_lt h1
    · exact h4 y hy
theorem item_at {W : World} {L : St} {A : Option Addr} {c : Nat} {ok : Nat → Prop} (h : k56.R 56 W 0 ok (.slice A L.length c) (itemsL L)) (j : Nat) (hj : j < L.length) : ∃ q vj, A = some ⟨q, 0, none⟩ ∧ W.cell? ⟨q, j * 2, none⟩ = some (.string L[j].1) ∧ W.cell? ⟨q, j * 2 + 1, none⟩ = some vj ∧ k31.R 31 W 0 (fun k => ok k ∧ k ≠ q) vj L[j].2 ∧ ok q := by
  obtain ⟨q, cap, e, _, _, _⟩ := Kd.R_form h (by rw [itemsL_len]; omega)
  injection e with e1 e2 e3
  subst e1
  obtain ⟨cs, _, hM, hc, _⟩ := Kd.R_elem h z56 (j : Int) (by omega) (by omega)
  have hrd : (itemsL L).getD (j : Int).toNat z56 = ⟨L[j].1, L[j].2⟩ := by
    unfold itemsL
    rw [Int.toNat_natCast, List.getD_eq_getElem?_getD, List.getElem?_map, List.getElem?_eq_getElem hj]
    rfl
  rw [hrd] at hM
  obtain ⟨v1, rfl, h1⟩ := k56_openM hM
  rw [Int.toNat_natCast] at hc
  exact ⟨q, v1, rfl, hc 0 _ rfl, hc 1 _ rfl, h1, h.1 q rfl⟩
theorem lget_miss {α : Type} {L : List (ByteArray × α)} {key : ByteArray} (h : ∀ m (hm : m < L.length), L[m].1.toList ≠ key.toList) : lget L key = none := by
  induction L with
  | nil => rfl
  | cons p L ih =>
    obtain ⟨k, v⟩ := p
    have h0 := h 0 (by simp)
    unfold lget
    split
    · exact ih (fun m hm => h (m + 1) (by simp; omega))
    · rw [if_neg (fun e => h0 e.symm)]
def RChP (W : World) (fp : List Nat) (l : List S31) (e : Ending) (W' : World) : Prop := ∃ v, e = .returned v ∧ k31.R 31 W 0 (fun k => k ∈ fp) v l ∧ W' = W
set_option maxRecDepth 100000 in
set_option maxHeartbeats 4000000 in
theorem rchain_calls {W : World} {g : Nat} {L : St} {fp : List Nat} (key : ByteArray) {l : List S31} (h : RS g L W fp) (hs : Sorted L) (hl : L.length ≤ 1000000) (hk : chOf L key = l) : Calls Try.prog 57 #[.pointer (some ⟨g, 0, none⟩), .string key] W (RChP W fp l) := by
  obtain ⟨A, c, rfp, h1, h2, h3, h4, rfl⟩ := h
  have hc : W.cell? ⟨g, 0, none⟩ = some (.slice A L.length c) := (blk_cell h1 0).trans rfl
  have H := Lib.hid (And.intro h2 (And.intro hs hk))
  clear h1 h2 h3 h4 hs hk
  go_enter Try.func57, Try.ntmps57
  go_wp2_with fail
  go_loopg [5] L.length (fun k i wr => ∃ j : Nat, j ≤ L.length ∧ k = L.length - j ∧ i = .int .i64 j ∧ (∀ m (hm : m < L.length), m < j → L[m].1.toList ≠ key.toList) ∧ wr = W)
  case atStart => exact ⟨0, Nat.zero_le _, rfl, rfl, fun m _ hm => by omega, rfl⟩
  case round =>
    obtain ⟨j, hj, rfl, rfl, hno, rfl⟩ := hrel
    by_cases hjl : j < L.length
    · have hjz : (j : Int) < (L.length : Int) := by omega
      obtain ⟨q, vj, rfl, k0, k1, hR, _⟩ := item_at H.out.1 j hjl
      have hw : IntKind.i64.wrap ((j : Int) + 1) = ((j + 1 : Nat) : Int) := by rw [i64w (by omega) (by omega)]; omega
      have hnext : L[j].1.toList ≠ key.toList → ∀ m (hm : m < L.length), m < j + 1 → L[m].1.toList ≠ key.toList := fun hne m hm hm2 => by
        by_cases e : m = j
        · subst e; exact hne
        · exact hno m hm (by omega)
      have hget : L[j].1.toList = key.toList → L[j].2 = l := fun e => by rw [← H.out.2.2, ← ba_inj e, sorted_get H.out.2.1 hjl]
      have HN := Lib.hid (And.intro hnext (And.intro hget hR))
      clear hnext hget hno hR
      generalize L[j].1 = kk at *
      generalize L[j].2 = ll at *
      by_cases hkk : kk.toList = key.toList
      · have hkb : (kk.toList == key.toList) = true := by rw [hkk]; simp
        have HE := Lib.hid (HN.out.2.1 hkk)
        clear hkk
        go_wp2
        go_ret
        rw [← HE.out]
        exact ⟨vj, rfl, Kd.R_mono HN.out.2.2 (fun k hk => by simp [hk.1]), rfl⟩
      · have hkb : (kk.toList == key.toList) = false := by simpa using hkk
        have HK := Lib.hid hkk
        clear hkk
        go_wp2
        go_roundg (L.length - (j + 1))
        case measure => omega
        case rel => exact ⟨j + 1, by omega, rfl, by rw [show ((j + 1 : Nat) : Int) = (j : Int) + 1 by omega], HN.out.1 HK.out, rfl⟩
    · obtain rfl : j = L.length := by omega
      have hjz : ¬ (L.length : Int) < (L.length : Int) := by omega
      have hz : l = [] := by rw [← H.out.2.2]; unfold chOf; rw [lget_miss (fun m hm => hno m hm hm)]; rfl
      have HZ := Lib.hid hz
      clear hz hno
      go_wp2
      go_ret
      rw [HZ.out]
      exact ⟨_, rfl, Kd.R_nil _ _ _ _ _, rfl⟩
theorem rcount_calls {W : World} {g : Nat} {L : St} {fp : List Nat} (key : ByteArray) {n : Nat} (h : RS g L W fp) (hs : Sorted L) (hl : L.length ≤ 1000000) (hn : (chOf L key).length = n) : Calls Try.prog 41 #[.pointer (some ⟨g, 0, none⟩), .string key] W fun e W' => e = .returned (.int .i64 n) ∧ W' = W := by
  have H := Lib.hid (And.intro h (And.intro hs hn))
  clear h hs hn
  go_enter Try.func41, Try.ntmps41
  go_wp2_with fail
  refine (rchain_calls key H.out.1 H.out.2.1 hl rfl).mono ?_
  rintro e W2 ⟨v, rfl, hR, rfl⟩
  obtain ⟨A, c, rfl⟩ := Kd.R_slice hR
  rw [H.out.2.2]
  clear hR
  go_wp2
  go_ret
  exact ⟨rfl, rfl⟩
theorem rnewest_calls {W : World} {g : Nat} {L : St} {fp : List Nat} (key : ByteArray) {n : Int × Int} (h : RS g L W fp) (hs : Sorted L) (hr : AllR L) (hl : L.length ≤ 1000000) (hn : nwC (chOf L key) = n) : Calls Try.prog 40 #[.pointer (some ⟨g, 0, none⟩), .string key] W (NewestP W n) := by
  have hm := (Mod.refl W []).alloc (.cells #[.int .u64 0, .int .u32 0] 27)
  have hb := blk_new W (.cells #[.int .u64 0, .int .u32 0] 27)
  have hrc := hr.chain key
  have hnr : nwR (chOf L key) = n := by unfold nwR; rw [rightB_yes hrc, if_pos rfl, hn]
  have H := Lib.hid (And.intro ((thingRS g L).stab h hm (by simp)) (And.intro hm (And.intro hb hs)))
  have HN := Lib.hid (And.intro hnr hrc.n)
  clear h hm hb hs hr hn hrc hnr
  obtain ⟨n1, n2⟩ := n
  go_enter Try.func40, Try.ntmps40
  go_wp2_with fail
  generalize W.alloc (.cells #[.int .u64 0, .int .u32 0] 27) = W1 at H ⊢
  generalize hb : W.heap.size = b at H ⊢
  have HB := Lib.hid hb
  clear hb
  refine (rchain_calls key H.out.1 H.out.2.2.2 hl rfl).mono ?_
  rintro e W2 ⟨v, rfl, hR, rfl⟩
  obtain ⟨A, c, rfl, hc, hC⟩ := Kd.R_reads hR
  have HC := Lib.hid (And.intro hc hC)
  clear hR hc hC
  go_wp2_with fail
  refine (rnew_calls HC.out.2 HC.out.1 (by have := HN.out.2; omega) HN.out.1).mono ?_
  rintro e W3 ⟨rfl, m3⟩
  have h3 := m3.at_ H.out.2.2.1 (by simp)
  have hc0 : W3.cell? ⟨b, 0, none⟩ = some (.int .u64 0) := (blk_cell h3 0).trans rfl
  have hc1 : W3.cell? ⟨b, 1, none⟩ = some (.int .u32 0) := (blk_cell h3 1).trans rfl
  have hf0 := blk_frozen h3 0
  have hf1 := blk_frozen h3 1
  have H3 := Lib.hid (And.intro m3 h3)
  clear m3 h3
  go_wp2
  refine bodyPost_ret (results_cell_row rfl _ _ b 27 #[.int .u64 n1, .int .u32 n2] (0, 0) _ rfl (blk_two H3.out.2 _ _) Try.underlying27 rfl (by kernel_rfl)) rfl ?_
  exact ⟨rfl, Mod.two (H.out.2.1.trans H3.out.1 (by simp)) (by have := HB.out; omega) _ _⟩
set_option maxHeartbeats 4000000 in
theorem rget_calls {W : World} {s : Nat} {L : St} {fp : List Nat} (key : ByteArray) (t0 t1 : Int) (h : RS s L W fp) (hs : Sorted L) (hrt : AllR L) (hl : L.length ≤ 1000000) : Calls Try.prog 39 #[.pointer (some ⟨s, 0, none⟩), .string key, .agg #[.int .u64 t0, .int .u32 t1]] W (GetP W (getS L key t0 t1)) := by
  have hm := (Mod.refl W []).alloc (.cells #[.int .u64 t0, .int .u32 t1] 27)
  have hb := blk_new W (.cells #[.int .u64 t0, .int .u32 t1] 27)
  have hn : seeR (chOf L key) t0 t1 = vw (see (chOf L key) t0 t1) := by unfold seeR; rw [rightB_yes (hrt.chain key), if_pos rfl]
  have hcl := (hrt.chain key).n
  have H := Lib.hid (And.intro ((thingRS s L).stab h hm (by simp)) (And.intro hm hb))
  obtain ⟨y0, y1, y2, y3, x, f, g, hq⟩ : ∃ y0 y1 y2 y3 x f g, vw (see (chOf L key) t0 t1) = (y0, y1, y2, y3, x, f, g) := ⟨_, _, _, _, _, _, _, rfl⟩
  rw [hq] at hn
  have hg := getS_eq hq
  have HN := Lib.hid (And.intro hn hg)
  have HSo := Lib.hid (And.intro hs hcl)
  clear h hm hb hn hq hg hs hrt hcl
  go_enter Try.func39, Try.ntmps39
  go_upto_region 1 with fail
  generalize W.alloc (.cells #[.int .u64 t0, .int .u32 t1] 27) = W1 at H ⊢
  generalize hb : W.heap.size = v at H ⊢
  have HB := Lib.hid hb
  clear hb
  have hc0 : W1.cell? ⟨v, 0, none⟩ = some (.int .u64 t0) := (blk_cell H.out.2.2 0).trans rfl
  have hc1 : W1.cell? ⟨v, 1, none⟩ = some (.int .u32 t1) := (blk_cell H.out.2.2 1).trans rfl
  have hn0 := World.new_ne W1 _ hc0
  have hn1 := World.new_ne W1 _ hc1
  have hsz : W.heap.size ≤ W1.heap.size := H.out.2.1.size
  rw [HB.out] at hsz
  have HZ := Lib.hid hsz
  clear hsz
  cases g <;> cases f
  all_goals
    go_region_held3 (fun w' => w'.cell? ⟨v, 0, none⟩ = some (.int .u64 t0) ∧ w'.cell? ⟨v, 1, none⟩ = some (.int .u32 t1)) (go_keep) (first
      | (go_at_call 57
         refine (rchain_calls key ((thingRS s L).stab H.out.1 (by first | exact (Mod.refl W1 []).drewN _ | exact ((Mod.refl W1 []).drewN _).alloc _) (by simp)) HSo.out.1 hl rfl).mono ?_
         rintro e W2 ⟨v9, rfl, hR, rfl⟩
         obtain ⟨A, c, rfl, hc, hC⟩ := Kd.R_reads hR
         have HC := Lib.hid (And.intro hc hC)
         clear hR hc hC)
      | (go_at_call 21
         refine (rat_calls t0 t1 ?_ HC.out.1 (by have := HSo.out.2; omega) HN.out.1).mono ?_
         · first | exact HC.out.2 | exact Kd.C_alloc HC.out.2 _ | exact Kd.C_drewN HC.out.2 _
         rintro e W2 ⟨rfl, b2'⟩
         have b2 := Mod.bel b2'
         clear b2'
         first
           | (have h3 : W2.heap[W1.heap.size]? = some (.cells #[.int .u64 0, .int .u32 0, .int .u32 0, .int .u32 0, .string ⟨#[]⟩, .bool false] 31 (0, 0)) := by
                refine blk_below ?_ b2
                (with_reducible repeat (first | refine blk_drewN ?_ _ | refine blk_drew ?_)); exact blk_new _ _
              have g0 : W2.cell? ⟨W1.heap.size, 0, none⟩ = some (.int .u64 0) := (blk_cell h3 0).trans rfl
              have g1 : W2.cell? ⟨W1.heap.size, 1, none⟩ = some (.int .u32 0) := (blk_cell h3 1).trans rfl
              have g2 : W2.cell? ⟨W1.heap.size, 2, none⟩ = some (.int .u32 0) := (blk_cell h3 2).trans rfl
              have g3 : W2.cell? ⟨W1.heap.size, 3, none⟩ = some (.int .u32 0) := (blk_cell h3 3).trans rfl
              have g4 : W2.cell? ⟨W1.heap.size, 4, none⟩ = some (.string ⟨#[]⟩) := (blk_cell h3 4).trans rfl
              have g5 : W2.cell? ⟨W1.heap.size, 5, none⟩ = some (.bool false) := (blk_cell h3 5).trans rfl
              have q0 := blk_frozen h3 0
              have q1 := blk_frozen h3 1
              have q2 := blk_frozen h3 2
              have q3 := blk_frozen h3 3
              have q4 := blk_frozen h3 4
              have q5 := blk_frozen h3 5
              have m2 : Mod W1 W2 [] := by
                refine Mod.trans ?_ (Mod.of_below b2) (by simp)
                (with_reducible repeat (first | exact Mod.refl _ _ | refine Mod.alloc ?_ _ | refine Mod.drewN ?_ _ | refine Mod.drew ?_))
              have d0 : W2.cell? ⟨v, 0, none⟩ = some (.int .u64 t0) := (blk_cell (m2.at_ H.out.2.2 (by simp)) 0).trans rfl
              have d1 : W2.cell? ⟨v, 1, none⟩ = some (.int .u32 t1) := (blk_cell (m2.at_ H.out.2.2 (by simp)) 1).trans rfl
              have HM := Lib.hid (And.intro (H.out.2.1.trans m2 (by simp)) (show v ≤ W1.heap.size from HZ.out))
              clear b2 h3 m2)
           | (have m2 : Mod W1 W2 [] := by
                refine Mod.trans ?_ (Mod.of_below b2) (by simp)
                (with_reducible repeat (first | exact Mod.refl _ _ | refine Mod.alloc ?_ _ | refine Mod.drewN ?_ _ | refine Mod.drew ?_))
              have d0 : W2.cell? ⟨v, 0, none⟩ = some (.int .u64 t0) := (blk_cell (m2.at_ H.out.2.2 (by simp)) 0).trans rfl
              have d1 : W2.cell? ⟨v, 1, none⟩ = some (.int .u32 t1) := (blk_cell (m2.at_ H.out.2.2 (by simp)) 1).trans rfl
              have HM := Lib.hid (And.intro (H.out.2.1.trans m2 (by simp)) (show v ≤ W2.heap.size from Nat.le_trans HZ.out m2.size))
              clear b2 m2)))
  all_goals
    go_wp2
    go_ret2
    refine ⟨by rw [HN.out.2]; rfl, ?_⟩
    have hB := HB.out
    have hM := HM.out.2
    (with_reducible repeat (first | exact HM.out.1 | refine Mod.alloc ?_ _ | refine Mod.drewN ?_ _ | refine Mod.drew ?_ | refine Mod.setCell ?_ (.inr (by simp; omega)) _))
/-! set: the list anew -/
def setL (L : St) (key : ByteArray) (cl : List S31) : St := if cl.length = 0 then lcut L key else lset L key cl
def hitL (L : St) (key : ByteArray) : Bool := L.any (fun p => !Tree.lt p.1 key)
def outL (L : St) (key : ByteArray) (cl : List S31) : St := if hitL L key = true then setL L key cl else L
def doneL (L : St) (key : ByteArray) (cl : List S31) : Bool := decide (cl.length = 0) || hitL L key
theorem hit_no {L : St} {key : ByteArray} (h : hitL L key = false) : ∀ p ∈ L, Tree.lt p.1 key = true := by
  intro p hp
  have := List.any_eq_false.1 h p hp
  simpa using this
theorem hit_yes {L : St} {key : ByteArray} (h : hitL L key = true) : ∃ p ∈ L, Tree.lt p.1 key = false := by
  obtain ⟨p, hp, h⟩ := List.any_eq_true.1 h
  exact ⟨p, hp, by simpa using h⟩
theorem hit_snoc (L : St) (p : ByteArray × List S31) (key : ByteArray) : hitL (L ++ [p]) key = (hitL L key || !Tree.lt p.1 key) := by
  unfold hitL
  rw [List.any_append]
  simp
theorem items_snoc (L : St) (k : ByteArray) (v : List S31) : itemsL (L ++ [(k, v)]) = itemsL L ++ [⟨k, v⟩] := by unfold itemsL; rw [List.map_append]; rfl
theorem set_lo {L : St} {key : ByteArray} (h : ∀ p ∈ L, Tree.lt p.1 key = true) (M : St) (cl : List S31) : setL (L ++ M) key cl = L ++ setL M key cl := by
  unfold setL
  split
  · exact lcut_lo _ _ _ h
  · exact lset_lo _ _ _ _ h
theorem set_hi (L : St) {key k : ByteArray} (h : Tree.lt key k = true) (v : List S31) (cl : List S31) : setL (L ++ [(k, v)]) key cl = setL L key cl ++ [(k, v)] := by
  unfold setL
  split
  · exact lcut_hi _ _ _ _ _ h
  · exact lset_hi _ _ _ _ _ _ h
theorem sorted_snoc {L : St} {k : ByteArray} {v : List S31} (h : Sorted (L ++ [(k, v)])) : ∀ p ∈ L, Tree.lt p.1 k = true := (sorted_split h).2.2.1
theorem out_lt {L : St} {key k : ByteArray} {v cl : List S31} (hs : Sorted (L ++ [(k, v)])) (h : Tree.lt k key = true) : hitL L key = false ∧ outL (L ++ [(k, v)]) key cl = outL L key cl ++ [(k, v)] ∧ doneL (L ++ [(k, v)]) key cl = doneL L key cl := by
  have h0 : hitL L key = false := by
    cases hh : hitL L key with
    | false => rfl
    | true =>
      obtain ⟨p, hp, hl⟩ := hit_yes hh
      rw [lt_tr (sorted_snoc hs p hp) h] at hl
      cases hl
  refine ⟨h0, ?_, ?_⟩
  · unfold outL; rw [hit_snoc, h0, h]; rfl
  · unfold doneL; rw [hit_snoc, h0, h]; rfl
theorem out_hit {L : St} {key k : ByteArray} {v cl : List S31} (hs : Sorted (L ++ [(k, v)])) (hh : hitL L key = true) : k.toList ≠ key.toList ∧ outL (L ++ [(k, v)]) key cl = outL L key cl ++ [(k, v)] ∧ doneL (L ++ [(k, v)]) key cl = true := by
  obtain ⟨p, hp, hl⟩ := hit_yes hh
  have hk : Tree.lt key k = true := le_lt hl (sorted_snoc hs p hp)
  refine ⟨fun e => lt_ne hk e.symm, ?_, ?_⟩
  · unfold outL; rw [hit_snoc, hh]; simp only [Bool.true_or, if_true]; exact set_hi L hk v cl
  · unfold doneL; rw [hit_snoc, hh]; simp
theorem lcut1 {key k : ByteArray} {v : List S31} (h : Tree.lt k key = false) : lcut [(k, v)] key = if k.toList = key.toList then [] else [(k, v)] := by
  simp only [lcut]
  rw [if_neg (by rw [h]; simp)]
  by_cases e : k.toList = key.toList
  · rw [if_pos e.symm, if_pos e]
  · rw [if_neg (fun z => e z.symm), if_neg e]
theorem lset1 {key k : ByteArray} {v cl : List S31} (h : Tree.lt k key = false) : lset [(k, v)] key cl = if k.toList = key.toList then [(key, cl)] else [(key, cl), (k, v)] := by
  simp only [lset]
  rw [if_neg (by rw [h]; simp)]
  by_cases e : k.toList = key.toList
  · rw [if_pos e.symm, if_pos e, ba_inj e]
  · rw [if_neg (fun z => e z.symm), if_neg e]
theorem out_new {L : St} {key k : ByteArray} {v cl : List S31} (hh : hitL L key = false) (h : Tree.lt k key = false) : outL (L ++ [(k, v)]) key cl = outL L key cl ++ ((if cl.length = 0 then [] else [(key, cl)]) ++ (if k.toList = key.toList then [] else [(k, v)])) ∧ doneL (L ++ [(k, v)]) key cl = true := by
  refine ⟨?_, ?_⟩
  · unfold outL
    rw [hit_snoc, hh, h]
    simp only [Bool.not_false, Bool.or_true, if_true, Bool.false_eq_true, if_false]
    rw [set_lo (hit_no hh)]
    congr 1
    unfold setL
    by_cases h0 : cl.length = 0
    · rw [if_pos h0, if_pos h0, lcut1 h, List.nil_append]
    · rw [if_neg h0, if_neg h0, lset1 h]
      split <;> rfl
  · unfold doneL; rw [hit_snoc, h]; simp
theorem out_end {L : St} {key : ByteArray} {cl : List S31} : setL L key cl = if doneL L key cl = true then outL L key cl else outL L key cl ++ [(key, cl)] := by
  unfold doneL outL
  cases hh : hitL L key with
  | true => simp
  | false =>
    have e := set_lo (hit_no hh) [] cl
    rw [List.append_nil] at e
    rw [e]
    by_cases h0 : cl.length = 0
    · simp [h0, setL, lcut]
    · simp [h0, setL, lset]
def RSetP (W : World) (g : Nat) (L' : St) (fp cfp : List Nat) (e : Ending) (W' : World) : Prop := e = .returned (.tuple #[]) ∧ Mod W W' [g] ∧ ∃ fp', RS g L' W' fp' ∧ ∀ y ∈ fp', (y ∈ fp ∨ y ∈ cfp) ∨ W.heap.size ≤ y
theorem take_snoc (L : St) {j : Nat} (hj : j < L.length) : L.take (j + 1) = L.take j ++ [(L[j].1, L[j].2)] := List.take_succ_eq_append_getElem hj
theorem outL_len {L : St} (hs : Sorted L) (key : ByteArray) (cl : List S31) : (outL L key cl).length ≤ L.length + 1 := by
  unfold outL setL
  split
  · split
    · exact Nat.le_trans (lcut_sub L key).length_le (by omega)
    · rw [lset_length]; split <;> omega
  · omega
theorem end_row {W W' : World} {g : Nat} {L' : St} {rfp cfp : List Nat} {A : Option Addr} {c : Nat} {x : Value} (m : Mod W W' []) (hg : g < W.heap.size) (hgr : g ∉ rfp) (hgc : g ∉ cfp) (hrl : ∀ k, (k ∈ rfp ∨ k ∈ cfp) → k < W.heap.size) (hL : W'.heap[g]? = some (.cells #[x] 76 (0, 0)))
    (h : k56.R 56 W' 0 (fun k => (k ∈ rfp ∨ k ∈ cfp) ∨ W.heap.size ≤ k) (.slice A L'.length c) (itemsL L')) : RSetP W g L' (g :: rfp) cfp (.returned (.tuple #[])) (W'.setCell ⟨g, 0, none⟩ (.slice A L'.length c)) := by
  have hb := Kd.R_bound h
  have hsz := m.size
  refine ⟨rfl, (m.mono (by simp)).setCell (.inl (by simp)) _, g :: (rfp ++ cfp ++ (List.range (W'.heap.size - W.heap.size)).map (· + W.heap.size)), ⟨A, c, _, blk_put hL 0 _ rfl, Kd.R_far (Kd.R_mono hb ?_) ?_ _, ?_, ?_, rfl⟩, ?_⟩
  · rintro k ⟨hk, _, hlt, _⟩
    rcases hk with (hk | hk) | hk
    · simp [hk]
    · simp [hk]
    · refine List.mem_append_right _ (List.mem_map.2 ⟨k - W.heap.size, List.mem_range.2 (by omega), by omega⟩)
  · intro k hk
    rcases List.mem_append.1 hk with hk | hk
    · rcases List.mem_append.1 hk with hk | hk
      · exact fun e => by have e2 : k = g := e; subst e2; exact hgr hk
      · exact fun e => by have e2 : k = g := e; subst e2; exact hgc hk
    · obtain ⟨i, _, rfl⟩ := List.mem_map.1 hk
      exact fun e => by have e2 : i + W.heap.size = g := e; omega
  · intro hk
    rcases List.mem_append.1 hk with hk | hk
    · rcases List.mem_append.1 hk with hk | hk
      · exact hgr hk
      · exact hgc hk
    · obtain ⟨i, _, e⟩ := List.mem_map.1 hk
      have e2 : i + W.heap.size = g := e
      omega
  · intro y hy
    have hs2 : (W'.setCell ⟨g, 0, none⟩ (.slice A L'.length c)).heap.size = W'.heap.size := by simp [World.setCell]
    rw [hs2]
    rcases List.mem_append.1 hy with hk | hk
    · rcases List.mem_append.1 hk with hk | hk
      · have := hrl y (.inl hk); omega
      · have := hrl y (.inr hk); omega
    · obtain ⟨i, hi, e⟩ := List.mem_map.1 hk
      have e2 : i + W.heap.size = y := e
      have := List.mem_range.1 hi
      omega
  · intro y hy
    simp only [List.mem_cons, List.mem_append, List.mem_map, List.mem_range] at hy
    rcases hy with rfl | (hy | hy) | ⟨i, _, rfl⟩
    · exact .inl (.inl (by simp))
    · exact .inl (.inl (by simp [hy]))
    · exact .inl (.inr hy)
    · exact .inr (by omega)
set_option maxRecDepth 100000 in
set_option maxHeartbeats 8000000 in
theorem rset_calls {W : World} {g : Nat} {L : St} {fp cfp : List Nat} {Ac : Option Addr} {cc : Nat} {cl : List S31} (key : ByteArray) {L' : St} (h : RS g L W fp) (hs : Sorted L) (hl : L.length ≤ 1000000) (hcl : cl.length ≤ 1000000) (hv : k31.R 31 W 0 (fun k => k ∈ cfp) (.slice Ac cl.length cc) cl) (hcf : ∀ k ∈ cfp, k < W.heap.size) (hgc : g ∉ cfp) (hL : setL L key cl = L') :
    Calls Try.prog 58 #[.pointer (some ⟨g, 0, none⟩), .string key, .slice Ac cl.length cc] W (RSetP W g L' fp cfp) := by
  obtain ⟨A, c, rfp, h1, h2, h3, h4, rfl⟩ := h
  have hc : W.cell? ⟨g, 0, none⟩ = some (.slice A L.length c) := (blk_cell h1 0).trans rfl
  have hlt : ∀ k, (k ∈ rfp ∨ k ∈ cfp) → k < W.heap.size := fun k hk => hk.elim (h4 k) (hcf k)
  have HLT := Lib.hid hlt
  have H := Lib.hid (And.intro h2 (And.intro hs hv))
  have HG := Lib.hid (And.intro h1 (And.intro h3 hgc))
  subst hL
  clear h1 h2 h3 h4 hs hv hcf hgc hlt
  have hdn0 : doneL [] key cl = decide (cl.length = 0) := by unfold doneL hitL; simp
  obtain ⟨d0, hd0⟩ : ∃ d0, decide (cl.length = 0) = d0 := ⟨_, rfl⟩
  have hd0z : ((cl.length : Int) == 0) = d0 := by
    rw [← hd0]
    by_cases h : cl.length = 0
    · simp [h]
    · rw [decide_eq_false h]; exact beq_eq_false_iff_ne.2 (by omega)
  rw [hd0] at hdn0
  have HD := Lib.hid (And.intro hdn0 hd0)
  clear hdn0 hd0
  go_enter Try.func58, Try.ntmps58
  go_wp2_with fail
  go_loopg [6, 7, 8] L.length (fun k lv dv i wr => ∃ j : Nat, j ≤ L.length ∧ k = L.length - j ∧ i = .int .i64 j ∧ dv = .bool (doneL (L.take j) key cl) ∧ k56.R 56 wr 0 (fun k => (k ∈ rfp ∨ k ∈ cfp) ∨ W.heap.size ≤ k) lv (itemsL (outL (L.take j) key cl)) ∧ Mod W wr [] ∧ (∀ k, lv.ownBlock = some k → W.heap.size ≤ k))
  case atStart => exact ⟨0, Nat.zero_le _, rfl, rfl, by rw [List.take_zero, HD.out.1], by
    have e : itemsL (outL (L.take 0) key cl) = [] := by rw [List.take_zero]; rfl
    rw [e]; exact Kd.R_nil _ _ _ _ _, Mod.refl _ _, fun k hk => by simp [Value.ownBlock] at hk⟩
  case round =>
    obtain ⟨j, hj, rfl, rfl, rfl, hR, hM, hO⟩ := hrel
    by_cases hjl : j < L.length
    · have hjz : (j : Int) < (L.length : Int) := by omega
      obtain ⟨q, vj, rfl, k0, k1, hRj, hqr⟩ := item_at H.out.1 j hjl
      have hw : IntKind.i64.wrap ((j : Int) + 1) = ((j + 1 : Nat) : Int) := by rw [i64w (by omega) (by omega)]; omega
      have hts := take_snoc L hjl
      have hso : Sorted (L.take j ++ [(L[j].1, L[j].2)]) := by rw [← hts]; exact H.out.2.1.sublist (List.take_sublist _ _)
      have hlen : (itemsL (outL (L.take j) key cl)).length ≤ 1000001 := by
        rw [itemsL_len]
        have := outL_len (H.out.2.1.sublist (List.take_sublist j L)) key cl
        rw [List.length_take] at this; omega
      have h_lt := out_lt (cl := cl) (key := key) hso
      have h_hit := out_hit (cl := cl) (key := key) hso
      have h_new := out_new (L := L.take j) (cl := cl) (key := key) (k := L[j].1) (v := L[j].2)
      have hdd : doneL (L.take j) key cl = (d0 || hitL (L.take j) key) := by unfold doneL; rw [HD.out.2]
      rw [← hts] at h_lt h_hit h_new
      obtain ⟨B, d, rfl, hd, hC⟩ := Kd.R_reads hR
      have HJ := Lib.hid (And.intro hR (And.intro hM hO))
      have HI := Lib.hid hRj
      have HS := Lib.hid (And.intro h_lt (And.intro h_hit h_new))
      have e0 : wr.cell? ⟨q, j * 2, none⟩ = some (.string L[j].1) := Mod.cellN hM k0 (by simp)
      have e1 : wr.cell? ⟨q, j * 2 + 1, none⟩ = some vj := Mod.cellN hM k1 (by simp)
      have eg : wr.cell? ⟨g, 0, none⟩ = some (.slice (some ⟨q, 0, none⟩) L.length c) := Mod.cellN hM hc (by simp)
      clear hR hO hRj h_lt h_hit h_new hso hts hC hd hM hc
      obtain ⟨ht, hht⟩ : ∃ ht, hitL (L.take j) key = ht := ⟨_, rfl⟩
      have HHT := Lib.hid hht
      rw [hht] at hdd
      rw [hdd]
      have HDD := Lib.hid hdd
      clear hdd
      generalize hac : itemsL (outL (L.take j) key cl) = ac at *
      have HAC := Lib.hid hac
      clear hac hht
      generalize L[j].1 = kk at *
      generalize L[j].2 = ll at *
      cases hlk : Op.bytesLess kk.toList key.toList with
      | true =>
        have hS := HS.out.1 hlk
        have ht0 : ht = false := by rw [← HHT.out]; exact hS.1
        have hne : (kk.toList == key.toList) = false := beq_eq_false_iff_ne.2 (lt_ne hlk)
        have HE := Lib.hid (And.intro (show itemsL (outL (L.take (j + 1)) key cl) = ac ++ [⟨kk, ll⟩] by rw [hS.2.1, items_snoc, HAC.out]) (show doneL (L.take (j + 1)) key cl = d0 by rw [hS.2.2, HDD.out, ht0, Bool.or_false]))
        subst ht0
        rw [Bool.or_false]
        clear hS
        cases d0 with
        | true =>
          go_wp2_with (first | (at_builtin; refine Kd.R_append k56 (w0 := wr) (W := wr) 0 rfl _ _ 53 56 (.agg #[.string ByteArray.empty, .slice none 0 0]) 40 rfl Try.underlying53 info56 rfl (by decide) (by decide) (.slice B ac.length d) ac (⟨kk, ll⟩ : S56) [.string kk, vj] (fun k => (k ∈ rfp ∨ k ∈ cfp) ∨ W.heap.size ≤ k) (fun k => k ∈ rfp ∨ k ∈ cfp) rfl rfl (k56_mkM _ _ _ (⟨kk, ll⟩ : S56) (Kd.R_mono (R_mod HI.out HJ.out.2.1) (fun k hk => .inl hk.1))) (fun k hk => ⟨.inl hk, fun e => by have z := HJ.out.2.2 k e.symm; have y := HLT.out k hk; omega⟩) (fun k h => .inr (Nat.le_trans HJ.out.2.1.size h)) HJ.out.1 (Below.refl _ _) (Nat.zero_le _) (by omega) ?_) | fail)
          intro v9 W9 o9 _ g9 hat9
          have m9 : Mod W W9 [] := HJ.out.2.1.trans (mod_own g9) (fun y hy => .inr (HJ.out.2.2 y (own_mem _ y hy)))
          have hb9 : ∀ k, v9.ownBlock = some k → W.heap.size ≤ k := fun k hk => by
            rcases hat9 with h | ⟨b, h, hb⟩
            · exact HJ.out.2.2 k (h ▸ hk)
            · rw [hk] at h; cases h; exact Nat.le_trans HJ.out.2.1.size hb
          have H9 := Lib.hid (And.intro o9 (And.intro m9 hb9))
          clear o9 g9 hat9 m9 hb9
          go_wp2
          go_roundg (L.length - (j + 1))
          case measure => omega
          case rel => exact ⟨j + 1, by omega, rfl, by rw [show ((j + 1 : Nat) : Int) = (j : Int) + 1 by omega], by rw [HE.out.2], by rw [HE.out.1]; exact H9.out.1, H9.out.2.1, H9.out.2.2⟩
        | false =>
          go_wp2_with (first | (at_builtin; refine Kd.R_append k56 (w0 := wr) (W := wr) 0 rfl _ _ 53 56 (.agg #[.string ByteArray.empty, .slice none 0 0]) 40 rfl Try.underlying53 info56 rfl (by decide) (by decide) (.slice B ac.length d) ac (⟨kk, ll⟩ : S56) [.string kk, vj] (fun k => (k ∈ rfp ∨ k ∈ cfp) ∨ W.heap.size ≤ k) (fun k => k ∈ rfp ∨ k ∈ cfp) rfl rfl (k56_mkM _ _ _ (⟨kk, ll⟩ : S56) (Kd.R_mono (R_mod HI.out HJ.out.2.1) (fun k hk => .inl hk.1))) (fun k hk => ⟨.inl hk, fun e => by have z := HJ.out.2.2 k e.symm; have y := HLT.out k hk; omega⟩) (fun k h => .inr (Nat.le_trans HJ.out.2.1.size h)) HJ.out.1 (Below.refl _ _) (Nat.zero_le _) (by omega) ?_) | fail)
          intro v9 W9 o9 _ g9 hat9
          have m9 : Mod W W9 [] := HJ.out.2.1.trans (mod_own g9) (fun y hy => .inr (HJ.out.2.2 y (own_mem _ y hy)))
          have hb9 : ∀ k, v9.ownBlock = some k → W.heap.size ≤ k := fun k hk => by
            rcases hat9 with h | ⟨b, h, hb⟩
            · exact HJ.out.2.2 k (h ▸ hk)
            · rw [hk] at h; cases h; exact Nat.le_trans HJ.out.2.1.size hb
          have H9 := Lib.hid (And.intro o9 (And.intro m9 hb9))
          clear o9 g9 hat9 m9 hb9
          go_wp2
          go_roundg (L.length - (j + 1))
          case measure => omega
          case rel => exact ⟨j + 1, by omega, rfl, by rw [show ((j + 1 : Nat) : Int) = (j : Int) + 1 by omega], by rw [HE.out.2], by rw [HE.out.1]; exact H9.out.1, H9.out.2.1, H9.out.2.2⟩
      | false =>
        cases ht with
        | true =>
          have hS := HS.out.2.1 HHT.out
          have hne : (kk.toList == key.toList) = false := beq_eq_false_iff_ne.2 hS.1
          have hor : (d0 || true) = true := by simp
          have HE := Lib.hid (And.intro (show itemsL (outL (L.take (j + 1)) key cl) = ac ++ [⟨kk, ll⟩] by rw [hS.2.1, items_snoc, HAC.out]) hS.2.2)
          rw [hor]
          clear hS hor
          go_wp2_with (first | (at_builtin; refine Kd.R_append k56 (w0 := wr) (W := wr) 0 rfl _ _ 53 56 (.agg #[.string ByteArray.empty, .slice none 0 0]) 40 rfl Try.underlying53 info56 rfl (by decide) (by decide) (.slice B ac.length d) ac (⟨kk, ll⟩ : S56) [.string kk, vj] (fun k => (k ∈ rfp ∨ k ∈ cfp) ∨ W.heap.size ≤ k) (fun k => k ∈ rfp ∨ k ∈ cfp) rfl rfl (k56_mkM _ _ _ (⟨kk, ll⟩ : S56) (Kd.R_mono (R_mod HI.out HJ.out.2.1) (fun k hk => .inl hk.1))) (fun k hk => ⟨.inl hk, fun e => by have z := HJ.out.2.2 k e.symm; have y := HLT.out k hk; omega⟩) (fun k h => .inr (Nat.le_trans HJ.out.2.1.size h)) HJ.out.1 (Below.refl _ _) (Nat.zero_le _) (by omega) ?_) | fail)
          intro v9 W9 o9 _ g9 hat9
          have m9 : Mod W W9 [] := HJ.out.2.1.trans (mod_own g9) (fun y hy => .inr (HJ.out.2.2 y (own_mem _ y hy)))
          have hb9 : ∀ k, v9.ownBlock = some k → W.heap.size ≤ k := fun k hk => by
            rcases hat9 with h | ⟨b, h, hb⟩
            · exact HJ.out.2.2 k (h ▸ hk)
            · rw [hk] at h; cases h; exact Nat.le_trans HJ.out.2.1.size hb
          have H9 := Lib.hid (And.intro o9 (And.intro m9 hb9))
          clear o9 g9 hat9 m9 hb9
          go_wp2
          go_roundg (L.length - (j + 1))
          case measure => omega
          case rel => exact ⟨j + 1, by omega, rfl, by rw [show ((j + 1 : Nat) : Int) = (j : Int) + 1 by omega], by rw [HE.out.2], by rw [HE.out.1]; exact H9.out.1, H9.out.2.1, H9.out.2.2⟩
        | false =>
          have hS := HS.out.2.2 HHT.out hlk
          rw [Bool.or_false]
          by_cases hq : kk.toList = key.toList
          · have hqb : (kk.toList == key.toList) = true := by rw [hq]; simp
            have HE := Lib.hid (And.intro (show itemsL (outL (L.take (j + 1)) key cl) = ac ++ (if cl.length = 0 then [] else [⟨key, cl⟩]) by rw [hS.1, if_pos hq, List.append_nil, ← HAC.out]; unfold itemsL; rw [List.map_append]; congr 1; split <;> rfl) hS.2)
            clear hS hq
            cases d0 with
            | true =>
              have hz : cl.length = 0 := of_decide_eq_true HD.out.2
              have HZ := Lib.hid hz
              clear hz
              go_wp2
              go_roundg (L.length - (j + 1))
              case measure => omega
              case rel => exact ⟨j + 1, by omega, rfl, by rw [show ((j + 1 : Nat) : Int) = (j : Int) + 1 by omega], by rw [HE.out.2], by rw [HE.out.1, if_pos HZ.out, List.append_nil]; exact HJ.out.1, HJ.out.2.1, HJ.out.2.2⟩
            | false =>
              have hz : ¬ cl.length = 0 := of_decide_eq_false HD.out.2
              have HZ := Lib.hid hz
              clear hz
              go_wp2_with (first | (at_builtin; refine Kd.R_append k56 (w0 := wr) (W := wr) 0 rfl _ _ 53 56 (.agg #[.string ByteArray.empty, .slice none 0 0]) 40 rfl Try.underlying53 info56 rfl (by decide) (by decide) (.slice B ac.length d) ac (⟨key, cl⟩ : S56) [.string key, .slice Ac cl.length cc] (fun k => (k ∈ rfp ∨ k ∈ cfp) ∨ W.heap.size ≤ k) (fun k => k ∈ rfp ∨ k ∈ cfp) rfl rfl (k56_mkM _ _ _ (⟨key, cl⟩ : S56) (Kd.R_mono (R_mod H.out.2.2 HJ.out.2.1) (fun k hk => .inr hk))) (fun k hk => ⟨.inl hk, fun e => by have z := HJ.out.2.2 k e.symm; have y := HLT.out k hk; omega⟩) (fun k h => .inr (Nat.le_trans HJ.out.2.1.size h)) HJ.out.1 (Below.refl _ _) (Nat.zero_le _) (by omega) ?_) | fail)
              intro v8 W8 o8 _ g8 hat8
              have m8 : Mod W W8 [] := HJ.out.2.1.trans (mod_own g8) (fun y hy => .inr (HJ.out.2.2 y (own_mem _ y hy)))
              have hb8 : ∀ k, v8.ownBlock = some k → W.heap.size ≤ k := fun k hk => by
                rcases hat8 with h | ⟨b, h, hb⟩
                · exact HJ.out.2.2 k (h ▸ hk)
                · rw [hk] at h; cases h; exact Nat.le_trans HJ.out.2.1.size hb
              have H8 := Lib.hid (And.intro o8 (And.intro m8 hb8))
              clear o8 g8 hat8 m8 hb8
              have f0 : W8.cell? ⟨q, j * 2, none⟩ = some (.string kk) := Mod.cellN H8.out.2.1 k0 (by simp)
              have f1 : W8.cell? ⟨q, j * 2 + 1, none⟩ = some vj := Mod.cellN H8.out.2.1 k1 (by simp)
              have fg : W8.cell? ⟨g, 0, none⟩ = some (.slice (some ⟨q, 0, none⟩) L.length c) := (blk_cell (H8.out.2.1.at_ HG.out.1 (by simp)) 0).trans rfl
              go_wp2
              go_roundg (L.length - (j + 1))
              case measure => omega
              case rel => exact ⟨j + 1, by omega, rfl, by rw [show ((j + 1 : Nat) : Int) = (j : Int) + 1 by omega], by rw [HE.out.2], by rw [HE.out.1, if_neg HZ.out]; exact H8.out.1, H8.out.2.1, H8.out.2.2⟩
          · have hqb : (kk.toList == key.toList) = false := by simpa using hq
            have HE := Lib.hid (And.intro (show itemsL (outL (L.take (j + 1)) key cl) = (ac ++ (if cl.length = 0 then [] else [⟨key, cl⟩])) ++ [⟨kk, ll⟩] by rw [hS.1, if_neg hq, ← HAC.out]; unfold itemsL; rw [List.map_append, List.map_append, List.append_assoc]; congr 1; split <;> rfl) hS.2)
            clear hS hq
            cases d0 with
            | true =>
              have hz : cl.length = 0 := of_decide_eq_true HD.out.2
              have HZ := Lib.hid hz
              clear hz
              go_wp2_with (first | (at_builtin; refine Kd.R_append k56 (w0 := wr) (W := wr) 0 rfl _ _ 53 56 (.agg #[.string ByteArray.empty, .slice none 0 0]) 40 rfl Try.underlying53 info56 rfl (by decide) (by decide) (.slice B ac.length d) ac (⟨kk, ll⟩ : S56) [.string kk, vj] (fun k => (k ∈ rfp ∨ k ∈ cfp) ∨ W.heap.size ≤ k) (fun k => k ∈ rfp ∨ k ∈ cfp) rfl rfl (k56_mkM _ _ _ (⟨kk, ll⟩ : S56) (Kd.R_mono (R_mod HI.out HJ.out.2.1) (fun k hk => .inl hk.1))) (fun k hk => ⟨.inl hk, fun e => by have z := HJ.out.2.2 k e.symm; have y := HLT.out k hk; omega⟩) (fun k h => .inr (Nat.le_trans HJ.out.2.1.size h)) HJ.out.1 (Below.refl _ _) (Nat.zero_le _) (by omega) ?_) | fail)
              intro v9 W9 o9 _ g9 hat9
              have m9 : Mod W W9 [] := HJ.out.2.1.trans (mod_own g9) (fun y hy => .inr (HJ.out.2.2 y (own_mem _ y hy)))
              have hb9 : ∀ k, v9.ownBlock = some k → W.heap.size ≤ k := fun k hk => by
                rcases hat9 with h | ⟨b, h, hb⟩
                · exact HJ.out.2.2 k (h ▸ hk)
                · rw [hk] at h; cases h; exact Nat.le_trans HJ.out.2.1.size hb
              have H9 := Lib.hid (And.intro o9 (And.intro m9 hb9))
              clear o9 g9 hat9 m9 hb9
              go_wp2
              go_roundg (L.length - (j + 1))
              case measure => omega
              case rel => exact ⟨j + 1, by omega, rfl, by rw [show ((j + 1 : Nat) : Int) = (j : Int) + 1 by omega], by rw [HE.out.2], by rw [HE.out.1, if_pos HZ.out, List.append_nil]; exact H9.out.1, H9.out.2.1, H9.out.2.2⟩
            | false =>
              have hz : ¬ cl.length = 0 := of_decide_eq_false HD.out.2
              have HZ := Lib.hid hz
              clear hz
              go_wp2_with (first | (at_builtin; refine Kd.R_append k56 (w0 := wr) (W := wr) 0 rfl _ _ 53 56 (.agg #[.string ByteArray.empty, .slice none 0 0]) 40 rfl Try.underlying53 info56 rfl (by decide) (by decide) (.slice B ac.length d) ac (⟨key, cl⟩ : S56) [.string key, .slice Ac cl.length cc] (fun k => (k ∈ rfp ∨ k ∈ cfp) ∨ W.heap.size ≤ k) (fun k => k ∈ rfp ∨ k ∈ cfp) rfl rfl (k56_mkM _ _ _ (⟨key, cl⟩ : S56) (Kd.R_mono (R_mod H.out.2.2 HJ.out.2.1) (fun k hk => .inr hk))) (fun k hk => ⟨.inl hk, fun e => by have z := HJ.out.2.2 k e.symm; have y := HLT.out k hk; omega⟩) (fun k h => .inr (Nat.le_trans HJ.out.2.1.size h)) HJ.out.1 (Below.refl _ _) (Nat.zero_le _) (by omega) ?_) | fail)
              intro v8 W8 o8 _ g8 hat8
              have m8 : Mod W W8 [] := HJ.out.2.1.trans (mod_own g8) (fun y hy => .inr (HJ.out.2.2 y (own_mem _ y hy)))
              have hb8 : ∀ k, v8.ownBlock = some k → W.heap.size ≤ k := fun k hk => by
                rcases hat8 with h | ⟨b, h, hb⟩
                · exact HJ.out.2.2 k (h ▸ hk)
                · rw [hk] at h; cases h; exact Nat.le_trans HJ.out.2.1.size hb
              have H8 := Lib.hid (And.intro o8 (And.intro m8 hb8))
              clear o8 g8 hat8 m8 hb8
              have f0 : W8.cell? ⟨q, j * 2, none⟩ = some (.string kk) := Mod.cellN H8.out.2.1 k0 (by simp)
              have f1 : W8.cell? ⟨q, j * 2 + 1, none⟩ = some vj := Mod.cellN H8.out.2.1 k1 (by simp)
              have fg : W8.cell? ⟨g, 0, none⟩ = some (.slice (some ⟨q, 0, none⟩) L.length c) := (blk_cell (H8.out.2.1.at_ HG.out.1 (by simp)) 0).trans rfl
              go_wp2_with (first | (at_builtin; refine Kd.R_append k56 (w0 := W8) (W := W8) 0 rfl _ _ 53 56 (.agg #[.string ByteArray.empty, .slice none 0 0]) 40 rfl Try.underlying53 info56 rfl (by decide) (by decide) v8 (ac ++ [(⟨key, cl⟩ : S56)]) (⟨kk, ll⟩ : S56) [.string kk, vj] (fun k => (k ∈ rfp ∨ k ∈ cfp) ∨ W.heap.size ≤ k) (fun k => k ∈ rfp ∨ k ∈ cfp) rfl rfl (k56_mkM _ _ _ (⟨kk, ll⟩ : S56) (Kd.R_mono (R_mod HI.out H8.out.2.1) (fun k hk => .inl hk.1))) (fun k hk => ⟨.inl hk, fun e => by have z := H8.out.2.2 k e.symm; have y := HLT.out k hk; omega⟩) (fun k h => .inr (Nat.le_trans H8.out.2.1.size h)) H8.out.1 (Below.refl _ _) (Nat.zero_le _) (by rw [List.length_append]; simp only [List.length_cons, List.length_nil]; omega) ?_) | fail)
              intro v9 W9 o9 _ g9 hat9
              have m9 : Mod W W9 [] := H8.out.2.1.trans (mod_own g9) (fun y hy => .inr (H8.out.2.2 y (own_mem _ y hy)))
              have hb9 : ∀ k, v9.ownBlock = some k → W.heap.size ≤ k := fun k hk => by
                rcases hat9 with h | ⟨b, h, hb⟩
                · exact H8.out.2.2 k (h ▸ hk)
                · rw [hk] at h; cases h; exact Nat.le_trans H8.out.2.1.size hb
              have H9 := Lib.hid (And.intro o9 (And.intro m9 hb9))
              clear o9 g9 hat9 m9 hb9
              go_wp2
              go_roundg (L.length - (j + 1))
              case measure => omega
              case rel => exact ⟨j + 1, by omega, rfl, by rw [show ((j + 1 : Nat) : Int) = (j : Int) + 1 by omega], by rw [HE.out.2], by rw [HE.out.1, if_neg HZ.out, List.append_assoc]; exact H9.out.1, H9.out.2.1, H9.out.2.2⟩
    · obtain rfl : j = L.length := by omega
      have hjz : ¬ (L.length : Int) < (L.length : Int) := by omega
      rw [List.take_length] at hR ⊢
      have hend := out_end (L := L) (key := key) (cl := cl)
      have hlen : (itemsL (outL L key cl)).length ≤ 1000001 := by rw [itemsL_len]; have := outL_len H.out.2.1 key cl; omega
      have hgW := hM.at_ HG.out.1 (by simp)
      obtain ⟨B, d, rfl, hd, hC⟩ := Kd.R_reads hR
      have HJ := Lib.hid (And.intro hR (And.intro hM hO))
      have HE := Lib.hid hend
      have HGW := Lib.hid hgW
      have HLL := Lib.hid (blk_lt HG.out.1)
      have fg := blk_frozen hgW 0
      have eg : wr.cell? ⟨g, 0, none⟩ = some (.slice A L.length c) := (blk_cell hgW 0).trans rfl
      clear hR hO hM hd hC hend hgW hc
      cases hdl : doneL L key cl with
      | true =>
        have HZ : Hid (outL L key cl = setL L key cl) := Lib.hid (by rw [HE.out, hdl, if_pos rfl])
        rw [HZ.out] at HJ ⊢
        rw [itemsL_len] at HJ ⊢
        go_wp2
        go_end0
        exact end_row HJ.out.2.1 HLL.out HG.out.2.1 HG.out.2.2 HLT.out HGW.out HJ.out.1
      | false =>
        have HZ : Hid (outL L key cl ++ [(key, cl)] = setL L key cl) := Lib.hid (by rw [HE.out, hdl, if_neg (by simp)])
        generalize hac : itemsL (outL L key cl) = ac at *
        have HAC := Lib.hid hac
        clear hac
        go_wp2_with (first | (at_builtin; refine Kd.R_append k56 (w0 := wr) (W := wr) 0 rfl _ _ 53 56 (.agg #[.string ByteArray.empty, .slice none 0 0]) 40 rfl Try.underlying53 info56 rfl (by decide) (by decide) (.slice B ac.length d) ac (⟨key, cl⟩ : S56) [.string key, .slice Ac cl.length cc] (fun k => (k ∈ rfp ∨ k ∈ cfp) ∨ W.heap.size ≤ k) (fun k => k ∈ rfp ∨ k ∈ cfp) rfl rfl (k56_mkM _ _ _ (⟨key, cl⟩ : S56) (Kd.R_mono (R_mod H.out.2.2 HJ.out.2.1) (fun k hk => .inr hk))) (fun k hk => ⟨.inl hk, fun e => by have z := HJ.out.2.2 k e.symm; have y := HLT.out k hk; omega⟩) (fun k h => .inr (Nat.le_trans HJ.out.2.1.size h)) HJ.out.1 (Below.refl _ _) (Nat.zero_le _) (by omega) ?_) | fail)
        intro v9 W9 o9 _ g9 hat9
        have m9 : Mod W W9 [] := HJ.out.2.1.trans (mod_own g9) (fun y hy => .inr (HJ.out.2.2 y (own_mem _ y hy)))
        have hb9 : ∀ k, v9.ownBlock = some k → W.heap.size ≤ k := fun k hk => by
          rcases hat9 with h | ⟨b, h, hb⟩
          · exact HJ.out.2.2 k (h ▸ hk)
          · rw [hk] at h; cases h; exact Nat.le_trans HJ.out.2.1.size hb
        have H9 := Lib.hid (And.intro o9 (And.intro m9 hb9))
        clear o9 g9 hat9 m9 hb9
        have he : ac ++ [⟨key, cl⟩] = itemsL (setL L key cl) := by rw [← HZ.out, items_snoc, HAC.out]
        have h9 := H9.out.1
        rw [he] at h9
        obtain ⟨B9, d9, rfl, _, _⟩ := Kd.R_reads h9
        rw [itemsL_len] at h9 ⊢
        have hg9 : W9.heap[g]? = some (.cells #[.slice A L.length c] 76 (0, 0)) := H9.out.2.1.at_ HG.out.1 (by simp)
        have f9 := blk_frozen hg9 0
        have e9 : W9.cell? ⟨g, 0, none⟩ = some (.slice A L.length c) := (blk_cell hg9 0).trans rfl
        have HF := Lib.hid (And.intro h9 hg9)
        clear h9 hg9 he
        go_wp2
        go_end0
        exact end_row H9.out.2.1 HLL.out HG.out.2.1 HG.out.2.2 HLT.out HF.out.2 HF.out.1
end Go.Proofs.Ytomcjcoehahikaa.Sto
