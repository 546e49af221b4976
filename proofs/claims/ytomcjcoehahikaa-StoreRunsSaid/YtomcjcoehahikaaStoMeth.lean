/- The layer 'store': scan, prune, items walked; a seat's own text, no law of its own. -/
import Derived.Test.YtomcjcoehahikaaStoBase
import Derived.Deep.LoopGhost
import Derived.Deep.Cut
import Derived.Lib.Hide
import Derived.StillTailTactics
import Derived.Deep.QuietTactic
import Derived.BigQuiet
import Derived.Outline
import Derived.Deep.RegionWith
import Derived.Deep.RegionHeld3
import Derived.WalkLawsBesides
namespace Go.Proofs.Ytomcjcoehahikaa.Sto
open Go.RowKit Go.Proofs.YtomcjcoehahikaaW.PrintWords Go.Proofs.Ytomcjcoehahikaa.Ord Go.Proofs.Ytomcjcoehahikaa.MStoreRuns Go.Proofs.YtomcjcoehahikaaW.PrintLast
set_option linter.unusedVariables false
set_option linter.unusedSimpArgs false
theorem info60 : (Try.prog.info? 60).map (fun i => (i.zero, i.size, i.bytes)) = some (some (.agg #[.string ByteArray.empty, .string ByteArray.empty]), 2, 32) := by kernel_rfl
def scanF (L : St) (t0 t1 : Int) (k : ByteArray) : Option S60 := if (getS L k t0 t1).2 = true then some ⟨k, (getS L k t0 t1).1⟩ else none
def scanA (L : St) (ks : List ByteArray) (t0 t1 : Int) (m : Nat) : List S60 := (ks.filterMap (scanF L t0 t1)).take m
def scanS (L : St) (lo hi : ByteArray) (t0 t1 limit : Int) : List S60 := scanA L (rangeL L lo hi) t0 t1 (min limit 32).toNat
theorem scanA_full {L : St} {ks : List ByteArray} {t0 t1 : Int} {m j : Nat} (h : m ≤ (scanA L (ks.take j) t0 t1 m).length) : scanA L (ks.take j) t0 t1 m = scanA L ks t0 t1 m := by
  unfold scanA at *
  rw [List.length_take] at h
  conv => rhs; rw [← List.take_append_drop j ks, List.filterMap_append]
  rw [List.take_append_of_le_length (by omega)]
theorem scanA_snoc (L : St) (ks : List ByteArray) (t0 t1 : Int) (m j : Nat) (hj : j < ks.length) (h : (scanA L (ks.take j) t0 t1 m).length < m) :
    scanA L (ks.take (j + 1)) t0 t1 m = scanA L (ks.take j) t0 t1 m ++ (scanF L t0 t1 ks[j]).toList := by
  unfold scanA at *
  rw [List.length_take] at h
  have e1 : ks.take (j + 1) = ks.take j ++ [ks[j]] := by rw [List.take_succ_eq_append_getElem hj]
  have e2 : ((ks.take j).filterMap (scanF L t0 t1)).length < m := by omega
  rw [e1, List.filterMap_append, List.take_of_length_le (Nat.le_of_lt e2)]
  cases hs : scanF L t0 t1 ks[j] with
  | none => simp [hs, List.take_of_length_le (Nat.le_of_lt e2)]
  | some x => simp [hs]; rw [List.take_of_length_le (by simp; omega)]
theorem scanA_le (L : St) (ks : List ByteArray) (t0 t1 : Int) (m : Nat) : (scanA L ks t0 t1 m).length ≤ m := by unfold scanA; rw [List.length_take]; omega
theorem keys_row {W : World} {v : Value} {xs : List ByteArray} (h : W.ownsRow 0 9 1 v xs.length (pw_strs xs)) : ∃ A c, v = .slice A xs.length c ∧ ∀ i (hi : i < xs.length), ∃ g, A = some ⟨g, 0, none⟩ ∧ W.cell? ⟨g, i, none⟩ = some (.string xs[i]) := by
  by_cases hn : 0 < xs.length
  · obtain ⟨g, c, hv, hc⟩ := own_cells h hn
    exact ⟨some ⟨g, 0, none⟩, c, hv, fun i hi => ⟨g, rfl, hc i hi⟩⟩
  · rcases h.2 with ⟨e, _⟩ | ⟨g, cap, cur, e, _⟩
    · exact ⟨none, 0, by rw [e, show xs.length = 0 by omega], fun i hi => by omega⟩
    · exact ⟨_, _, e, fun i hi => by omega⟩
def ScanP (W : World) (res : List S60) (e : Ending) (W' : World) : Prop := ∃ A c, e = .returned (.slice A res.length c) ∧ Row k60 60 W' (.slice A res.length c) res ∧ (∀ y ∈ ownList (.slice A res.length c), W.heap.size ≤ y) ∧ Mod W W' []
theorem scan_fin {W V W' : World} {B : Option Addr} {d : Nat} {ac : List S60} (h : k60.R 60 W' 0 (fun b => V.heap.size ≤ b) (.slice B ac.length d) ac) (m : Mod W W' []) (hv : W.heap.size ≤ V.heap.size) : ScanP W ac (.returned (.slice B ac.length d)) W' :=
  ⟨B, d, rfl, Row.of h, fun y hy => Nat.le_trans hv (h.1 y (own_mem _ y hy)), m⟩
set_option maxRecDepth 100000 in
set_option maxHeartbeats 4000000 in
theorem scan_calls {W : World} {s : Nat} {L : St} {fp : List Nat} (lo hi : ByteArray) (t0 t1 limit : Int) (h : SF W s L fp) (hl : L.length ≤ 1000000) :
    Calls Try.prog 30 #[.pointer (some ⟨s, 0, none⟩), .string lo, .string hi, .agg #[.int .u64 t0, .int .u32 t1], .int .i64 limit] W (ScanP W (scanS L lo hi t0 t1 limit)) := by
  have hm := (Mod.refl W []).alloc (.cells #[.int .u64 t0, .int .u32 t1] 27)
  have hb := blk_new W (.cells #[.int .u64 t0, .int .u32 t1] 27)
  have H := Lib.hid (And.intro (h.mod hm (by simp)) (And.intro hm (And.intro hb hl)))
  have hkl : (rangeL L lo hi).length ≤ 1000000 := Nat.le_trans (rangeL_all_le L lo hi) hl
  clear h hm hb hl
  generalize hS : scanS L lo hi t0 t1 limit = S
  unfold scanS at hS
  generalize hks : rangeL L lo hi = ks at hS hkl
  have HK0 := Lib.hid hks
  have HS := Lib.hid hS
  have HKL := Lib.hid hkl
  clear hks hS hkl
  go_enter Try.func30, Try.ntmps30
  go_wp2_with fail
  generalize W.alloc (.cells #[.int .u64 t0, .int .u32 t1] 27) = W1 at H ⊢
  generalize hb : W.heap.size = v at H ⊢
  have HB := Lib.hid hb
  clear hb
  refine (keys_calls lo hi H.out.1 H.out.2.2.2).mono ?_
  rw [HK0.out]
  rintro e W2 ⟨v', rfl, ho, hf, hm⟩
  obtain ⟨A, c, rfl, hcl⟩ := keys_row ho
  have HR := Lib.hid (And.intro ho (And.intro hcl hf))
  have H2 := Lib.hid (And.intro (H.out.1.mod hm (by simp)) (And.intro (hm.at_ H.out.2.2.1 (by simp)) (And.intro (show v ≤ W2.heap.size by have := H.out.2.1.size; have := hm.size; have := HB.out; omega) (H.out.2.1.trans hm (by simp)))))
  clear ho hcl hf hm
  go_wp2_with fail
  go_loopg [11, 21] ks.length (fun k lv i wr => ∃ j : Nat, j ≤ ks.length ∧ k = ks.length - j ∧ i = .int .i64 j ∧ k60.R 60 wr 0 (fun b => W2.heap.size ≤ b) lv (scanA L (ks.take j) t0 t1 (min limit 32).toNat) ∧ Mod W2 wr [])
  case atStart => exact ⟨0, Nat.zero_le _, rfl, rfl, by
    have e : scanA L (ks.take 0) t0 t1 (min limit 32).toNat = [] := by simp [scanA]
    rw [e]; exact Kd.R_nil _ _ _ _ _, Mod.refl _ _⟩
  case round =>
    obtain ⟨j, hj, rfl, rfl, hR, hM⟩ := hrel
    obtain ⟨B, d, rfl, hd, hC⟩ := Kd.R_reads hR
    have hle := scanA_le L (ks.take j) t0 t1 (min limit 32).toNat
    by_cases hjl : j < ks.length
    · have hjz : (j : Int) < (ks.length : Int) := by omega
      have hsn := scanA_snoc L ks t0 t1 (min limit 32).toNat j hjl
      have hfu := scanA_full (L := L) (ks := ks) (t0 := t0) (t1 := t1) (m := (min limit 32).toNat) (j := j)
      obtain ⟨q, rfl, hk⟩ := HR.out.2.1 j hjl
      have hk' : wr.cell? ⟨q, j, none⟩ = some (.string ks[j]) := by
        exact ((Mod.bel hM).cell (p := ⟨q, j, none⟩) (World.block_lt_of_cell? _ _ hk)).trans hk
      have hn0 : wr.cell? ⟨v, 0, none⟩ = some (.int .u64 t0) := (blk_cell (hM.at_ H2.out.2.1 (by simp)) 0).trans rfl
      have hn1 : wr.cell? ⟨v, 1, none⟩ = some (.int .u32 t1) := (blk_cell (hM.at_ H2.out.2.1 (by simp)) 1).trans rfl
      have HJ := Lib.hid (And.intro hR (And.intro hM (And.intro hle (And.intro hsn hfu))))
      clear hR hd hC hM hle hsn hfu hk
      have hw : IntKind.i64.wrap ((j : Int) + 1) = ((j + 1 : Nat) : Int) := by have := HKL.out; unfold IntKind.wrap; simp [IntKind.signed, IntKind.bits]; omega
      generalize hac : scanA L (ks.take j) t0 t1 (min limit 32).toNat = ac at *
      clear hac
      generalize hkk : ks[j] = kk at *
      clear hkk
      by_cases hlim : (ac.length : Int) < limit ∧ ac.length < 32
      · obtain ⟨l1, l2⟩ := hlim
        have l2z : (ac.length : Int) < 32 := by omega
        have hmin : ¬ (min limit 32 ≤ (ac.length : Int)) := by omega
        have hF : scanF L t0 t1 kk = if (getS L kk t0 t1).2 = true then some ⟨kk, (getS L kk t0 t1).1⟩ else none := rfl
        obtain ⟨x, b, hx⟩ : ∃ x b, getS L kk t0 t1 = (x, b) := ⟨_, _, rfl⟩
        rw [hx] at hF
        have HX := Lib.hid (And.intro hx hF)
        clear hx hF
        go_wp2_with fail
        refine (get_calls kk t0 t1 (H2.out.1.mod HJ.out.2.1 (by simp))).mono ?_
        rw [HX.out.1]
        rintro e W3 ⟨rfl, m3⟩
        have H3 := Lib.hid (And.intro m3 (And.intro (HJ.out.2.1.trans m3 (by simp)) (R_mod HJ.out.1 m3)))
        clear m3
        cases b with
        | true =>
          go_wp2_with (first | (at_builtin; refine Kd.R_append k60 (w0 := W3) (W := W3) 0 rfl _ _ 52 60 (.agg #[.string ByteArray.empty, .string ByteArray.empty]) 32 rfl Try.underlying52 info60 rfl (by decide) (by decide) (.slice B ac.length d) ac ⟨kk, x⟩ [.string kk, .string x] (fun b => W2.heap.size ≤ b) (fun _ => False) rfl rfl (k60_mkM _ _ _ ⟨kk, x⟩) (fun k h => h.elim) ?d0 H3.out.2.2 ?d1 (Nat.zero_le _) ?d2 ?_) | fail)
          case d0 => exact fun k h => Nat.le_trans H3.out.2.1.size h
          case d1 => exact Below.refl _ _
          case d2 => omega
          intro v2 W4 o2 _ g2 _
          have ok2 : ∀ y ∈ ownList (.slice B ac.length d), W2.heap.size ≤ y := fun y hy => HJ.out.1.1 y (own_mem _ y hy)
          have m2 : Mod W2 W4 [] := H3.out.2.1.trans (mod_own g2) (fun y hy => .inr (ok2 y hy))
          have H4 := Lib.hid (And.intro o2 m2)
          clear o2 g2 m2 ok2
          go_wp2
          go_roundg (ks.length - (j + 1))
          case measure => omega
          case rel => exact ⟨j + 1, by omega, rfl, by rw [show ((j + 1 : Nat) : Int) = (j : Int) + 1 by omega], by rw [HJ.out.2.2.2.1 (by omega), HX.out.2]; exact H4.out.1, H4.out.2⟩
        | false =>
          go_wp2
          go_roundg (ks.length - (j + 1))
          case measure => omega
          case rel => exact ⟨j + 1, by omega, rfl, by rw [show ((j + 1 : Nat) : Int) = (j : Int) + 1 by omega], by rw [HJ.out.2.2.2.1 (by omega), HX.out.2]; simpa using H3.out.2.2, H3.out.2.1⟩
      · have hmin : min limit 32 ≤ (ac.length : Int) := by omega
        have HE : Hid (ac = S) := Lib.hid (by rw [HJ.out.2.2.2.2 (by omega)]; exact HS.out)
        go_wp2
        go_ret
        rw [← HE.out]
        exact scan_fin HJ.out.1 (H2.out.2.2.2.trans HJ.out.2.1 (by simp)) (Nat.le_trans (by have := HB.out; omega) H2.out.2.2.1)
    · have hjz : ¬ (j : Int) < (ks.length : Int) := by omega
      have HE : Hid (scanA L (ks.take j) t0 t1 (min limit 32).toNat = S) := Lib.hid (by rw [List.take_of_length_le (by omega)]; exact HS.out)
      have HJ := Lib.hid (And.intro hR (And.intro hM hle))
      clear hR hd hC hM hle
      generalize hac : scanA L (ks.take j) t0 t1 (min limit 32).toNat = ac at *
      clear hac
      go_wp2
      go_ret
      rw [← HE.out]
      exact scan_fin HJ.out.1 (H2.out.2.2.2.trans HJ.out.2.1 (by simp)) (Nat.le_trans (by have := HB.out; omega) H2.out.2.2.1)
theorem scan_none {W : World} (lo hi : ByteArray) (t0 t1 limit : Int) : Calls Try.prog 30 #[.pointer none, .string lo, .string hi, .agg #[.int .u64 t0, .int .u32 t1], .int .i64 limit] W (ScanP W []) := by
  have hm := (Mod.refl W []).alloc (.cells #[.int .u64 t0, .int .u32 t1] 27)
  have H := Lib.hid hm
  clear hm
  go_enter Try.func30, Try.ntmps30
  go_wp2_with fail
  generalize W.alloc (.cells #[.int .u64 t0, .int .u32 t1] 27) = W1 at H ⊢
  refine (keys_none lo hi).mono ?_
  rintro e W2 ⟨rfl, rfl⟩
  go_wp2_with fail
  go_loopg [11, 21] 0 (fun k lv i wr => k = 0 ∧ lv = .slice none 0 0 ∧ i = .int .i64 0 ∧ wr = W2)
  case atStart => exact ⟨rfl, rfl, rfl, rfl⟩
  case round =>
    obtain ⟨rfl, rfl, rfl, rfl⟩ := hrel
    go_wp2
    go_ret
    exact ⟨none, 0, rfl, Row.nil _ _ _, by simp [ownList], H.out⟩
/-! pruning -/
def prune1 (t0 t1 : Int) (p : ByteArray × List S31) : Option (ByteArray × List S31) := if pruneL p.2 t0 t1 = [] then none else some (p.1, pruneL p.2 t0 t1)
def pruneS (L : St) (t0 t1 : Int) : St := L.filterMap (prune1 t0 t1)
def gone (L : St) (t0 t1 : Int) : Nat := (L.map (fun x => x.2.length - (pruneL x.2 t0 t1).length)).sum
def prJ (L : St) (t0 t1 : Int) (j : Nat) : St := pruneS (L.take j) t0 t1 ++ L.drop j
theorem pruneS_mem {L : St} {t0 t1 : Int} {q : ByteArray × List S31} (h : q ∈ pruneS L t0 t1) : ∃ x ∈ L, q = (x.1, pruneL x.2 t0 t1) ∧ pruneL x.2 t0 t1 ≠ [] := by
  obtain ⟨x, hx, he⟩ := List.mem_filterMap.1 h
  unfold prune1 at he
  split at he
  · cases he
  · exact ⟨x, hx, by simpa using he.symm, by assumption⟩
theorem split_at (L : St) (j : Nat) (hj : j < L.length) : L = L.take j ++ (L[j].1, L[j].2) :: L.drop (j + 1) := by
  rw [show (L[j].1, L[j].2) = L[j] from rfl, ← List.drop_eq_getElem_cons hj, List.take_append_drop]
theorem pre_lt {L : St} (hs : Sorted L) {t0 t1 : Int} {j : Nat} (hj : j < L.length) : ∀ q ∈ pruneS (L.take j) t0 t1, Tree.lt q.1 L[j].1 = true := by
  intro q hq
  obtain ⟨x, hx, rfl, _⟩ := pruneS_mem hq
  have h := hs
  rw [split_at L j hj] at h
  exact (sorted_split h).2.2.1 x hx
theorem prJ_at (L : St) (t0 t1 : Int) {j : Nat} (hj : j < L.length) : prJ L t0 t1 j = pruneS (L.take j) t0 t1 ++ (L[j].1, L[j].2) :: L.drop (j + 1) := by
  unfold prJ
  rw [List.drop_eq_getElem_cons hj]
theorem prJ_next (L : St) (t0 t1 : Int) {j : Nat} (hj : j < L.length) : prJ L t0 t1 (j + 1) = pruneS (L.take j) t0 t1 ++ ((prune1 t0 t1 L[j]).toList ++ L.drop (j + 1)) := by
  unfold prJ pruneS
  rw [List.take_succ_eq_append_getElem hj, List.filterMap_append, List.append_assoc]
  congr 1
theorem lget_self {α : Type} (k : ByteArray) (v : α) (r : List (ByteArray × α)) : lget ((k, v) :: r) k = some v := by
  unfold lget
  rw [if_neg (by rw [lt_irr]; simp), if_pos rfl]
theorem prJ_get {L : St} (hs : Sorted L) (t0 t1 : Int) {j : Nat} (hj : j < L.length) : chOf (prJ L t0 t1 j) L[j].1 = L[j].2 := by
  unfold chOf
  rw [prJ_at L t0 t1 hj, lget_lo _ _ _ (pre_lt hs hj), lget_self]
  rfl
theorem prJ_cut {L : St} (hs : Sorted L) (t0 t1 : Int) {j : Nat} (hj : j < L.length) (h : pruneL L[j].2 t0 t1 = []) : lcut (prJ L t0 t1 j) L[j].1 = prJ L t0 t1 (j + 1) := by
  rw [prJ_at L t0 t1 hj, lcut_lo _ _ _ (pre_lt hs hj), prJ_next L t0 t1 hj]
  unfold lcut prune1
  rw [if_neg (by rw [lt_irr]; simp), if_pos rfl, if_pos h]
  rfl
theorem prJ_set {L : St} (hs : Sorted L) (t0 t1 : Int) {j : Nat} (hj : j < L.length) (h : pruneL L[j].2 t0 t1 ≠ []) : lset (prJ L t0 t1 j) L[j].1 (pruneL L[j].2 t0 t1) = prJ L t0 t1 (j + 1) := by
  rw [prJ_at L t0 t1 hj, lset_lo _ _ _ _ (pre_lt hs hj), prJ_next L t0 t1 hj]
  unfold lset prune1
  rw [if_neg (by rw [lt_irr]; simp), if_pos rfl, if_neg h]
  rfl
theorem prJ_len (L : St) (t0 t1 : Int) (j : Nat) : (prJ L t0 t1 j).length ≤ L.length := by
  have e := congrArg List.length (List.take_append_drop j L)
  have h : (pruneS (L.take j) t0 t1).length ≤ (L.take j).length := List.length_filterMap_le _ _
  rw [List.length_append] at e
  unfold prJ
  rw [List.length_append]
  omega
theorem gone_next (L : St) (t0 t1 : Int) {j : Nat} (hj : j < L.length) : gone (L.take (j + 1)) t0 t1 = gone (L.take j) t0 t1 + (L[j].2.length - (pruneL L[j].2 t0 t1).length) := by
  unfold gone
  rw [List.take_succ_eq_append_getElem hj, List.map_append, List.sum_append]
  simp
theorem prune_len (l : List S31) (t0 t1 : Int) : (pruneL l t0 t1).length ≤ l.length := by
  obtain ⟨m, e, _, h, _⟩ := prune_take l t0 t1
  rw [e, List.length_take]; omega
theorem gone_le {L : St} (h : AllR L) (t0 t1 : Int) : gone L t0 t1 ≤ 1000 * L.length := by
  unfold gone
  induction L with
  | nil => simp
  | cons p L ih =>
    have h1 := (h p (by simp)).n
    have h2 := ih (fun q hq => h q (by simp [hq]))
    simp only [List.map_cons, List.sum_cons, List.length_cons]
    omega
theorem AllR.take {L : St} (h : AllR L) (j : Nat) : AllR (L.take j) := fun p hp => h p (List.mem_of_mem_take hp)
theorem inR_all (k : ByteArray) : inR ⟨#[]⟩ ⟨#[]⟩ k = true := by
  unfold inR
  have e : (⟨#[]⟩ : ByteArray).toList = [] := by simp [ByteArray.toList_eq]
  rw [e]
  refine decide_eq_true ⟨?_, .inl rfl⟩
  rw [lt_iff, e]
  cases k.toList with
  | nil => exact .inr rfl
  | cons a b => exact .inl (List.Lex.nil)
theorem range_all {α : Type} (l : List (ByteArray × α)) : rangeL l ⟨#[]⟩ ⟨#[]⟩ = l.map Prod.fst := by
  unfold rangeL
  exact List.filter_eq_self.2 (fun k _ => inR_all k)
theorem SF.cutS {W W2 : World} {s g : Nat} {M : List (ByteArray × Sv)} {L : St} {mfp rfp fp2 : List Nat} (key : ByteArray) (h : SI W s g M L mfp rfp)
    (h2 : MapF W2 g (lcut M key) fp2) (m2 : Mod W W2 mfp) (hb : ∀ z ∈ fp2, z ∈ mfp) : ∃ fp', SF W2 s (lcut L key) fp' ∧ Mod W W2 (s :: (mfp ++ rfp)) ∧ ∀ z ∈ fp', z ∈ s :: (mfp ++ rfp) ∨ W.heap.size ≤ z :=
  ⟨_, ⟨g, _, fp2, rfp, ⟨m2.at_ h.at_ h.sm, h2, RowsOf.cut key (h.rows.mod m2 (fun y hy hy' => h.mr y hy' hy)), fun hz => h.sm (hb s hz), h.sr, fun z hz => h.mr z (hb z hz), fun y hy => Nat.lt_of_lt_of_le (h.rlt y hy) m2.size, h.right.cut key⟩, rfl⟩, m2.mono (fun k hk => .inl (by simp [hk])), fun z hz => .inl (by
    simp only [List.mem_cons, List.mem_append] at hz ⊢
    rcases hz with rfl | hz | hz
    · exact .inl rfl
    · exact .inr (.inl (hb z hz))
    · exact .inr (.inr hz))⟩
theorem keysL_row {W : World} {v : Value} {L : St} (h : W.ownsRow 0 9 1 v (L.map Prod.fst).length (pw_strs (L.map Prod.fst))) : ∃ A c, v = .slice A L.length c ∧ ∀ i (hi : i < L.length), ∃ g, A = some ⟨g, 0, none⟩ ∧ W.cell? ⟨g, i, none⟩ = some (.string L[i].1) := by
  obtain ⟨A, c, e, hc⟩ := keys_row h
  rw [List.length_map] at e
  exact ⟨A, c, e, fun i hi => by
    obtain ⟨g, e1, e2⟩ := hc i (by rw [List.length_map]; exact hi)
    rw [List.getElem_map] at e2
    exact ⟨g, e1, e2⟩⟩
def PruneP (W : World) (s : Nat) (L : St) (fp : List Nat) (t0 t1 : Int) (e : Ending) (W' : World) : Prop := e = .returned (.int .i64 (gone L t0 t1)) ∧ ∃ fp', SF W' s (pruneS L t0 t1) fp' ∧ Mod W W' fp ∧ ∀ y ∈ fp', y ∈ fp ∨ W.heap.size ≤ y
def ChainLP (W : World) (l : List S31) (e : Ending) (W' : World) : Prop := ∃ A c, e = .returned (.slice A l.length c) ∧ l.length ≤ c ∧ Kd.C k31 W A l.length l ∧ W' = W
theorem chainL_calls {W : World} {s : Nat} {L : St} {fp : List Nat} (key : ByteArray) {l : List S31} (h : SF W s L fp) (e : chOf L key = l) : Calls Try.prog 52 #[.pointer (some ⟨s, 0, none⟩), .string key] W (ChainLP W l) := by
  subst e
  refine (chain_calls key h).mono ?_
  rintro e W' ⟨A, c, rfl, h1, h2, _, _, rfl⟩
  exact ⟨A, c, rfl, h1, h2, rfl⟩
theorem prune_mod {W W3 W4 W5 : World} {fp fp' : List Nat} (h : Mod W W3 fp) (hf : ∀ y ∈ fp', y ∈ fp ∨ W.heap.size ≤ y) (m4 : Mod W3 W4 []) (m5 : Mod W4 W5 fp') : Mod W W5 fp := (h.trans m4 (by simp)).trans m5 hf
theorem prune_new {W W3 W4 : World} {fp fp' fp6 : List Nat} (h : Mod W W3 fp) (hf : ∀ y ∈ fp', y ∈ fp ∨ W.heap.size ≤ y) (m4 : Mod W3 W4 []) (b : ∀ y ∈ fp6, y ∈ fp' ∨ W4.heap.size ≤ y) : ∀ y ∈ fp6, y ∈ fp ∨ W.heap.size ≤ y := fun y hy => by
  rcases b y hy with h1 | h1
  · exact hf y h1
  · exact .inr (Nat.le_trans h.size (Nat.le_trans m4.size h1))
set_option maxRecDepth 100000 in
set_option maxHeartbeats 4000000 in
theorem prune_calls {W : World} {s : Nat} {L : St} {fp : List Nat} (t0 t1 : Int) (h : SF W s L fp) (hl : L.length ≤ 1000000) :
    Calls Try.prog 36 #[.pointer (some ⟨s, 0, none⟩), .agg #[.int .u64 t0, .int .u32 t1]] W (PruneP W s L fp t0 t1) := by
  have hm := (Mod.refl W []).alloc (.cells #[.int .u64 t0, .int .u32 t1] 27)
  have hb := blk_new W (.cells #[.int .u64 t0, .int .u32 t1] 27)
  have hfl := h.lt
  have hso := h.sorted
  have har := h.right
  have HL := Lib.hid (And.intro hso (And.intro har (And.intro hl hfl)))
  have H := Lib.hid (And.intro (h.mod hm (by simp)) (And.intro hm hb))
  have hg0 := gone_le har t0 t1
  clear h hm hb hfl hso har
  go_enter Try.func36, Try.ntmps36
  go_wp2_with fail
  generalize W.alloc (.cells #[.int .u64 t0, .int .u32 t1] 27) = W1 at H ⊢
  generalize hb : W.heap.size = v at H ⊢
  have HB := Lib.hid hb
  clear hb
  refine (keys_calls ⟨#[]⟩ ⟨#[]⟩ H.out.1 hl).mono ?_
  rw [range_all]
  rintro e W2 ⟨v', rfl, ho, hf, hm⟩
  obtain ⟨A, c, rfl, hcl⟩ := keysL_row ho
  have HR := Lib.hid (And.intro hcl (And.intro hf trivial))
  have H2 := Lib.hid (And.intro (H.out.1.mod hm (by simp)) (And.intro (hm.at_ H.out.2.2 (by simp)) (And.intro (show v ≤ W2.heap.size by have := H.out.2.1.size; have := hm.size; have := HB.out; omega) (H.out.2.1.trans hm (by simp)))))
  clear ho hcl hf hm
  go_wp2_with fail
  go_loopg [5, 13] L.length (fun k nv i wr => ∃ (j : Nat) (fp' : List Nat), j ≤ L.length ∧ k = L.length - j ∧ i = .int .i64 j ∧ nv = .int .i64 (gone (L.take j) t0 t1) ∧ SF wr s (prJ L t0 t1 j) fp' ∧ Mod W2 wr fp ∧ (∀ y ∈ fp', y ∈ fp ∨ W2.heap.size ≤ y))
  case atStart => exact ⟨0, fp, Nat.zero_le _, rfl, rfl, by simp [gone], by
    have e : prJ L t0 t1 0 = L := by simp [prJ, pruneS]
    rw [e]; exact H2.out.1, Mod.refl _ _, fun y hy => .inl hy⟩
  case round =>
    obtain ⟨j, fp', hj, rfl, rfl, rfl, hS, hM, hF⟩ := hrel
    by_cases hjl : j < L.length
    · have hjz : (j : Int) < (L.length : Int) := by omega
      obtain ⟨q, rfl, hk⟩ := HR.out.1 j hjl
      have hqn : q ∉ fp := fun hq => by
        have := HL.out.2.2.2 q hq
        have := HB.out
        have := HR.out.2.1 q (by simp [ownList, Value.ownBlock])
        have := H.out.2.1.size
        omega
      have hk' : wr.cell? ⟨q, j, none⟩ = some (.string L[j].1) := by
        exact Mod.cellN hM hk hqn
      have hn0 : wr.cell? ⟨v, 0, none⟩ = some (.int .u64 t0) := (blk_cell (hM.at_ H2.out.2.1 (fun hv => by have := HL.out.2.2.2 v hv; have := HB.out; omega)) 0).trans rfl
      have hn1 : wr.cell? ⟨v, 1, none⟩ = some (.int .u32 t1) := (blk_cell (hM.at_ H2.out.2.1 (fun hv => by have := HL.out.2.2.2 v hv; have := HB.out; omega)) 1).trans rfl
      have hget := prJ_get HL.out.1 t0 t1 hjl
      have hcut := prJ_cut HL.out.1 t0 t1 hjl
      have hset := prJ_set HL.out.1 t0 t1 hjl
      have hgn := gone_next L t0 t1 hjl
      have hgl := gone_le (HL.out.2.1.take j) t0 t1
      have hrp : RightP L[j].2 := HL.out.2.1 _ (List.getElem_mem hjl)
      have hpl := prune_len L[j].2 t0 t1
      have hpe := prune_eq (k := 2000) hrp t0 t1 (by have := hrp.n; omega)
      have hpr := prune_right hrp t0 t1
      have hln := hrp.n
      have hsz : (gone (L.take j) t0 t1 : Int) ≤ 1000000000 := by have : (L.take j).length ≤ j := List.length_take_le _ _; omega
      have HJ := Lib.hid (And.intro hS (And.intro hM (And.intro hF (And.intro hget (And.intro hcut (And.intro hset (And.intro hgn (And.intro hpe hpr))))))))
      clear hS hM hF hget hcut hset hgn hpe hpr hk hgl hrp
      have hw : IntKind.i64.wrap ((j : Int) + 1) = ((j + 1 : Nat) : Int) := by rw [i64w (by omega) (by omega)]; omega
      generalize L[j].1 = kk at *
      generalize hp : pruneL L[j].2 t0 t1 = p at *
      clear hp
      generalize L[j].2 = l at *
      generalize gone (L.take j) t0 t1 = n at *
      go_wp2_with fail
      refine (chainL_calls kk HJ.out.1 HJ.out.2.2.2.1).mono ?_
      rintro e W3 ⟨A1, c1, rfl, hc1', hC1, rfl⟩
      have HC := Lib.hid (And.intro hc1' hC1)
      clear hc1' hC1
      go_wp2_with fail
      refine (chain_Prune.calls 2000 _ _ _ t0 t1 p _ HC.out.2 HC.out.1 HJ.out.2.2.2.2.2.2.2.1).mono ?_
      rintro e W4 ⟨v4, rfl, o4, b4⟩
      obtain ⟨A4, c4, rfl, _, _⟩ := Kd.R_reads o4
      have m4 := Mod.of_below b4
      obtain ⟨g, M, mfp, rfp, hsi, rfl⟩ := HJ.out.1
      have hcs : W4.cell? ⟨s, 0, none⟩ = some (.pointer (some ⟨g, 0, none⟩)) := (blk_cell (m4.at_ hsi.at_ (by simp)) 0).trans rfl
      have hML : M.length ≤ 1000000000 := by rw [hsi.rows.len]; have := prJ_len L t0 t1 j; omega
      have H4 := Lib.hid (And.intro hsi (And.intro m4 (And.intro hML (And.intro (Row.of o4) (fun z hz => by have := Kd.R_base o4 z (own_mem _ z hz); exact this : ∀ z ∈ ownList (.slice A4 p.length c4), W3.heap.size ≤ z)))))
      clear hsi o4 b4 m4 hML
      have hd1 : IntKind.i64.wrap ((l.length : Int) - p.length) = ((l.length - p.length : Nat) : Int) := by rw [i64w (by omega) (by omega)]; omega
      have hd2 : IntKind.i64.wrap ((n : Int) + ((l.length - p.length : Nat) : Int)) = ((n + (l.length - p.length) : Nat) : Int) := by rw [i64w (by omega) (by omega)]; omega
      by_cases hp0 : p.length = 0
      · obtain rfl : p = [] := List.eq_nil_of_length_eq_zero hp0
        have HP0 := Lib.hid hp0
        clear hp0
        go_wp2_with fail
        refine (mcut kk (H4.out.1.map.mod H4.out.2.1 (by simp)) H4.out.2.2.1).mono ?_
        rintro e W5 ⟨rfl, fp5, h5, m5, b5⟩
        have hfin := SF.cutS kk (H4.out.1.mod H4.out.2.1 (by simp) (by simp) (by simp)) h5 m5 b5
        have HF := Lib.hid hfin
        clear h5 m5 b5 hfin
        go_wp2
        go_roundg (L.length - (j + 1))
        case measure => omega
        case rel =>
          obtain ⟨fp6, h6, m6, b6⟩ := HF.out
          rw [HJ.out.2.2.2.2.1 (by first | rfl | trivial)] at h6
          exact ⟨j + 1, fp6, by omega, rfl, by rw [show ((j + 1 : Nat) : Int) = (j : Int) + 1 by omega], by rw [HJ.out.2.2.2.2.2.2.1]; rfl, h6, prune_mod HJ.out.2.1 HJ.out.2.2.1 H4.out.2.1 m6, prune_new HJ.out.2.1 HJ.out.2.2.1 H4.out.2.1 b6⟩
      · have hpn : p ≠ [] := fun e => hp0 (by rw [e]; rfl)
        have HP0 := Lib.hid (And.intro hp0 hpn)
        clear hpn
        go_wp2_with fail
        refine (mset kk (A4, p.length, c4) (H4.out.1.map.mod H4.out.2.1 (by simp)) H4.out.2.2.1).mono ?_
        rintro e W5 ⟨rfl, fp5, h5, m5, b5⟩
        have hfin := SF.set kk H4.out.1 H4.out.2.1 H4.out.2.2.2.1 H4.out.2.2.2.2 HJ.out.2.2.2.2.2.2.2.2 h5 m5 b5
        have HF := Lib.hid hfin
        clear h5 m5 b5 hfin
        go_wp2
        go_roundg (L.length - (j + 1))
        case measure => omega
        case rel =>
          obtain ⟨fp6, h6, m6, b6⟩ := HF.out
          rw [HJ.out.2.2.2.2.2.1 HP0.out.2] at h6
          exact ⟨j + 1, fp6, by omega, rfl, by rw [show ((j + 1 : Nat) : Int) = (j : Int) + 1 by omega], by rw [HJ.out.2.2.2.2.2.2.1]; first | rfl | exact congrArg (Value.int IntKind.i64) (by omega), h6, prune_mod HJ.out.2.1 HJ.out.2.2.1 (Mod.refl _ _) m6, prune_new HJ.out.2.1 HJ.out.2.2.1 (Mod.refl _ _) b6⟩
    · obtain rfl : j = L.length := by omega
      have hjz : ¬ (L.length : Int) < (L.length : Int) := by omega
      have e1 : prJ L t0 t1 L.length = pruneS L t0 t1 := by unfold prJ; rw [List.take_length, List.drop_length, List.append_nil]
      have HJ := Lib.hid (And.intro (e1 ▸ hS) (And.intro hM hF))
      clear hS hM hF e1
      rw [List.take_length]
      have HE : Hid (∃ fp', SF wr s (pruneS L t0 t1) fp' ∧ Mod W wr fp ∧ ∀ y ∈ fp', y ∈ fp ∨ W.heap.size ≤ y) := Lib.hid ⟨fp', HJ.out.1, (H2.out.2.2.2.mono (by simp)).trans HJ.out.2.1 (fun k hk => .inl hk), fun y hy => by
        rcases HJ.out.2.2 y hy with h | h
        · exact .inl h
        · exact .inr (Nat.le_trans H2.out.2.2.2.size h)⟩
      go_wp2
      go_ret
      exact ⟨rfl, HE.out⟩

/-! items -/
theorem info56 : (Try.prog.info? 56).map (fun i => (i.zero, i.size, i.bytes)) = some (some (.agg #[.string ByteArray.empty, .slice none 0 0]), 2, 40) := by kernel_rfl
def itemsL (L : St) : List S56 := L.map (fun p => ⟨p.1, p.2⟩)
def ItemsP (W : World) (res : List S56) (e : Ending) (W' : World) : Prop := ∃ A c, e = .returned (.slice A res.length c) ∧ k56.R 56 W' 0 (fun b => W.heap.size ≤ b) (.slice A res.length c) res ∧ Mod W W' []
theorem sorted_get {L : St} (hs : Sorted L) {j : Nat} (hj : j < L.length) : chOf L L[j].1 = L[j].2 := by
  have h := hs
  rw [split_at L j hj] at h
  unfold chOf
  rw [show lget L L[j].1 = lget (L.take j ++ (L[j].1, L[j].2) :: L.drop (j + 1)) L[j].1 by rw [← split_at L j hj], lget_lo _ _ _ (sorted_split h).2.2.1, lget_self]
  rfl
theorem items_next (L : St) {j : Nat} (hj : j < L.length) : itemsL (L.take (j + 1)) = itemsL (L.take j) ++ [⟨L[j].1, L[j].2⟩] := by
  unfold itemsL
  rw [List.take_succ_eq_append_getElem hj, List.map_append]
  rfl
theorem items_none {W : World} : Calls Try.prog 28 #[.pointer none] W (ItemsP W []) := by
  go_enter Try.func28, Try.ntmps28
  go_wp2_with fail
  refine (keys_none ⟨#[]⟩ ⟨#[]⟩).mono ?_
  rintro e W2 ⟨rfl, rfl⟩
  go_wp2_with fail
  go_loopg [3, 9] 0 (fun k lv i wr => k = 0 ∧ lv = .slice none 0 0 ∧ i = .int .i64 0 ∧ wr = W2)
  case atStart => exact ⟨rfl, rfl, rfl, rfl⟩
  case round =>
    obtain ⟨rfl, rfl, rfl, rfl⟩ := hrel
    go_wp2
    go_ret
    exact ⟨none, 0, rfl, Kd.R_nil _ _ _ _ _, Mod.refl _ _⟩
theorem prune_none {W : World} (t0 t1 : Int) : Calls Try.prog 36 #[.pointer none, .agg #[.int .u64 t0, .int .u32 t1]] W fun e W' => e = .returned (.int .i64 0) ∧ Mod W W' [] := by
  have hm := (Mod.refl W []).alloc (.cells #[.int .u64 t0, .int .u32 t1] 27)
  have H := Lib.hid hm
  clear hm
  go_enter Try.func36, Try.ntmps36
  go_wp2_with fail
  generalize W.alloc (.cells #[.int .u64 t0, .int .u32 t1] 27) = W1 at H ⊢
  refine (keys_none ⟨#[]⟩ ⟨#[]⟩).mono ?_
  rintro e W2 ⟨rfl, rfl⟩
  go_wp2_with fail
  go_loopg [5, 13] 0 (fun k nv i wr => k = 0 ∧ nv = .int .i64 0 ∧ i = .int .i64 0 ∧ wr = W2)
  case atStart => exact ⟨rfl, rfl, rfl, rfl⟩
  case round =>
    obtain ⟨rfl, rfl, rfl, rfl⟩ := hrel
    go_wp2
    go_ret
    exact ⟨rfl, H.out⟩
set_option maxRecDepth 100000 in
set_option maxHeartbeats 4000000 in
theorem items_calls {W : World} {s : Nat} {L : St} {fp : List Nat} (h : SF W s L fp) (hl : L.length ≤ 1000000) :
    Calls Try.prog 28 #[.pointer (some ⟨s, 0, none⟩)] W (ItemsP W (itemsL L)) := by
  have hso := h.sorted
  have har := h.right
  have H := Lib.hid (And.intro h (And.intro hso har))
  clear h hso har
  go_enter Try.func28, Try.ntmps28
  go_wp2_with fail
  refine (keys_calls ⟨#[]⟩ ⟨#[]⟩ H.out.1 hl).mono ?_
  rw [range_all]
  rintro e W2 ⟨v', rfl, ho, hf, hm⟩
  obtain ⟨A, c, rfl, hcl⟩ := keysL_row ho
  have H2 := Lib.hid (And.intro (H.out.1.mod hm (by simp)) (And.intro hcl hm))
  clear ho hcl hf hm
  go_wp2_with fail
  go_loopg [3, 9] L.length (fun k lv i wr => ∃ j : Nat, j ≤ L.length ∧ k = L.length - j ∧ i = .int .i64 j ∧ k56.R 56 wr 0 (fun b => W2.heap.size ≤ b) lv (itemsL (L.take j)) ∧ Mod W2 wr [])
  case atStart => exact ⟨0, Nat.zero_le _, rfl, rfl, by
    have e : itemsL (L.take 0) = [] := by simp [itemsL]
    rw [e]; exact Kd.R_nil _ _ _ _ _, Mod.refl _ _⟩
  case round =>
    obtain ⟨j, hj, rfl, rfl, hR, hM⟩ := hrel
    obtain ⟨B, d, rfl, hd, hC⟩ := Kd.R_reads hR
    by_cases hjl : j < L.length
    · have hjz : (j : Int) < (L.length : Int) := by omega
      obtain ⟨q, rfl, hk⟩ := H2.out.2.1 j hjl
      have hk' : wr.cell? ⟨q, j, none⟩ = some (.string L[j].1) := Mod.cellN hM hk (by simp)
      have hget := sorted_get H.out.2.1 hjl
      have hnx := items_next L hjl
      have hlen : (itemsL (L.take j)).length ≤ 1000000 := by unfold itemsL; rw [List.length_map]; have := List.length_take_le j L; omega
      have hrp : RightP L[j].2 := H.out.2.2 _ (List.getElem_mem hjl)
      have hln := hrp.n
      have HJ := Lib.hid (And.intro hR (And.intro hM (And.intro hget hnx)))
      clear hR hM hget hnx hk hC hrp
      have hw : IntKind.i64.wrap ((j : Int) + 1) = ((j + 1 : Nat) : Int) := by rw [i64w (by omega) (by omega)]; omega
      generalize L[j].1 = kk at *
      generalize L[j].2 = l at *
      generalize itemsL (L.take j) = it at *
      go_wp2_with fail
      refine (chainL_calls kk (H2.out.1.mod HJ.out.2.1 (by simp)) HJ.out.2.2.1).mono ?_
      rintro e W3 ⟨A1, c1, rfl, hc1', hC1, rfl⟩
      have HC := Lib.hid (And.intro hc1' hC1)
      clear hc1' hC1
      have hcl := clone_eq l 2000 (by omega)
      have HCL := Lib.hid hcl
      clear hcl
      go_wp2_with fail
      refine (api_Version_46.calls 2000 _ _ _ l _ HC.out.2 HC.out.1 HCL.out).mono ?_
      rintro e W4 ⟨v4, rfl, o4, b4⟩
      have m4 := Mod.of_below b4
      have o4' : k31.R 31 W4 0 (fun k => W3.heap.size ≤ k) v4 l := Kd.R_lower (Kd.R_mono (Kd.R_bound o4) (fun k hk => hk.2.1)) (Nat.zero_le _)
      have H4 := Lib.hid (And.intro m4 (And.intro o4' (R_mod HJ.out.1 m4)))
      have hon : ∀ k, W3.heap.size ≤ k → W2.heap.size ≤ k ∧ some k ≠ (Value.slice B it.length d).ownBlock := fun k hk => ⟨Nat.le_trans HJ.out.2.1.size hk, fun e => by have := Kd.R_lt HJ.out.1 k e.symm; omega⟩
      have HON := Lib.hid hon
      obtain ⟨A4, c4, rfl⟩ := Kd.R_slice o4
      clear o4 b4 m4 o4' hon
      go_wp2_with (first | (at_builtin; refine Kd.R_append k56 (w0 := W4) (W := W4) 0 rfl _ _ 53 56 (.agg #[.string ByteArray.empty, .slice none 0 0]) 40 rfl Try.underlying53 info56 rfl (by decide) (by decide) (.slice B it.length d) it ⟨kk, l⟩ [.string kk, .slice A4 l.length c4] (fun b => W2.heap.size ≤ b) (fun k => W3.heap.size ≤ k) rfl rfl (k56_mkM _ _ _ ⟨kk, l⟩ H4.out.2.1) HON.out ?d0 H4.out.2.2 ?d1 (Nat.zero_le _) ?d2 ?_) | fail)
      case d0 => exact fun k h => Nat.le_trans (Nat.le_trans HJ.out.2.1.size H4.out.1.size) h
      case d1 => exact Below.refl _ _
      case d2 => omega
      intro v5 W5 o5 _ g5 _
      have ok5 : ∀ y ∈ ownList (.slice B it.length d), W2.heap.size ≤ y := fun y hy => HJ.out.1.1 y (own_mem _ y hy)
      have m5 : Mod W2 W5 [] := (HJ.out.2.1.trans H4.out.1 (by simp)).trans (mod_own g5) (fun y hy => .inr (ok5 y hy))
      have H5 := Lib.hid (And.intro o5 m5)
      clear o5 g5 m5 ok5
      go_wp2
      go_roundg (L.length - (j + 1))
      case measure => omega
      case rel => exact ⟨j + 1, by omega, rfl, by rw [show ((j + 1 : Nat) : Int) = (j : Int) + 1 by omega], by rw [HJ.out.2.2.2]; exact H5.out.1, H5.out.2⟩
    · obtain rfl : j = L.length := by omega
      have hjz : ¬ (L.length : Int) < (L.length : Int) := by omega
      rw [List.take_length] at hR ⊢
      have HJ := Lib.hid (And.intro hR hM)
      clear hR hd hC hM
      go_wp2
      go_ret
      exact ⟨B, d, rfl, Kd.R_mono HJ.out.1 (fun k hk => Nat.le_trans H2.out.2.2.size hk), H2.out.2.2.trans HJ.out.2 (by simp)⟩
end Go.Proofs.Ytomcjcoehahikaa.Sto
