/- The document's answer for the layer 'chain', walked; a seat's own text, no law of its own. -/
import Derived.Test.YtomcjcoehahikaaStoBase
import Derived.Test.YtomcjcoehahikaaMStoreRunsx9
import Derived.Deep.LoopGhost
import Derived.Deep.Cut
import Derived.Lib.Hide
import Derived.StillTailTactics
import Derived.Deep.QuietTactic
import Derived.BigQuiet
import Derived.Outline
import Derived.Deep.RegionWith
import Derived.Deep.RegionHeld3
import Derived.WalkLawsBesides
namespace Go.Proofs.Ytomcjcoehahikaa.Sto
open Go.RowKit Go.Proofs.YtomcjcoehahikaaW.PrintWords Go.Proofs.Ytomcjcoehahikaa.Ord Go.Proofs.Ytomcjcoehahikaa.MStoreRuns Go.Proofs.YtomcjcoehahikaaW.PrintLast
set_option linter.unusedVariables false
set_option linter.unusedSimpArgs false
/-! the document's answer for the layer 'chain', walked -/
theorem vers_eq (x : S31) : dovecoteref07_version.f x.f0.f0 x.f0.f1 x.f1.f0 x.f1.f1 x.f2 x.f3 = some (fitsB x) := by
  unfold dovecoteref07_version.f dovecoteref01_Right.f fitsB
  by_cases h1 : x.f0.f0 ≤ 281474976710656
  · by_cases h2 : x.f0.f1 ≤ 4095
    · by_cases h3 : x.f2.size ≤ 256
      · have h3' : (x.f2.size : Int) ≤ 256 := by omega
        cases h4 : x.f3 with
        | true => cases h5 : x.f2.toList <;> simp [h1, h2, h3, h3']
        | false => simp [h1, h2, h3, h3']
      · have h3' : ¬ (x.f2.size : Int) ≤ 256 := by omega
        simp [h1, h2, h3, h3']
    · simp [h1, h2]
  · simp [h1]
theorem less_eq (a b c d : Int) : dovecoteref01_Less.f a b c d = some (pl_less a b c d) := by
  unfold dovecoteref01_Less.f pl_less
  by_cases h1 : a < c
  · simp [h1]
  · by_cases h2 : a = c
    · simp [h2]
    · simp [h1, h2]
def BoolP (W : World) (b : Bool) (e : Ending) (W' : World) : Prop := e = .returned (.bool b) ∧ Mod W W' []
theorem vers_calls {W : World} (x0 x1 x2 x3 : Int) (x4 : ByteArray) (x5 : Bool) {b : Bool} (h : fitsB ⟨⟨x0, x1⟩, ⟨x2, x3⟩, x4, x5⟩ = b) : Calls Try.prog 49 #[.agg #[.int .u64 x0, .int .u32 x1, .int .u32 x2, .int .u32 x3, .string x4, .bool x5]] W (BoolP W b) := by
  subst h
  refine (dovecoteref07_version.calls x0 x1 x2 x3 x4 x5 _ W (vers_eq ⟨⟨x0, x1⟩, ⟨x2, x3⟩, x4, x5⟩)).mono ?_
  rintro e W' ⟨rfl, h⟩
  exact ⟨rfl, Mod.of_below h⟩
theorem rless_calls {W : World} (a b c d : Int) {r : Bool} (h : pl_less a b c d = r) : Calls Try.prog 50 #[.agg #[.int .u64 a, .int .u32 b], .agg #[.int .u64 c, .int .u32 d]] W (BoolP W r) := by
  subst h
  refine (dovecoteref01_Less.calls a b c d _ W (less_eq a b c d)).mono ?_
  rintro e W' ⟨rfl, h⟩
  exact ⟨rfl, Mod.of_below h⟩
noncomputable def rightB (l : List S31) : Bool := @decide (RightP l) (Classical.propDecidable _)
theorem rightB_yes {l : List S31} (h : RightP l) : rightB l = true := by unfold rightB; exact @decide_eq_true _ (Classical.propDecidable _) h
theorem rightB_no {l : List S31} (h : ¬ RightP l) : rightB l = false := by unfold rightB; exact @decide_eq_false _ (Classical.propDecidable _) h
theorem rightB_of {l : List S31} {b : Bool} (h : RightP l ↔ b = true) : rightB l = b := by
  cases b with
  | true => exact rightB_yes (h.2 rfl)
  | false => exact rightB_no (fun z => by have := h.1 z; cases this)
theorem rright_step {k : Nat} (hk : 3 ≤ k) (l : List S31) (hl : l.length ≤ 1000000000) (i : Nat) (hi : i < l.length) : (okAt l i → dovecoteref07_Right.l0 (k + 1) l i = dovecoteref07_Right.l0 k l ((i + 1 : Nat) : Int)) ∧ (¬ okAt l i → dovecoteref07_Right.l0 (k + 1) l i = some false) := by
  have e : dovecoteref07_Right.l0 (k + 1) l i = (if fitsB (gt l i) = true then (if (i : Int) > 0 then (if pl_less (gt l i).f0.f0 (gt l i).f0.f1 (gt l (i - 1)).f0.f0 (gt l (i - 1)).f0.f1 = true then dovecoteref07_Right.l0 k l ((i + 1 : Nat) : Int) else some false) else dovecoteref07_Right.l0 k l ((i + 1 : Nat) : Int)) else some false) := by
    simp only [dovecoteref07_Right.l0]
    rw [if_pos (by omega), if_pos (by omega), rd_gt, vers_eq, Option.bind_some, w64 (by omega)]
    by_cases h0 : 0 < i
    · rw [w64' (by omega) h0, rd_gt, less_eq, Option.bind_some, if_pos (c := 0 ≤ ((i - 1 : Nat) : Int)) (by omega), if_pos (c := ((i - 1 : Nat) : Int) < (l.length : Int)) (by omega)]
    · rw [if_neg (c := (i : Int) > 0) (by omega), if_neg (c := (i : Int) > 0) (by omega)]
  rw [e]
  unfold okAt
  refine ⟨fun h => ?_, fun h => ?_⟩
  · rw [if_pos h.1]
    by_cases h0 : 0 < i
    · rw [if_pos (by omega), if_pos ((less_iff _ _ _ _).2 (h.2 h0))]
    · rw [if_neg (by omega)]
  · by_cases h1 : fitsB (gt l i) = true
    · rw [if_pos h1]
      have h2 : 0 < i ∧ ¬ lessV (gt l i) (gt l (i - 1)) := by
        refine ⟨Classical.byContradiction fun z => h ⟨h1, fun z' => absurd z' z⟩, fun z => h ⟨h1, fun _ => z⟩⟩
      rw [if_pos (by omega), if_neg (fun z => h2.2 ((less_iff _ _ _ _).1 z))]
    · rw [if_neg h1]
theorem rright_T (l : List S31) (hl : l.length ≤ 1000000000) : ∀ d i k, i + d = l.length → d + 3 < k → (∀ j, i ≤ j → j < l.length → okAt l j) → dovecoteref07_Right.l0 k l i = some (decide ((l.length : Int) ≤ 1000)) := by
  intro d
  induction d with
  | zero =>
    intro i k h hk _
    obtain ⟨k, rfl⟩ : ∃ m, k = m + 1 := ⟨k - 1, by omega⟩
    simp only [dovecoteref07_Right.l0]
    rw [if_neg (by omega)]
  | succ d ih =>
    intro i k h hk ho
    obtain ⟨k, rfl⟩ : ∃ m, k = m + 1 := ⟨k - 1, by omega⟩
    rw [(rright_step (by omega) l hl i (by omega)).1 (ho i (Nat.le_refl _) (by omega))]
    exact ih (i + 1) k (by omega) (by omega) (fun j h1 h2 => ho j (by omega) h2)
theorem rright_F (l : List S31) (hl : l.length ≤ 1000000000) : ∀ d i k, i + d = l.length → d + 3 < k → (∃ j, i ≤ j ∧ j < l.length ∧ ¬ okAt l j) → dovecoteref07_Right.l0 k l i = some false := by
  intro d
  induction d with
  | zero =>
    intro i k h hk ⟨j, h1, h2, _⟩
    omega
  | succ d ih =>
    intro i k h hk ⟨j, h1, h2, h3⟩
    obtain ⟨k, rfl⟩ : ∃ m, k = m + 1 := ⟨k - 1, by omega⟩
    by_cases ho : okAt l i
    · rw [(rright_step (by omega) l hl i (by omega)).1 ho]
      refine ih (i + 1) k (by omega) (by omega) ⟨j, ?_, h2, h3⟩
      rcases Nat.lt_or_ge i j with h4 | h4
      · omega
      · exact absurd (show okAt l j by rw [show j = i by omega]; exact ho) h3
    · exact (rright_step (by omega) l hl i (by omega)).2 ho
theorem rright_f {l : List S31} (hl : l.length ≤ 1000000) : dovecoteref07_Right.f (l.length + 4) l = some (rightB l) := by
  unfold dovecoteref07_Right.f
  rw [show (0 : Int) = ((0 : Nat) : Int) from rfl]
  by_cases h : RightP l
  · have hn := h.n
    rw [rright_T l (by omega) l.length 0 _ (by omega) (by omega) (fun j _ hj => right_at h j hj), decide_eq_true (by omega), rightB_yes h]
  · rw [rightB_no h]
    by_cases ha : ∀ j, j < l.length → okAt l j
    · have hn : ¬ l.length ≤ 1000 := fun z => h (right_of ha z)
      rw [rright_T l (by omega) l.length 0 _ (by omega) (by omega) (fun j _ hj => ha j hj), decide_eq_false (by omega)]
    · obtain ⟨j, hj⟩ := Classical.not_forall.1 ha
      obtain ⟨hj1, hj2⟩ := Classical.not_imp.1 hj
      exact rright_F l (by omega) l.length 0 _ (by omega) (by omega) ⟨j, Nat.zero_le _, hj1, hj2⟩
theorem rright_calls {W : World} {A : Option Addr} {c : Nat} {l : List S31} {b : Bool} (hr : Kd.C k31 W A l.length l) (hc : l.length ≤ c) (hl : l.length ≤ 1000000) (hb : rightB l = b) : Calls Try.prog 22 #[.slice A l.length c] W (BoolP W b) := by
  subst hb
  refine (dovecoteref07_Right.calls (l.length + 4) A c l _ W hr hc (rright_f hl)).mono ?_
  rintro e W' ⟨rfl, h⟩
  exact ⟨rfl, Mod.of_below h⟩
theorem place_is {l : List S31} (h : RightP l) (t0 t1 : Int) {j : Nat} (hj : j ≤ l.length) (h1 : ∀ m (hm : m < l.length), m < j → pl_above t0 t1 l[m] = true) (h2 : ∀ hj' : j < l.length, pl_above t0 t1 l[j] = false) : l.countP (pl_above t0 t1) = j := by
  have e : l.countP (pl_above t0 t1) = (l.take j ++ l.drop j).countP (pl_above t0 t1) := by rw [List.take_append_drop]
  rw [e, List.countP_append]
  have e1 : (l.take j).countP (pl_above t0 t1) = (l.take j).length := by
    rw [List.countP_eq_length]
    intro x hx
    obtain ⟨m, hm, rfl⟩ := List.getElem_of_mem hx
    rw [List.length_take] at hm
    rw [List.getElem_take]
    exact h1 m (by omega) (by omega)
  have e2 : (l.drop j).countP (pl_above t0 t1) = 0 := by
    rw [List.countP_eq_zero]
    intro x hx
    obtain ⟨m, hm, rfl⟩ := List.getElem_of_mem hx
    rw [List.length_drop] at hm
    rw [List.getElem_drop]
    have := above_down h t0 t1 (a := j) (b := j + m) (by omega) (by omega) (by omega) (h2 (by omega))
    rw [this]; simp
  rw [e1, e2, List.length_take]
  omega
noncomputable def seeR (l : List S31) (t0 t1 : Int) : Int × Int × Int × Int × ByteArray × Bool × Bool := vw (if rightB l = true then see l t0 t1 else none)
def AtP (W : World) (r : Int × Int × Int × Int × ByteArray × Bool × Bool) (e : Ending) (W' : World) : Prop := e = .returned (.tuple #[.agg #[.int .u64 r.1, .int .u32 r.2.1, .int .u32 r.2.2.1, .int .u32 r.2.2.2.1, .string r.2.2.2.2.1, .bool r.2.2.2.2.2.1], .bool r.2.2.2.2.2.2]) ∧ Mod W W' []
theorem blk_six' {w : World} {b t : Nat} {x0 x1 x2 x3 x4 x5 : Value} (h : w.heap[b]? = some (.cells #[x0, x1, x2, x3, x4, x5] t (0, 0))) (u0 u1 u2 u3 u4 u5 : Value) : ((((((w.setCell ⟨b, 0, none⟩ u0).setCell ⟨b, 1, none⟩ u1).setCell ⟨b, 2, none⟩ u2).setCell ⟨b, 3, none⟩ u3).setCell ⟨b, 4, none⟩ u4).setCell ⟨b, 5, none⟩ u5).heap[b]? = some (.cells #[u0, u1, u2, u3, u4, u5] t (0, 0)) := blk_six h u0 u1 u2 u3 u4 u5
set_option maxRecDepth 100000 in
set_option maxHeartbeats 4000000 in
theorem rat_calls {W : World} {A : Option Addr} {c : Nat} {l : List S31} (t0 t1 : Int) {r : Int × Int × Int × Int × ByteArray × Bool × Bool} (hr : Kd.C k31 W A l.length l) (hc : l.length ≤ c) (hl : l.length ≤ 1000000) (hs : seeR l t0 t1 = r) :
    Calls Try.prog 21 #[.slice A l.length c, .agg #[.int .u64 t0, .int .u32 t1]] W (AtP W r) := by
  have hm := ((Mod.refl W []).alloc (.cells #[.int .u64 t0, .int .u32 t1] 27)).alloc (.cells #[.int .u64 0, .int .u32 0, .int .u32 0, .int .u32 0, .string ⟨#[]⟩, .bool false] 31)
  have hb := blk_alloc (blk_new W (.cells #[.int .u64 t0, .int .u32 t1] 27)) (.cells #[.int .u64 0, .int .u32 0, .int .u32 0, .int .u32 0, .string ⟨#[]⟩, .bool false] 31)
  have hb2 := blk_new (W.alloc (.cells #[.int .u64 t0, .int .u32 t1] 27)) (.cells #[.int .u64 0, .int .u32 0, .int .u32 0, .int .u32 0, .string ⟨#[]⟩, .bool false] 31)
  rw [show (W.alloc (.cells #[.int .u64 t0, .int .u32 t1] 27)).heap.size = W.heap.size + 1 by simp] at hb2
  have H := Lib.hid (And.intro hm (And.intro hb (And.intro hb2 (Kd.C_below hr (Mod.bel hm)))))
  have HC := Lib.hid hc
  clear hm hb hb2 hr hc
  obtain ⟨bb, hbb⟩ : ∃ bb, rightB l = bb := ⟨_, rfl⟩
  have HBB := Lib.hid hbb
  obtain ⟨y0, y1, y2, y3, y4, y5, y6⟩ := r
  have HS := Lib.hid hs
  clear hbb hs
  go_enter Try.func21, Try.ntmps21
  go_wp2_with fail
  generalize (W.alloc (.cells #[.int .u64 t0, .int .u32 t1] 27)).alloc (.cells #[.int .u64 0, .int .u32 0, .int .u32 0, .int .u32 0, .string ⟨#[]⟩, .bool false] 31) = W1 at H ⊢
  generalize hv : W.heap.size = v at H ⊢
  have HV := Lib.hid hv
  clear hv
  refine (rright_calls H.out.2.2.2 HC.out hl HBB.out).mono ?_
  rintro e W2 ⟨rfl, m2⟩
  have hb2 := m2.at_ H.out.2.2.1 (by simp)
  have g0 : W2.cell? ⟨v + 1, 0, none⟩ = some (.int .u64 0) := (blk_cell hb2 0).trans rfl
  have g1 : W2.cell? ⟨v + 1, 1, none⟩ = some (.int .u32 0) := (blk_cell hb2 1).trans rfl
  have g2 : W2.cell? ⟨v + 1, 2, none⟩ = some (.int .u32 0) := (blk_cell hb2 2).trans rfl
  have g3 : W2.cell? ⟨v + 1, 3, none⟩ = some (.int .u32 0) := (blk_cell hb2 3).trans rfl
  have g4 : W2.cell? ⟨v + 1, 4, none⟩ = some (.string ⟨#[]⟩) := (blk_cell hb2 4).trans rfl
  have g5 : W2.cell? ⟨v + 1, 5, none⟩ = some (.bool false) := (blk_cell hb2 5).trans rfl
  have q0 := blk_frozen hb2 0
  have q1 := blk_frozen hb2 1
  have q2 := blk_frozen hb2 2
  have q3 := blk_frozen hb2 3
  have q4 := blk_frozen hb2 4
  have q5 := blk_frozen hb2 5
  have H2 := Lib.hid (And.intro (H.out.1.trans m2 (by simp)) (And.intro (m2.at_ H.out.2.1 (by simp)) (And.intro hb2 (Kd.C_below H.out.2.2.2 (Mod.bel m2)))))
  clear m2 hb2
  cases bb with
  | false =>
    have HZ : Hid ((0, 0, 0, 0, (⟨#[]⟩ : ByteArray), false, false) = (y0, y1, y2, y3, y4, y5, y6)) := Lib.hid (by rw [← HS.out]; unfold seeR; rw [HBB.out]; rfl)
    go_wp2
    refine bodyPost_ret (results_ct rfl _ _ (v + 1) 31 #[.int .u64 0, .int .u32 0, .int .u32 0, .int .u32 0, .string ⟨#[]⟩, .bool false] (0, 0) _ rfl (blk_six H2.out.2.2.1 _ _ _ _ _ _) Try.underlying31 rfl (by kernel_rfl)) rfl ?_
    have hz := HZ.out
    simp only [Prod.mk.injEq] at hz
    obtain ⟨rfl, rfl, rfl, rfl, rfl, rfl, rfl⟩ := hz
    exact ⟨rfl, Mod.six H2.out.1 (by have := HV.out; omega) _ _ _ _ _ _⟩
  | true =>
    have hrp : RightP l := by
      by_cases h : RightP l
      · exact h
      · have := HBB.out; rw [rightB_no h] at this; cases this
    have HRP := Lib.hid hrp
    clear hrp g0 g1 g2 g3 g4 g5 q0 q1 q2 q3 q4 q5
    go_wp2_with fail
    go_loopg [6] l.length (fun k i wr => ∃ j : Nat, j ≤ l.length ∧ k = l.length - j ∧ i = .int .i64 j ∧ (∀ m (hm : m < l.length), m < j → pl_above t0 t1 l[m] = true) ∧ Mod W2 wr [])
    case atStart => exact ⟨0, Nat.zero_le _, rfl, rfl, fun m _ hm => by omega, Mod.refl _ _⟩
    case round =>
      obtain ⟨j, hj, rfl, rfl, hok, hM⟩ := hrel
      have hb3 := hM.at_ H2.out.2.2.1 (by simp)
      have g0 : wr.cell? ⟨v + 1, 0, none⟩ = some (.int .u64 0) := (blk_cell hb3 0).trans rfl
      have g1 : wr.cell? ⟨v + 1, 1, none⟩ = some (.int .u32 0) := (blk_cell hb3 1).trans rfl
      have g2 : wr.cell? ⟨v + 1, 2, none⟩ = some (.int .u32 0) := (blk_cell hb3 2).trans rfl
      have g3 : wr.cell? ⟨v + 1, 3, none⟩ = some (.int .u32 0) := (blk_cell hb3 3).trans rfl
      have g4 : wr.cell? ⟨v + 1, 4, none⟩ = some (.string ⟨#[]⟩) := (blk_cell hb3 4).trans rfl
      have g5 : wr.cell? ⟨v + 1, 5, none⟩ = some (.bool false) := (blk_cell hb3 5).trans rfl
      have q0 := blk_frozen hb3 0
      have q1 := blk_frozen hb3 1
      have q2 := blk_frozen hb3 2
      have q3 := blk_frozen hb3 3
      have q4 := blk_frozen hb3 4
      have q5 := blk_frozen hb3 5
      by_cases hjl : j < l.length
      · have hjz : (j : Int) < (l.length : Int) := by omega
        obtain ⟨ad, rfl, a0, a1, a2, a3, a4, a5⟩ := v_cells (Kd.C_below H2.out.2.2.2 (Mod.bel hM)) j hjl
        have s0 : wr.cell? ⟨v, 0, none⟩ = some (.int .u64 t0) := (blk_cell (hM.at_ H2.out.2.1 (by simp)) 0).trans rfl
        have s1 : wr.cell? ⟨v, 1, none⟩ = some (.int .u32 t1) := (blk_cell (hM.at_ H2.out.2.1 (by simp)) 1).trans rfl
        have hw : IntKind.i64.wrap ((j : Int) + 1) = ((j + 1 : Nat) : Int) := by rw [i64w (by omega) (by omega)]; omega
        have hnext : pl_above t0 t1 l[j] = true → ∀ m (hm : m < l.length), m < j + 1 → pl_above t0 t1 l[m] = true := fun h m hm hm2 => by
          by_cases e : m = j
          · subst e; exact h
          · exact hok m hm (by omega)
        have hstop : pl_above t0 t1 l[j] = false → see l t0 t1 = some l[j] := fun h => by
          unfold see
          rw [place_is HRP.out t0 t1 hj hok (fun _ => h)]
          exact List.getElem?_eq_getElem hjl
        have HN := Lib.hid (And.intro hnext hstop)
        obtain ⟨bl, hbl⟩ : ∃ bl, pl_above t0 t1 l[j] = bl := ⟨_, rfl⟩
        have HL := Lib.hid hbl
        have HJ := Lib.hid (And.intro hM hb3)
        clear hnext hstop hok hM hbl hb3
        generalize l[j] = x at *
        obtain ⟨⟨x0, x1⟩, ⟨x2, x3⟩, x4, x5⟩ := x
        dsimp only at a0 a1 a2 a3 a4 a5
        go_upto_region 6 with fail
        go_region_held3 (fun w' => w'.cell? ⟨v, 0, none⟩ = some (.int .u64 t0) ∧ w'.cell? ⟨v, 1, none⟩ = some (.int .u32 t1) ∧ w'.cell? (ad.add (j * 6)) = some (.int .u64 x0) ∧ w'.cell? ⟨(ad.add (j * 6)).block, (ad.add (j * 6)).off + 1, none⟩ = some (.int .u32 x1)) (go_keep) (first
          | (go_at_call 50
             refine (rless_calls t0 t1 x0 x1 HL.out).mono ?_
             rintro e W3 ⟨rfl, m3⟩
             have n3 : Mod wr W3 [] := by
               refine Mod.trans ?_ m3 (by simp)
               (with_reducible repeat (first | exact Mod.refl _ _ | refine Mod.alloc ?_ _ | refine Mod.drewN ?_ _ | refine Mod.drew ?_))
             have d0 := Mod.cellA n3 s0 (by simp)
             have d1 := Mod.cellA n3 s1 (by simp)
             have d2 := Mod.cellA n3 a0 (by simp)
             have d3 := Mod.cellA n3 a1 (by simp)
             have d4 := Mod.cellA n3 a2 (by simp)
             have d5 := Mod.cellA n3 a3 (by simp)
             have d6 := Mod.cellA n3 a4 (by simp)
             have d7 := Mod.cellA n3 a5 (by simp)
             have hb4 := n3.at_ HJ.out.2 (by simp)
             have k0 : W3.cell? ⟨v + 1, 0, none⟩ = some (.int .u64 0) := (blk_cell hb4 0).trans rfl
             have k1 : W3.cell? ⟨v + 1, 1, none⟩ = some (.int .u32 0) := (blk_cell hb4 1).trans rfl
             have k2 : W3.cell? ⟨v + 1, 2, none⟩ = some (.int .u32 0) := (blk_cell hb4 2).trans rfl
             have k3 : W3.cell? ⟨v + 1, 3, none⟩ = some (.int .u32 0) := (blk_cell hb4 3).trans rfl
             have k4 : W3.cell? ⟨v + 1, 4, none⟩ = some (.string ⟨#[]⟩) := (blk_cell hb4 4).trans rfl
             have k5 : W3.cell? ⟨v + 1, 5, none⟩ = some (.bool false) := (blk_cell hb4 5).trans rfl
             have w0 := blk_frozen hb4 0
             have w1 := blk_frozen hb4 1
             have w2 := blk_frozen hb4 2
             have w3 := blk_frozen hb4 3
             have w4 := blk_frozen hb4 4
             have w5 := blk_frozen hb4 5
             have H3 := Lib.hid (And.intro n3 hb4)
             clear m3 n3 hb4))
        all_goals
          cases bl with
          | true =>
            go_wp2
            go_roundg (l.length - (j + 1))
            case measure => omega
            case rel => exact ⟨j + 1, by omega, rfl, by rw [show ((j + 1 : Nat) : Int) = (j : Int) + 1 by omega], HN.out.1 (by first | exact HL.out | rfl), HJ.out.1.trans H3.out.1 (by simp)⟩
          | false =>
            have HZ : Hid ((x0, x1, x2, x3, x4, x5, true) = (y0, y1, y2, y3, y4, y5, y6)) := Lib.hid (by rw [← HS.out]; unfold seeR; rw [HBB.out, if_pos rfl, HN.out.2 HL.out]; rfl)
            go_wp2
            refine bodyPost_ret (results_ct rfl _ _ (v + 1) 31 #[.int .u64 x0, .int .u32 x1, .int .u32 x2, .int .u32 x3, .string x4, .bool x5] (0, 0) _ rfl (blk_six H3.out.2 _ _ _ _ _ _) Try.underlying31 rfl (by kernel_rfl)) rfl ?_
            have hz := HZ.out
            simp only [Prod.mk.injEq] at hz
            obtain ⟨rfl, rfl, rfl, rfl, rfl, rfl, rfl⟩ := hz
            exact ⟨rfl, Mod.six (H2.out.1.trans (HJ.out.1.trans H3.out.1 (by simp)) (by simp)) (by have := HV.out; omega) _ _ _ _ _ _⟩
      · obtain rfl : j = l.length := by omega
        have hjz : ¬ (l.length : Int) < (l.length : Int) := by omega
        have HZ : Hid ((0, 0, 0, 0, (⟨#[]⟩ : ByteArray), false, false) = (y0, y1, y2, y3, y4, y5, y6)) := Lib.hid (by
          rw [← HS.out]
          unfold seeR see
          rw [HBB.out, if_pos rfl, place_is HRP.out t0 t1 (Nat.le_refl _) hok (fun h => by omega), List.getElem?_eq_none (Nat.le_refl _)]
          rfl)
        have HJ := Lib.hid (And.intro hM hb3)
        clear hM hb3 hok
        go_wp2
        refine bodyPost_ret (results_ct rfl _ _ (v + 1) 31 #[.int .u64 0, .int .u32 0, .int .u32 0, .int .u32 0, .string ⟨#[]⟩, .bool false] (0, 0) _ rfl (blk_six HJ.out.2 _ _ _ _ _ _) Try.underlying31 rfl (by kernel_rfl)) rfl ?_
        have hz := HZ.out
        simp only [Prod.mk.injEq] at hz
        obtain ⟨rfl, rfl, rfl, rfl, rfl, rfl, rfl⟩ := hz
        exact ⟨rfl, Mod.six (H2.out.1.trans HJ.out.1 (by simp)) (by have := HV.out; omega) _ _ _ _ _ _⟩
noncomputable def nwR (l : List S31) : Int × Int := if rightB l = true then nwC l else (0, 0)
def StP (W : World) (r : Int × Int) (e : Ending) (W' : World) : Prop := e = .returned (.agg #[.int .u64 r.1, .int .u32 r.2]) ∧ Mod W W' []
set_option maxRecDepth 100000 in
set_option maxHeartbeats 4000000 in
theorem rnew_calls {W : World} {A : Option Addr} {c : Nat} {l : List S31} {r : Int × Int} (hr : Kd.C k31 W A l.length l) (hc : l.length ≤ c) (hl : l.length ≤ 1000000) (hs : nwR l = r) :
    Calls Try.prog 24 #[.slice A l.length c] W (StP W r) := by
  have hm := (Mod.refl W []).alloc (.cells #[.int .u64 0, .int .u32 0] 27)
  have hb := blk_new W (.cells #[.int .u64 0, .int .u32 0] 27)
  have H := Lib.hid (And.intro hm (And.intro hb (Kd.C_below hr (Mod.bel hm))))
  have HC := Lib.hid hc
  clear hm hb hr hc
  obtain ⟨bb, hbb⟩ : ∃ bb, rightB l = bb := ⟨_, rfl⟩
  have HBB := Lib.hid hbb
  obtain ⟨y0, y1⟩ := r
  have HS := Lib.hid hs
  clear hbb hs
  go_enter Try.func24, Try.ntmps24
  go_wp2_with fail
  generalize W.alloc (.cells #[.int .u64 0, .int .u32 0] 27) = W1 at H ⊢
  generalize hv : W.heap.size = v at H ⊢
  have HV := Lib.hid hv
  clear hv
  refine (rright_calls H.out.2.2 HC.out hl HBB.out).mono ?_
  rintro e W2 ⟨rfl, m2⟩
  have hb2 := m2.at_ H.out.2.1 (by simp)
  have g0 : W2.cell? ⟨v, 0, none⟩ = some (.int .u64 0) := (blk_cell hb2 0).trans rfl
  have g1 : W2.cell? ⟨v, 1, none⟩ = some (.int .u32 0) := (blk_cell hb2 1).trans rfl
  have q0 := blk_frozen hb2 0
  have q1 := blk_frozen hb2 1
  have H2 := Lib.hid (And.intro (H.out.1.trans m2 (by simp)) (And.intro hb2 (Kd.C_below H.out.2.2 (Mod.bel m2))))
  clear m2 hb2
  by_cases hz : bb = false ∨ l.length = 0
  · have HZ : Hid ((0, 0) = (y0, y1)) := Lib.hid (by
      rw [← HS.out]
      unfold nwR
      rw [HBB.out]
      rcases hz with rfl | h
      · rfl
      · obtain rfl : l = [] := List.eq_nil_of_length_eq_zero h
        split <;> rfl)
    cases bb with
    | false =>
      clear hz
      go_wp2
      refine bodyPost_ret (results_cell_row rfl _ _ v 27 #[.int .u64 0, .int .u32 0] (0, 0) _ rfl (blk_two H2.out.2.1 _ _) Try.underlying27 rfl (by kernel_rfl)) rfl ?_
      have hz := HZ.out
      simp only [Prod.mk.injEq] at hz
      obtain ⟨rfl, rfl⟩ := hz
      exact ⟨rfl, Mod.two H2.out.1 (by have := HV.out; omega) _ _⟩
    | true =>
      have h0 : l.length = 0 := by rcases hz with h | h; cases h; exact h
      have h0z : (l.length : Int) = 0 := by omega
      have HH := Lib.hid h0
      clear hz
      generalize l.length = n at *
      subst h0
      go_wp2
      refine bodyPost_ret (results_cell_row rfl _ _ v 27 #[.int .u64 0, .int .u32 0] (0, 0) _ rfl (blk_two H2.out.2.1 _ _) Try.underlying27 rfl (by kernel_rfl)) rfl ?_
      have hz := HZ.out
      simp only [Prod.mk.injEq] at hz
      obtain ⟨rfl, rfl⟩ := hz
      exact ⟨rfl, Mod.two H2.out.1 (by have := HV.out; omega) _ _⟩
  · have hbt : bb = true := by cases bb with | true => rfl | false => exact absurd (.inl rfl) hz
    subst hbt
    have hn0 : ¬ l.length = 0 := fun h => hz (.inr h)
    have hn0z : ¬ (l.length : Int) = 0 := by omega
    have hn0p : (0 : Int) < l.length := by omega
    have hn0q : 0 < l.length := by omega
    clear hz
    obtain ⟨ad, rfl, a0, a1, a2, a3, a4, a5⟩ := v_cells H2.out.2.2 0 hn0q
    have HZ : Hid ((l[0].f0.f0, l[0].f0.f1) = (y0, y1)) := Lib.hid (by
      rw [← HS.out]
      unfold nwR
      rw [HBB.out, if_pos rfl]
      cases l with
      | nil => simp at hn0q
      | cons x r => rfl)
    have e0 : ad.add (0 * 6) = ad := by simp [Addr.add]
    rw [e0] at a0 a1 a2 a3 a4 a5
    generalize l[0] = x at *
    go_wp2
    refine bodyPost_ret (results_cell_row rfl _ _ v 27 #[.int .u64 x.f0.f0, .int .u32 x.f0.f1] (0, 0) _ rfl (blk_two H2.out.2.1 _ _) Try.underlying27 rfl (by kernel_rfl)) rfl ?_
    have hz := HZ.out
    simp only [Prod.mk.injEq] at hz
    obtain ⟨rfl, rfl⟩ := hz
    exact ⟨rfl, Mod.two H2.out.1 (by have := HV.out; omega) _ _⟩
noncomputable def prR (l : List S31) (t0 t1 : Int) : List S31 := if rightB l = true then pruneL l t0 t1 else []
/-- A fresh row. -/
def RowQ (W : World) (r : List S31) (e : Ending) (W' : World) : Prop := ∃ A c, e = .returned (.slice A r.length c) ∧ k31.R 31 W' 0 (fun b => W.heap.size ≤ b) (.slice A r.length c) r ∧ Mod W W' []
theorem prune_end {l : List S31} (h : RightP l) (t0 t1 : Int) (h1 : ∀ m (hm : m < l.length), m < l.length → pl_above t0 t1 l[m] = true) : pruneL l t0 t1 = l := by
  unfold pruneL
  rw [place_is h t0 t1 (Nat.le_refl _) h1 (fun h => by omega), List.getElem?_eq_none (Nat.le_refl _)]
  simp
theorem prune_stop {l : List S31} (h : RightP l) (t0 t1 : Int) {j : Nat} (hj : j < l.length) (h1 : ∀ m (hm : m < l.length), m < j → pl_above t0 t1 l[m] = true) (h2 : pl_above t0 t1 l[j] = false) : pruneL l t0 t1 = if l[j].f3 = true then l.take j else l.take j ++ [l[j]] := by
  unfold pruneL
  rw [place_is h t0 t1 (Nat.le_of_lt hj) h1 (fun _ => h2), List.getElem?_eq_getElem hj]
  dsimp only
  split
  · rfl
  · rw [List.take_succ_eq_append_getElem hj]
set_option maxRecDepth 100000 in
set_option maxHeartbeats 4000000 in
theorem rprune_calls {W : World} {A : Option Addr} {c : Nat} {l : List S31} (t0 t1 : Int) {r : List S31} (hr : Kd.C k31 W A l.length l) (hc : l.length ≤ c) (hl : l.length ≤ 1000000) (hs : prR l t0 t1 = r) :
    Calls Try.prog 25 #[.slice A l.length c, .agg #[.int .u64 t0, .int .u32 t1]] W (RowQ W r) := by
  have hm := (Mod.refl W []).alloc (.cells #[.int .u64 t0, .int .u32 t1] 27)
  have hb := blk_new W (.cells #[.int .u64 t0, .int .u32 t1] 27)
  have H := Lib.hid (And.intro hm (And.intro hb (Kd.C_below hr (Mod.bel hm))))
  have HC := Lib.hid hc
  clear hm hb hr hc
  obtain ⟨bb, hbb⟩ : ∃ bb, rightB l = bb := ⟨_, rfl⟩
  have HBB := Lib.hid hbb
  have HS := Lib.hid hs
  clear hbb hs
  go_enter Try.func25, Try.ntmps25
  go_wp2_with fail
  generalize W.alloc (.cells #[.int .u64 t0, .int .u32 t1] 27) = W1 at H ⊢
  generalize hv : W.heap.size = v at H ⊢
  have HV := Lib.hid hv
  clear hv
  refine (rright_calls H.out.2.2 HC.out hl HBB.out).mono ?_
  rintro e W2 ⟨rfl, m2⟩
  have H2 := Lib.hid (And.intro (H.out.1.trans m2 (by simp)) (And.intro (m2.at_ H.out.2.1 (by simp)) (Kd.C_below H.out.2.2 (Mod.bel m2))))
  clear m2
  cases bb with
  | false =>
    have HZ : Hid ([] = r) := Lib.hid (by rw [← HS.out]; unfold prR; rw [HBB.out]; rfl)
    go_wp2
    go_ret
    rw [← HZ.out]
    exact ⟨none, 0, rfl, Kd.R_nil _ _ _ _ _, H2.out.1⟩
  | true =>
    have hrp : RightP l := by
      by_cases h : RightP l
      · exact h
      · have := HBB.out; rw [rightB_no h] at this; cases this
    have HRP := Lib.hid hrp
    clear hrp
    go_wp2_with fail
    go_loopg [5, 6] l.length (fun k lv i wr => ∃ j : Nat, j ≤ l.length ∧ k = l.length - j ∧ i = .int .i64 j ∧ (∀ m (hm : m < l.length), m < j → pl_above t0 t1 l[m] = true) ∧ k31.R 31 wr 0 (fun b => W2.heap.size ≤ b) lv (l.take j) ∧ Mod W2 wr [])
    case atStart => exact ⟨0, Nat.zero_le _, rfl, rfl, fun m _ hm => by omega, by rw [List.take_zero]; exact Kd.R_nil _ _ _ _ _, Mod.refl _ _⟩
    case round =>
      obtain ⟨j, hj, rfl, rfl, hok, hR, hM⟩ := hrel
      obtain ⟨B, d, rfl, hd, hC⟩ := Kd.R_reads hR
      by_cases hjl : j < l.length
      · have hjz : (j : Int) < (l.length : Int) := by omega
        obtain ⟨ad, rfl, a0, a1, a2, a3, a4, a5⟩ := v_cells (Kd.C_below H2.out.2.2 (Mod.bel hM)) j hjl
        have s0 : wr.cell? ⟨v, 0, none⟩ = some (.int .u64 t0) := (blk_cell (hM.at_ H2.out.2.1 (by simp)) 0).trans rfl
        have s1 : wr.cell? ⟨v, 1, none⟩ = some (.int .u32 t1) := (blk_cell (hM.at_ H2.out.2.1 (by simp)) 1).trans rfl
        have hw : IntKind.i64.wrap ((j : Int) + 1) = ((j + 1 : Nat) : Int) := by rw [i64w (by omega) (by omega)]; omega
        have hnext : pl_above t0 t1 l[j] = true → ∀ m (hm : m < l.length), m < j + 1 → pl_above t0 t1 l[m] = true := fun h m hm hm2 => by
          by_cases e : m = j
          · subst e; exact h
          · exact hok m hm (by omega)
        have hstop := prune_stop HRP.out t0 t1 hjl hok
        have hta := List.take_succ_eq_append_getElem hjl
        have hlen : (l.take j).length ≤ 1000000 := by rw [List.length_take]; omega
        have HN := Lib.hid (And.intro hnext (And.intro hstop hta))
        obtain ⟨bl, hbl⟩ : ∃ bl, pl_above t0 t1 l[j] = bl := ⟨_, rfl⟩
        have HL := Lib.hid hbl
        have HJ := Lib.hid (And.intro hM (And.intro hR trivial))
        clear hnext hstop hok hM hbl hR hC hta hd
        generalize hac : l.take j = ac at *
        clear hac
        generalize l[j] = x at *
        obtain ⟨⟨x0, x1⟩, ⟨x2, x3⟩, x4, x5⟩ := x
        dsimp only at a0 a1 a2 a3 a4 a5 HN
        go_upto_region 7 with fail
        go_region_held3 (fun w' => w'.cell? ⟨v, 0, none⟩ = some (.int .u64 t0) ∧ w'.cell? ⟨v, 1, none⟩ = some (.int .u32 t1) ∧ w'.cell? (ad.add (j * 6)) = some (.int .u64 x0) ∧ w'.cell? ⟨(ad.add (j * 6)).block, (ad.add (j * 6)).off + 1, none⟩ = some (.int .u32 x1)) (go_keep) (first
          | (go_at_call 50
             refine (rless_calls t0 t1 x0 x1 HL.out).mono ?_
             rintro e W3 ⟨rfl, m3⟩
             have n3 : Mod wr W3 [] := by
               refine Mod.trans ?_ m3 (by simp)
               (with_reducible repeat (first | exact Mod.refl _ _ | refine Mod.alloc ?_ _ | refine Mod.drewN ?_ _ | refine Mod.drew ?_))
             have d0 := Mod.cellA n3 s0 (by simp)
             have d1 := Mod.cellA n3 s1 (by simp)
             have d2 := Mod.cellA n3 a0 (by simp)
             have d3 := Mod.cellA n3 a1 (by simp)
             have d4 := Mod.cellA n3 a2 (by simp)
             have d5 := Mod.cellA n3 a3 (by simp)
             have d6 := Mod.cellA n3 a4 (by simp)
             have d7 := Mod.cellA n3 a5 (by simp)
             have H3 := Lib.hid (And.intro (HJ.out.1.trans n3 (by simp)) (R_mod HJ.out.2.1 n3))
             clear m3 n3))
        all_goals
          cases bl with
          | true =>
            go_wp2_with (first | (at_builtin; refine Kd.R_append k31 (w0 := W3) (W := W3) 0 rfl _ _ 22 31 (.agg #[.int .u64 0, .int .u32 0, .int .u32 0, .int .u32 0, .string ⟨#[]⟩, .bool false]) 48 rfl Try.underlying22 info31 rfl (by decide) (by decide) (.slice B ac.length d) ac (⟨⟨x0, x1⟩, ⟨x2, x3⟩, x4, x5⟩ : S31) [.int .u64 x0, .int .u32 x1, .int .u32 x2, .int .u32 x3, .string x4, .bool x5] (fun b => W2.heap.size ≤ b) (fun _ => False) rfl rfl (k31_mkM _ _ _ (⟨⟨x0, x1⟩, ⟨x2, x3⟩, x4, x5⟩ : S31)) (fun k h => h.elim) (fun k h => Nat.le_trans H3.out.1.size h) H3.out.2 (Below.refl _ _) (Nat.zero_le _) (by omega) ?_) | fail)
            intro v9 W9 o9 _ g9 _
            have m9 : Mod W2 W9 [] := H3.out.1.trans (mod_own g9) (fun y hy => .inr (H3.out.2.1 y (own_mem _ y hy)))
            have H9 := Lib.hid (And.intro o9 m9)
            clear o9 g9 m9
            go_wp2
            go_roundg (l.length - (j + 1))
            case measure => omega
            case rel => exact ⟨j + 1, by omega, rfl, by rw [show ((j + 1 : Nat) : Int) = (j : Int) + 1 by omega], HN.out.1 (by first | exact HL.out | rfl), by rw [HN.out.2.2]; exact H9.out.1, H9.out.2⟩
          | false =>
            cases x5 with
            | true =>
              have HZ : Hid (ac = r) := Lib.hid (by rw [← HS.out]; unfold prR; rw [HBB.out, if_pos rfl, HN.out.2.1 HL.out, if_pos rfl])
              go_wp2
              go_ret
              rw [← HZ.out]
              exact ⟨B, d, rfl, Kd.R_mono H3.out.2 (fun k hk => Nat.le_trans H2.out.1.size hk), H2.out.1.trans H3.out.1 (by simp)⟩
            | false =>
              have HZ : Hid (ac ++ [⟨⟨x0, x1⟩, ⟨x2, x3⟩, x4, false⟩] = r) := Lib.hid (by rw [← HS.out]; unfold prR; rw [HBB.out, if_pos rfl, HN.out.2.1 HL.out, if_neg (by simp)])
              go_wp2_with (first | (at_builtin; refine Kd.R_append k31 (w0 := W3) (W := W3) 0 rfl _ _ 22 31 (.agg #[.int .u64 0, .int .u32 0, .int .u32 0, .int .u32 0, .string ⟨#[]⟩, .bool false]) 48 rfl Try.underlying22 info31 rfl (by decide) (by decide) (.slice B ac.length d) ac (⟨⟨x0, x1⟩, ⟨x2, x3⟩, x4, false⟩ : S31) [.int .u64 x0, .int .u32 x1, .int .u32 x2, .int .u32 x3, .string x4, .bool false] (fun b => W2.heap.size ≤ b) (fun _ => False) rfl rfl (k31_mkM _ _ _ (⟨⟨x0, x1⟩, ⟨x2, x3⟩, x4, false⟩ : S31)) (fun k h => h.elim) (fun k h => Nat.le_trans H3.out.1.size h) H3.out.2 (Below.refl _ _) (Nat.zero_le _) (by omega) ?_) | fail)
              intro v9 W9 o9 _ g9 _
              have m9 : Mod W2 W9 [] := H3.out.1.trans (mod_own g9) (fun y hy => .inr (H3.out.2.1 y (own_mem _ y hy)))
              have H9 := Lib.hid (And.intro o9 m9)
              clear o9 g9 m9
              rw [HZ.out] at H9
              obtain ⟨B9, d9, rfl, _, _⟩ := Kd.R_reads H9.out.1
              go_wp2
              go_ret
              exact ⟨B9, d9, rfl, Kd.R_mono H9.out.1 (fun k hk => Nat.le_trans H2.out.1.size hk), H2.out.1.trans H9.out.2 (by simp)⟩
      · obtain rfl : j = l.length := by omega
        have hjz : ¬ (l.length : Int) < (l.length : Int) := by omega
        have HZ : Hid (l = r) := Lib.hid (by rw [← HS.out]; unfold prR; rw [HBB.out, if_pos rfl, prune_end HRP.out t0 t1 hok])
        rw [List.take_length] at hR ⊢
        have HJ := Lib.hid (And.intro hM hR)
        clear hM hR hok hC hd
        go_wp2
        go_ret
        rw [← HZ.out]
        exact ⟨B, d, rfl, Kd.R_mono HJ.out.2 (fun k hk => Nat.le_trans H2.out.1.size hk), H2.out.1.trans HJ.out.1 (by simp)⟩
attribute [local go_sem high] eqA27 eqA31
noncomputable def putR (l : List S31) (v : S31) : List S31 × Int := if rightB l = true then putC l v else ([], 1)
theorem put_r {l : List S31} {v : S31} (h : rightB l = true) : putR l v = putC l v := by unfold putR; rw [if_pos h]
theorem putC_f {l : List S31} {v : S31} (h : RightP l) {q : List S31 × Int} (e : chain_Put.f 2000 l v.f0.f0 v.f0.f1 v.f1.f0 v.f1.f1 v.f2 v.f3 = some q) : putC l v = q := by
  have := (put_spec (v := v) h).1
  rw [e] at this
  exact (Option.some.inj this).symm
theorem putC_unfit {l : List S31} {v : S31} (h : RightP l) (hv : fitsB v = false) : putC l v = ([], 1) := putC_f h (put_unfit h hv (by have := h.n; omega))
theorem putC_same {l : List S31} {v : S31} (h : RightP l) (hv : fitsB v = true) (hin : v ∈ l) : putC l v = (l, 0) := putC_f h (put_same h hv hin (by have := h.n; omega))
theorem putC_busy {l : List S31} {v y : S31} (h : RightP l) (hv : fitsB v = true) (hin : y ∈ l) (ha : atV y v) (hne : y ≠ v) : putC l v = ([], 40) := putC_f h (put_busy h hv hin ha hne (by have := h.n; omega))
theorem putC_more {l : List S31} {v : S31} (h : RightP l) (hv : fitsB v = true) (hno : ∀ y ∈ l, ¬ atV y v) (hm : 1000 ≤ l.length) : putC l v = ([], 3) := putC_f h (by rw [put_new h hv hno (by have := h.n; omega), if_pos hm])
theorem putC_new {l : List S31} {v : S31} (h : RightP l) (hv : fitsB v = true) (hno : ∀ y ∈ l, ¬ atV y v) (hm : l.length < 1000) : putC l v = (putL l v, 0) := putC_f h (by rw [put_new h hv hno (by have := h.n; omega), if_neg (by omega)])
def RPutP (W : World) (l : List S31) (A : Option Addr) (c : Nat) (r : List S31 × Int) (e : Ending) (W' : World) : Prop :=
  ∃ A' c', e = .returned (.tuple #[.slice A' r.1.length c', .int .i64 r.2]) ∧ Mod W W' [] ∧ (k31.R 31 W' 0 (fun b => W.heap.size ≤ b) (.slice A' r.1.length c') r.1 ∨ (A' = A ∧ c' = c ∧ r.1 = l))
set_option maxRecDepth 100000 in
set_option maxHeartbeats 16000000 in
theorem rput_calls {W : World} {A : Option Addr} {c : Nat} {l : List S31} (v0 v1 v2 v3 : Int) (v4 : ByteArray) (v5 : Bool) {r : List S31 × Int} (hr : Kd.C k31 W A l.length l) (hc : l.length ≤ c) (hl : l.length ≤ 1000000) (hs : putR l ⟨⟨v0, v1⟩, ⟨v2, v3⟩, v4, v5⟩ = r) :
    Calls Try.prog 20 #[.slice A l.length c, .agg #[.int .u64 v0, .int .u32 v1, .int .u32 v2, .int .u32 v3, .string v4, .bool v5]] W (RPutP W l A c r) := by
  have hm := (Mod.refl W []).alloc (.cells #[.int .u64 v0, .int .u32 v1, .int .u32 v2, .int .u32 v3, .string v4, .bool v5] 31)
  have hb := blk_new W (.cells #[.int .u64 v0, .int .u32 v1, .int .u32 v2, .int .u32 v3, .string v4, .bool v5] 31)
  have H := Lib.hid (And.intro hm (And.intro hb (Kd.C_below hr (Mod.bel hm))))
  have HC := Lib.hid hc
  clear hm hb hr hc
  obtain ⟨bb, hbb⟩ : ∃ bb, rightB l = bb := ⟨_, rfl⟩
  have HBB := Lib.hid hbb
  obtain ⟨bf, hbf⟩ : ∃ bf, fitsB ⟨⟨v0, v1⟩, ⟨v2, v3⟩, v4, v5⟩ = bf := ⟨_, rfl⟩
  have HFV := Lib.hid hbf
  obtain ⟨r1, r2⟩ := r
  have HS := Lib.hid hs
  clear hbb hs hbf
  go_enter Try.func20, Try.ntmps20
  go_wp2_with fail
  generalize W.alloc (.cells #[.int .u64 v0, .int .u32 v1, .int .u32 v2, .int .u32 v3, .string v4, .bool v5] 31) = W1 at H ⊢
  generalize hv : W.heap.size = b at H ⊢
  have HV := Lib.hid hv
  clear hv
  refine (rright_calls H.out.2.2 HC.out hl HBB.out).mono ?_
  rintro e W2 ⟨rfl, m2⟩
  have hb2 := m2.at_ H.out.2.1 (by simp)
  have c0 : W2.cell? ⟨b, 0, none⟩ = some (.int .u64 v0) := (blk_cell (hb2) 0).trans rfl
  have c1 : W2.cell? ⟨b, 1, none⟩ = some (.int .u32 v1) := (blk_cell (hb2) 1).trans rfl
  have c2 : W2.cell? ⟨b, 2, none⟩ = some (.int .u32 v2) := (blk_cell (hb2) 2).trans rfl
  have c3 : W2.cell? ⟨b, 3, none⟩ = some (.int .u32 v3) := (blk_cell (hb2) 3).trans rfl
  have c4 : W2.cell? ⟨b, 4, none⟩ = some (.string v4) := (blk_cell (hb2) 4).trans rfl
  have c5 : W2.cell? ⟨b, 5, none⟩ = some (.bool v5) := (blk_cell (hb2) 5).trans rfl
  have H2 := Lib.hid (And.intro (H.out.1.trans m2 (by simp)) (And.intro hb2 (Kd.C_below H.out.2.2 (Mod.bel m2))))
  clear m2 hb2
  cases bb with
  | false =>
    have HZ : Hid (([], 1) = ((r1, r2) : List S31 × Int)) := Lib.hid (by rw [← HS.out]; unfold putR; rw [HBB.out]; rfl)
    go_wp2
    go_ret2
    have hz := HZ.out
    simp only [Prod.mk.injEq] at hz
    obtain ⟨rfl, rfl⟩ := hz
    exact ⟨none, 0, rfl, H2.out.1, .inl (Kd.R_nil _ _ _ _ _)⟩
  | true =>
    have hrp : RightP l := by
      by_cases h : RightP l
      · exact h
      · have := HBB.out; rw [rightB_no h] at this; cases this
    have HRP := Lib.hid hrp
    clear hrp
    go_wp2_with fail
    refine (vers_calls v0 v1 v2 v3 v4 v5 HFV.out).mono ?_
    rintro e W3 ⟨rfl, m3⟩
    have H3 := Lib.hid m3
    clear m3 c0 c1 c2 c3 c4 c5
    cases bf with
    | false =>
      have HZ : Hid (([], 1) = ((r1, r2) : List S31 × Int)) := Lib.hid (by rw [← HS.out, put_r HBB.out, putC_unfit HRP.out HFV.out])
      go_wp2
      go_ret2
      have hz := HZ.out
      simp only [Prod.mk.injEq] at hz
      obtain ⟨rfl, rfl⟩ := hz
      exact ⟨none, 0, rfl, H2.out.1.trans H3.out (by simp), .inl (Kd.R_nil _ _ _ _ _)⟩
    | true =>
      have hln : l.length ≤ 1000 := HRP.out.n
      go_wp2_with fail
      go_loopg [6] l.length (fun k i wr => ∃ j : Nat, j ≤ l.length ∧ k = l.length - j ∧ i = .int .i64 j ∧ (∀ m (hm : m < l.length), m < j → pl_above v0 v1 l[m] = true) ∧ Mod W2 wr [])
      case atStart => exact ⟨0, Nat.zero_le _, rfl, rfl, fun m _ hm => by omega, H3.out⟩
      case round =>
        obtain ⟨j, hj, rfl, rfl, hok, hM⟩ := hrel
        have hb3 := hM.at_ H2.out.2.1 (by simp)
        have c0 : wr.cell? ⟨b, 0, none⟩ = some (.int .u64 v0) := (blk_cell (hb3) 0).trans rfl
        have c1 : wr.cell? ⟨b, 1, none⟩ = some (.int .u32 v1) := (blk_cell (hb3) 1).trans rfl
        have c2 : wr.cell? ⟨b, 2, none⟩ = some (.int .u32 v2) := (blk_cell (hb3) 2).trans rfl
        have c3 : wr.cell? ⟨b, 3, none⟩ = some (.int .u32 v3) := (blk_cell (hb3) 3).trans rfl
        have c4 : wr.cell? ⟨b, 4, none⟩ = some (.string v4) := (blk_cell (hb3) 4).trans rfl
        have c5 : wr.cell? ⟨b, 5, none⟩ = some (.bool v5) := (blk_cell (hb3) 5).trans rfl
        by_cases hjl : j < l.length
        · have hjz : (j : Int) < (l.length : Int) := by omega
          obtain ⟨ad, rfl, a0, a1, a2, a3, a4, a5⟩ := v_cells (Kd.C_below H2.out.2.2 (Mod.bel hM)) j hjl
          have hw : IntKind.i64.wrap ((j : Int) + 1) = ((j + 1 : Nat) : Int) := by rw [i64w (by omega) (by omega)]; omega
          have hnext : pl_above v0 v1 l[j] = true → ∀ m (hm : m < l.length), m < j + 1 → pl_above v0 v1 l[m] = true := fun h m hm hm2 => by
            by_cases e : m = j
            · subst e; exact h
            · exact hok m hm (by omega)
          have hplc : pl_above v0 v1 l[j] = false → plc l ⟨⟨v0, v1⟩, ⟨v2, v3⟩, v4, v5⟩ = j := fun h => place_is HRP.out v0 v1 hj hok (fun _ => h)
          have hmem : l[j] ∈ l := List.getElem_mem hjl
          have hat : pl_above v0 v1 l[j] = false → ¬ atV l[j] ⟨⟨v0, v1⟩, ⟨v2, v3⟩, v4, v5⟩ → ∀ y ∈ l, ¬ atV y ⟨⟨v0, v1⟩, ⟨v2, v3⟩, v4, v5⟩ := fun h hn y hy ha => by
            have e := at_place HRP.out hy ha
            rw [hplc h, List.getElem?_eq_getElem hjl] at e
            cases e
            exact hn ha
          have hveq := veq_iff l[j] ⟨⟨v0, v1⟩, ⟨v2, v3⟩, v4, v5⟩
          have haeq := ateq_iff l[j] ⟨⟨v0, v1⟩, ⟨v2, v3⟩, v4, v5⟩
          have HN := Lib.hid (And.intro hnext (And.intro hplc (And.intro hmem (And.intro hat (And.intro hveq haeq)))))
          obtain ⟨bl, hbl⟩ : ∃ bl, pl_above v0 v1 l[j] = bl := ⟨_, rfl⟩
          have HL := Lib.hid hbl
          have HJ := Lib.hid (And.intro hM hb3)
          clear hnext hplc hmem hat hveq haeq hok hM hbl hb3
          generalize l[j] = x at *
          obtain ⟨⟨x0, x1⟩, ⟨x2, x3⟩, x4, x5⟩ := x
          dsimp only at a0 a1 a2 a3 a4 a5 HN
          unfold pl_veq pl_ateq at HN
          dsimp only at HN
          go_upto_region 4 with fail
          go_region_held3 (fun w' => w'.cell? ⟨b, 0, none⟩ = some (.int .u64 v0) ∧ w'.cell? ⟨b, 1, none⟩ = some (.int .u32 v1) ∧ w'.cell? (ad.add (j * 6)) = some (.int .u64 x0) ∧ w'.cell? ⟨(ad.add (j * 6)).block, (ad.add (j * 6)).off + 1, none⟩ = some (.int .u32 x1)) (go_keep) (first
            | (go_at_call 50
               refine (rless_calls v0 v1 x0 x1 HL.out).mono ?_
               rintro e W4 ⟨rfl, m4⟩
               have n4 : Mod wr W4 [] := by
                 refine Mod.trans ?_ m4 (by simp)
                 (with_reducible repeat (first | exact Mod.refl _ _ | refine Mod.alloc ?_ _ | refine Mod.drewN ?_ _ | refine Mod.drew ?_))
               have d0 := Mod.cellA n4 a0 (by simp)
               have d1 := Mod.cellA n4 a1 (by simp)
               have d2 := Mod.cellA n4 a2 (by simp)
               have d3 := Mod.cellA n4 a3 (by simp)
               have d4 := Mod.cellA n4 a4 (by simp)
               have d5 := Mod.cellA n4 a5 (by simp)
               have d6 := Mod.cellA n4 c0 (by simp)
               have d7 := Mod.cellA n4 c1 (by simp)
               have d8 := Mod.cellA n4 c2 (by simp)
               have d9 := Mod.cellA n4 c3 (by simp)
               have d10 := Mod.cellA n4 c4 (by simp)
               have d11 := Mod.cellA n4 c5 (by simp)
               have HM := Lib.hid (HJ.out.1.trans n4 (by simp))
               clear m4 n4))
          all_goals
            clear a0 a1 a2 a3 a4 a5 c0 c1 c2 c3 c4 c5
            cases bl with
            | true =>
              go_wp2
              go_roundg (l.length - (j + 1))
              case measure => omega
              case rel => exact ⟨j + 1, by omega, rfl, by rw [show ((j + 1 : Nat) : Int) = (j : Int) + 1 by omega], HN.out.1 (by first | exact HL.out | rfl), HM.out⟩
            | false =>
              have HPL := Lib.hid (HN.out.2.1 HL.out)
              cases hq : (x0 == v0 && (x1 == v1)) with
              | true =>
                go_upto_region 6 with fail
                go_quiet (fail)
                cases hq2 : (x2 == v2 && (x3 == v3) && (x4.toList == v4.toList && (x5 == v5))) with
                | true =>
                  have HZ : Hid ((l, 0) = ((r1, r2) : List S31 × Int)) := Lib.hid (by
                    have e := HN.out.2.2.2.2.1.1 (by rw [hq, hq2]; rfl)
                    rw [← HS.out, put_r HBB.out, putC_same HRP.out HFV.out (by rw [← e]; exact HN.out.2.2.1)])
                  go_upto_region 7 with fail
                  go_quiet (fail)
                  go_wp2
                  go_ret2
                  have hz := HZ.out
                  simp only [Prod.mk.injEq] at hz
                  obtain ⟨rfl, rfl⟩ := hz
                  exact ⟨_, _, rfl, H2.out.1.trans ((HM.out.drewN _).drewN _) (by simp), .inr ⟨rfl, rfl, rfl⟩⟩
                | false =>
                  have HZ : Hid (([], 40) = ((r1, r2) : List S31 × Int)) := Lib.hid (by
                    rw [← HS.out, put_r HBB.out, putC_busy HRP.out HFV.out HN.out.2.2.1 (HN.out.2.2.2.2.2.1 hq) (fun e => by have z := HN.out.2.2.2.2.1.2 e; rw [hq, hq2] at z; cases z)])
                  go_upto_region 7 with fail
                  go_quiet (fail)
                  go_wp2
                  go_ret2
                  have hz := HZ.out
                  simp only [Prod.mk.injEq] at hz
                  obtain ⟨rfl, rfl⟩ := hz
                  exact ⟨none, 0, rfl, H2.out.1.trans ((HM.out.drewN _).drewN _) (by simp), .inl (Kd.R_nil _ _ _ _ _)⟩
              | false =>
                have HNO := Lib.hid (HN.out.2.2.2.1 HL.out (fun ha => by rw [HN.out.2.2.2.2.2.2 ha] at hq; cases hq))
                go_upto_region 6 with fail
                go_quiet (fail)
                have hMq := HM.out.drewN nq
                generalize W4.drewN nq = Wq at hMq ⊢
                clear HM
                have HM := Lib.hid hMq
                clear hMq d0 d1 d2 d3 d4 d5 d6 d7 d8 d9 d10 d11 hq
                by_cases h1000 : 1000 ≤ l.length
                · have h1000z : (1000 : Int) ≤ (l.length : Int) := by omega
                  have HZ : Hid (([], 3) = ((r1, r2) : List S31 × Int)) := Lib.hid (by rw [← HS.out, put_r HBB.out, putC_more HRP.out HFV.out HNO.out h1000])
                  go_wp2_with fail
                  go_ret2
                  have hz := HZ.out
                  simp only [Prod.mk.injEq] at hz
                  obtain ⟨rfl, rfl⟩ := hz
                  exact ⟨none, 0, rfl, H2.out.1.trans HM.out (by simp), .inl (Kd.R_nil _ _ _ _ _)⟩
                · have h1000z : ¬ (1000 : Int) ≤ (l.length : Int) := by omega
                  have HZ : Hid ((l.take j ++ ⟨⟨v0, v1⟩, ⟨v2, v3⟩, v4, v5⟩ :: l.drop j, 0) = ((r1, r2) : List S31 × Int)) := Lib.hid (by rw [← HS.out, put_r HBB.out, putC_new HRP.out HFV.out HNO.out (by omega)]; unfold putL; rw [HPL.out])
                  have HC2 := Lib.hid (And.intro (H2.out.1.trans HM.out (by simp)) (And.intro (HM.out.at_ H2.out.2.1 (by simp)) (Kd.C_below H2.out.2.2 (Mod.bel HM.out))))
                  go_wp2_with fail
                  generalize Wq = V at *
                  go_loopg [7, 8] j (fun k lv i wr => ∃ i' : Nat, i' ≤ j ∧ k = j - i' ∧ i = .int .i64 i' ∧ k31.R 31 wr 0 (fun b => V.heap.size ≤ b) lv (l.take i') ∧ Mod V wr [])
                  case atStart => exact ⟨0, Nat.zero_le _, rfl, rfl, by rw [List.take_zero]; exact Kd.R_nil _ _ _ _ _, Mod.refl _ _⟩
                  case round =>
                    obtain ⟨i, hi, rfl, rfl, hR, hMi⟩ := hrel
                    obtain ⟨B, d, rfl, hd, hC⟩ := Kd.R_reads hR
                    by_cases hij : i < j
                    · have hijz : (i : Int) < (j : Int) := by omega
                      obtain ⟨ad2, hA2, a0, a1, a2, a3, a4, a5⟩ := v_cells (Kd.C_below HC2.out.2.2 (Mod.bel hMi)) i (by omega)
                      obtain rfl : ad = ad2 := Option.some.inj hA2
                      have hw : IntKind.i64.wrap ((i : Int) + 1) = ((i + 1 : Nat) : Int) := by rw [i64w (by omega) (by omega)]; omega
                      have hta := List.take_succ_eq_append_getElem (l := l) (i := i) (by omega)
                      have hlen : (l.take i).length ≤ 1000 := by rw [List.length_take]; omega
                      have hiz : (i : Int) < (l.length : Int) := by omega
                      have HJ := Lib.hid (And.intro hMi (And.intro hR hta))
                      clear hMi hR hta hC hd
                      generalize l.take i = ac at *
                      generalize l[i] = x at *
                      obtain ⟨⟨x0, x1⟩, ⟨x2, x3⟩, x4, x5⟩ := x
                      dsimp only at a0 a1 a2 a3 a4 a5
                      go_wp2_with (first | (at_builtin; refine Kd.R_append k31 (w0 := wr) (W := wr) 0 rfl _ _ 22 31 (.agg #[.int .u64 0, .int .u32 0, .int .u32 0, .int .u32 0, .string ⟨#[]⟩, .bool false]) 48 rfl Try.underlying22 info31 rfl (by decide) (by decide) (.slice B ac.length d) ac (⟨⟨x0, x1⟩, ⟨x2, x3⟩, x4, x5⟩ : S31) [.int .u64 x0, .int .u32 x1, .int .u32 x2, .int .u32 x3, .string x4, .bool x5] (fun b => V.heap.size ≤ b) (fun _ => False) rfl rfl (k31_mkM _ _ _ (⟨⟨x0, x1⟩, ⟨x2, x3⟩, x4, x5⟩ : S31)) (fun k h => h.elim) (fun k h => Nat.le_trans HJ.out.1.size h) HJ.out.2.1 (Below.refl _ _) (Nat.zero_le _) (by omega) ?_) | fail)
                      intro v9 W9 o9 _ g9 _
                      have m9 : Mod V W9 [] := HJ.out.1.trans (mod_own g9) (fun y hy => .inr (HJ.out.2.1.1 y (own_mem _ y hy)))
                      have H9 := Lib.hid (And.intro o9 m9)
                      clear o9 g9 m9
                      go_wp2
                      go_roundg (j - (i + 1))
                      case measure => omega
                      case rel => exact ⟨i + 1, by omega, rfl, by rw [show ((i + 1 : Nat) : Int) = (i : Int) + 1 by omega], by rw [HJ.out.2.2]; exact H9.out.1, H9.out.2⟩
                    · obtain rfl : i = j := by omega
                      have hijz : ¬ (i : Int) < (i : Int) := by omega
                      have hlen : (l.take i).length ≤ 1000 := by rw [List.length_take]; omega
                      have hb9 := hMi.at_ HC2.out.2.1 (by simp)
                      have z0 : wr.cell? ⟨b, 0, none⟩ = some (.int .u64 v0) := (blk_cell (hb9) 0).trans rfl
                      have z1 : wr.cell? ⟨b, 1, none⟩ = some (.int .u32 v1) := (blk_cell (hb9) 1).trans rfl
                      have z2 : wr.cell? ⟨b, 2, none⟩ = some (.int .u32 v2) := (blk_cell (hb9) 2).trans rfl
                      have z3 : wr.cell? ⟨b, 3, none⟩ = some (.int .u32 v3) := (blk_cell (hb9) 3).trans rfl
                      have z4 : wr.cell? ⟨b, 4, none⟩ = some (.string v4) := (blk_cell (hb9) 4).trans rfl
                      have z5 : wr.cell? ⟨b, 5, none⟩ = some (.bool v5) := (blk_cell (hb9) 5).trans rfl
                      have HJ := Lib.hid (And.intro hMi hR)
                      clear hMi hR hC hd hb9
                      generalize htk : l.take i = ac at *
                      have HTK := Lib.hid htk
                      clear htk
                      go_wp2_with (first | (at_builtin; refine Kd.R_append k31 (w0 := wr) (W := wr) 0 rfl _ _ 22 31 (.agg #[.int .u64 0, .int .u32 0, .int .u32 0, .int .u32 0, .string ⟨#[]⟩, .bool false]) 48 rfl Try.underlying22 info31 rfl (by decide) (by decide) (.slice B ac.length d) ac (⟨⟨v0, v1⟩, ⟨v2, v3⟩, v4, v5⟩ : S31) [.int .u64 v0, .int .u32 v1, .int .u32 v2, .int .u32 v3, .string v4, .bool v5] (fun b => V.heap.size ≤ b) (fun _ => False) rfl rfl (k31_mkM _ _ _ (⟨⟨v0, v1⟩, ⟨v2, v3⟩, v4, v5⟩ : S31)) (fun k h => h.elim) (fun k h => Nat.le_trans HJ.out.1.size h) HJ.out.2 (Below.refl _ _) (Nat.zero_le _) (by omega) ?_) | fail)
                      intro v9 W9 o9 _ g9 _
                      have m9 : Mod V W9 [] := HJ.out.1.trans (mod_own g9) (fun y hy => .inr (HJ.out.2.1 y (own_mem _ y hy)))
                      have H9 := Lib.hid (And.intro o9 m9)
                      clear o9 g9 m9
                      go_wp2_with fail
                      go_loopg [7, 9] (l.length - i) (fun k lv i2 wr => ∃ q : Nat, i ≤ q ∧ q ≤ l.length ∧ k = l.length - q ∧ i2 = .int .i64 q ∧ k31.R 31 wr 0 (fun b => V.heap.size ≤ b) lv ((ac ++ [(⟨⟨v0, v1⟩, ⟨v2, v3⟩, v4, v5⟩ : S31)]) ++ (l.take q).drop i) ∧ Mod V wr [])
                      case atStart => exact ⟨i, Nat.le_refl _, by omega, rfl, rfl, by
                        have e : (l.take i).drop i = [] := List.drop_eq_nil_of_le (by rw [List.length_take]; omega)
                        rw [e, List.append_nil]; exact H9.out.1, H9.out.2⟩
                      case round =>
                        obtain ⟨q, hq1, hq2, rfl, rfl, hR, hMq⟩ := hrel
                        obtain ⟨B, d, rfl, hd, hC⟩ := Kd.R_reads hR
                        by_cases hql : q < l.length
                        · have hqz : (q : Int) < (l.length : Int) := by omega
                          obtain ⟨ad2, hA2, a0, a1, a2, a3, a4, a5⟩ := v_cells (Kd.C_below HC2.out.2.2 (Mod.bel hMq)) q hql
                          obtain rfl : ad = ad2 := Option.some.inj hA2
                          have hw : IntKind.i64.wrap ((q : Int) + 1) = ((q + 1 : Nat) : Int) := by rw [i64w (by omega) (by omega)]; omega
                          have hta : (ac ++ [(⟨⟨v0, v1⟩, ⟨v2, v3⟩, v4, v5⟩ : S31)]) ++ (l.take (q + 1)).drop i = ((ac ++ [(⟨⟨v0, v1⟩, ⟨v2, v3⟩, v4, v5⟩ : S31)]) ++ (l.take q).drop i) ++ [l[q]] := by
                            rw [List.take_succ_eq_append_getElem hql, List.drop_append_of_le_length (by rw [List.length_take]; omega), List.append_assoc, List.append_assoc, List.append_assoc]
                          have hlen2 : ((ac ++ [(⟨⟨v0, v1⟩, ⟨v2, v3⟩, v4, v5⟩ : S31)]) ++ (l.take q).drop i).length ≤ 2001 := by
                            rw [List.length_append, List.length_append, List.length_drop, List.length_take]
                            simp only [List.length_cons, List.length_nil]
                            omega
                          have HJ := Lib.hid (And.intro hMq (And.intro hR hta))
                          clear hMq hR hta hC hd
                          generalize (ac ++ [(⟨⟨v0, v1⟩, ⟨v2, v3⟩, v4, v5⟩ : S31)]) ++ (l.take q).drop i = bc at *
                          generalize l[q] = x at *
                          obtain ⟨⟨x0, x1⟩, ⟨x2, x3⟩, x4, x5⟩ := x
                          dsimp only at a0 a1 a2 a3 a4 a5
                          go_wp2_with (first | (at_builtin; refine Kd.R_append k31 (w0 := wr) (W := wr) 0 rfl _ _ 22 31 (.agg #[.int .u64 0, .int .u32 0, .int .u32 0, .int .u32 0, .string ⟨#[]⟩, .bool false]) 48 rfl Try.underlying22 info31 rfl (by decide) (by decide) (.slice B bc.length d) bc (⟨⟨x0, x1⟩, ⟨x2, x3⟩, x4, x5⟩ : S31) [.int .u64 x0, .int .u32 x1, .int .u32 x2, .int .u32 x3, .string x4, .bool x5] (fun b => V.heap.size ≤ b) (fun _ => False) rfl rfl (k31_mkM _ _ _ (⟨⟨x0, x1⟩, ⟨x2, x3⟩, x4, x5⟩ : S31)) (fun k h => h.elim) (fun k h => Nat.le_trans HJ.out.1.size h) HJ.out.2.1 (Below.refl _ _) (Nat.zero_le _) (by omega) ?_) | fail)
                          intro v9 W9 o9 _ g9 _
                          have m9 : Mod V W9 [] := HJ.out.1.trans (mod_own g9) (fun y hy => .inr (HJ.out.2.1.1 y (own_mem _ y hy)))
                          have H9 := Lib.hid (And.intro o9 m9)
                          clear o9 g9 m9
                          go_wp2
                          go_roundg (l.length - (q + 1))
                          case measure => omega
                          case rel => exact ⟨q + 1, by omega, by omega, rfl, by rw [show ((q + 1 : Nat) : Int) = (q : Int) + 1 by omega], by rw [HJ.out.2.2]; exact H9.out.1, H9.out.2⟩
                        · obtain rfl : q = l.length := by omega
                          have hqz : ¬ (l.length : Int) < (l.length : Int) := by omega
                          have hz := HZ.out
                          simp only [Prod.mk.injEq] at hz
                          obtain ⟨hz1, rfl⟩ := hz
                          have e : (ac ++ [(⟨⟨v0, v1⟩, ⟨v2, v3⟩, v4, v5⟩ : S31)]) ++ (l.take l.length).drop i = r1 := by rw [← hz1, List.take_length]; simp
                          rw [e] at hR ⊢
                          have HJ := Lib.hid (And.intro hMq hR)
                          clear hMq hR hC hd e hz1
                          go_wp2
                          go_ret2
                          exact ⟨B, d, rfl, HC2.out.1.trans HJ.out.1 (by simp), .inl (Kd.R_mono HJ.out.2 (fun k hk => Nat.le_trans HC2.out.1.size hk))⟩
        · have hjz : ¬ (j : Int) < (l.length : Int) := by omega
          have hplc : plc l ⟨⟨v0, v1⟩, ⟨v2, v3⟩, v4, v5⟩ = j := place_is HRP.out v0 v1 hj hok (fun h => absurd h hjl)
          have hno : ∀ y ∈ l, ¬ atV y ⟨⟨v0, v1⟩, ⟨v2, v3⟩, v4, v5⟩ := fun y hy ha => by
            have e := at_place HRP.out hy ha
            rw [hplc, List.getElem?_eq_none (by omega)] at e
            cases e
          have HNO := Lib.hid hno
          have HPL := Lib.hid hplc
          have HM := Lib.hid hM
          clear hno hplc hM hb3 hok
          go_upto_region 4 with fail
          go_quiet (fail)
          have hMq := HM.out.drewN nq
          generalize wr.drewN nq = Wp at hMq ⊢
          clear HM c0 c1 c2 c3 c4 c5 nq
          have HM := Lib.hid hMq
          clear hMq
          go_upto_region 6 with fail
          go_quiet (fail)
          have hMq := HM.out.drewN nq
          generalize Wp.drewN nq = Wq at hMq ⊢
          clear HM
          have HM := Lib.hid hMq
          clear hMq
          by_cases h1000 : 1000 ≤ l.length
          · have h1000z : (1000 : Int) ≤ (l.length : Int) := by omega
            have HZ : Hid (([], 3) = ((r1, r2) : List S31 × Int)) := Lib.hid (by rw [← HS.out, put_r HBB.out, putC_more HRP.out HFV.out HNO.out h1000])
            go_wp2_with fail
            go_ret2
            have hz := HZ.out
            simp only [Prod.mk.injEq] at hz
            obtain ⟨rfl, rfl⟩ := hz
            exact ⟨none, 0, rfl, H2.out.1.trans HM.out (by simp), .inl (Kd.R_nil _ _ _ _ _)⟩
          · have h1000z : ¬ (1000 : Int) ≤ (l.length : Int) := by omega
            have HZ : Hid ((l.take j ++ ⟨⟨v0, v1⟩, ⟨v2, v3⟩, v4, v5⟩ :: l.drop j, 0) = ((r1, r2) : List S31 × Int)) := Lib.hid (by rw [← HS.out, put_r HBB.out, putC_new HRP.out HFV.out HNO.out (by omega)]; unfold putL; rw [HPL.out])
            have HC2 := Lib.hid (And.intro (H2.out.1.trans HM.out (by simp)) (And.intro (HM.out.at_ H2.out.2.1 (by simp)) (Kd.C_below H2.out.2.2 (Mod.bel HM.out))))
            go_wp2_with fail
            generalize Wq = V at *
            go_loopg [7, 8] j (fun k lv i wr => ∃ i' : Nat, i' ≤ j ∧ k = j - i' ∧ i = .int .i64 i' ∧ k31.R 31 wr 0 (fun b => V.heap.size ≤ b) lv (l.take i') ∧ Mod V wr [])
            case atStart => exact ⟨0, Nat.zero_le _, rfl, rfl, by rw [List.take_zero]; exact Kd.R_nil _ _ _ _ _, Mod.refl _ _⟩
            case round =>
              obtain ⟨i, hi, rfl, rfl, hR, hMi⟩ := hrel
              obtain ⟨B, d, rfl, hd, hC⟩ := Kd.R_reads hR
              by_cases hij : i < j
              · have hijz : (i : Int) < (j : Int) := by omega
                obtain ⟨ad2, hA2, a0, a1, a2, a3, a4, a5⟩ := v_cells (Kd.C_below HC2.out.2.2 (Mod.bel hMi)) i (by omega)
                obtain rfl := hA2
                have hw : IntKind.i64.wrap ((i : Int) + 1) = ((i + 1 : Nat) : Int) := by rw [i64w (by omega) (by omega)]; omega
                have hta := List.take_succ_eq_append_getElem (l := l) (i := i) (by omega)
                have hlen : (l.take i).length ≤ 1000 := by rw [List.length_take]; omega
                have hiz : (i : Int) < (l.length : Int) := by omega
                have HJ := Lib.hid (And.intro hMi (And.intro hR hta))
                clear hMi hR hta hC hd
                generalize l.take i = ac at *
                generalize l[i] = x at *
                obtain ⟨⟨x0, x1⟩, ⟨x2, x3⟩, x4, x5⟩ := x
                dsimp only at a0 a1 a2 a3 a4 a5
                go_wp2_with (first | (at_builtin; refine Kd.R_append k31 (w0 := wr) (W := wr) 0 rfl _ _ 22 31 (.agg #[.int .u64 0, .int .u32 0, .int .u32 0, .int .u32 0, .string ⟨#[]⟩, .bool false]) 48 rfl Try.underlying22 info31 rfl (by decide) (by decide) (.slice B ac.length d) ac (⟨⟨x0, x1⟩, ⟨x2, x3⟩, x4, x5⟩ : S31) [.int .u64 x0, .int .u32 x1, .int .u32 x2, .int .u32 x3, .string x4, .bool x5] (fun b => V.heap.size ≤ b) (fun _ => False) rfl rfl (k31_mkM _ _ _ (⟨⟨x0, x1⟩, ⟨x2, x3⟩, x4, x5⟩ : S31)) (fun k h => h.elim) (fun k h => Nat.le_trans HJ.out.1.size h) HJ.out.2.1 (Below.refl _ _) (Nat.zero_le _) (by omega) ?_) | fail)
                intro v9 W9 o9 _ g9 _
                have m9 : Mod V W9 [] := HJ.out.1.trans (mod_own g9) (fun y hy => .inr (HJ.out.2.1.1 y (own_mem _ y hy)))
                have H9 := Lib.hid (And.intro o9 m9)
                clear o9 g9 m9
                go_wp2
                go_roundg (j - (i + 1))
                case measure => omega
                case rel => exact ⟨i + 1, by omega, rfl, by rw [show ((i + 1 : Nat) : Int) = (i : Int) + 1 by omega], by rw [HJ.out.2.2]; exact H9.out.1, H9.out.2⟩
              · obtain rfl : i = j := by omega
                have hijz : ¬ (i : Int) < (i : Int) := by omega
                have hlen : (l.take i).length ≤ 1000 := by rw [List.length_take]; omega
                have hb9 := hMi.at_ HC2.out.2.1 (by simp)
                have z0 : wr.cell? ⟨b, 0, none⟩ = some (.int .u64 v0) := (blk_cell (hb9) 0).trans rfl
                have z1 : wr.cell? ⟨b, 1, none⟩ = some (.int .u32 v1) := (blk_cell (hb9) 1).trans rfl
                have z2 : wr.cell? ⟨b, 2, none⟩ = some (.int .u32 v2) := (blk_cell (hb9) 2).trans rfl
                have z3 : wr.cell? ⟨b, 3, none⟩ = some (.int .u32 v3) := (blk_cell (hb9) 3).trans rfl
                have z4 : wr.cell? ⟨b, 4, none⟩ = some (.string v4) := (blk_cell (hb9) 4).trans rfl
                have z5 : wr.cell? ⟨b, 5, none⟩ = some (.bool v5) := (blk_cell (hb9) 5).trans rfl
                have HJ := Lib.hid (And.intro hMi hR)
                clear hMi hR hC hd hb9
                generalize htk : l.take i = ac at *
                have HTK := Lib.hid htk
                clear htk
                go_wp2_with (first | (at_builtin; refine Kd.R_append k31 (w0 := wr) (W := wr) 0 rfl _ _ 22 31 (.agg #[.int .u64 0, .int .u32 0, .int .u32 0, .int .u32 0, .string ⟨#[]⟩, .bool false]) 48 rfl Try.underlying22 info31 rfl (by decide) (by decide) (.slice B ac.length d) ac (⟨⟨v0, v1⟩, ⟨v2, v3⟩, v4, v5⟩ : S31) [.int .u64 v0, .int .u32 v1, .int .u32 v2, .int .u32 v3, .string v4, .bool v5] (fun b => V.heap.size ≤ b) (fun _ => False) rfl rfl (k31_mkM _ _ _ (⟨⟨v0, v1⟩, ⟨v2, v3⟩, v4, v5⟩ : S31)) (fun k h => h.elim) (fun k h => Nat.le_trans HJ.out.1.size h) HJ.out.2 (Below.refl _ _) (Nat.zero_le _) (by omega) ?_) | fail)
                intro v9 W9 o9 _ g9 _
                have m9 : Mod V W9 [] := HJ.out.1.trans (mod_own g9) (fun y hy => .inr (HJ.out.2.1 y (own_mem _ y hy)))
                have H9 := Lib.hid (And.intro o9 m9)
                clear o9 g9 m9
                go_wp2_with fail
                go_loopg [7, 9] (l.length - i) (fun k lv i2 wr => ∃ q : Nat, i ≤ q ∧ q ≤ l.length ∧ k = l.length - q ∧ i2 = .int .i64 q ∧ k31.R 31 wr 0 (fun b => V.heap.size ≤ b) lv ((ac ++ [(⟨⟨v0, v1⟩, ⟨v2, v3⟩, v4, v5⟩ : S31)]) ++ (l.take q).drop i) ∧ Mod V wr [])
                case atStart => exact ⟨i, Nat.le_refl _, by omega, rfl, rfl, by
                  have e : (l.take i).drop i = [] := List.drop_eq_nil_of_le (by rw [List.length_take]; omega)
                  rw [e, List.append_nil]; exact H9.out.1, H9.out.2⟩
                case round =>
                  obtain ⟨q, hq1, hq2, rfl, rfl, hR, hMq⟩ := hrel
                  obtain ⟨B, d, rfl, hd, hC⟩ := Kd.R_reads hR
                  by_cases hql : q < l.length
                  · exfalso; omega
                  · obtain rfl : q = l.length := by omega
                    have hqz : ¬ (l.length : Int) < (l.length : Int) := by omega
                    have hz := HZ.out
                    simp only [Prod.mk.injEq] at hz
                    obtain ⟨hz1, rfl⟩ := hz
                    have e : (ac ++ [(⟨⟨v0, v1⟩, ⟨v2, v3⟩, v4, v5⟩ : S31)]) ++ (l.take l.length).drop i = r1 := by rw [← hz1, List.take_length]; simp
                    rw [e] at hR ⊢
                    have HJ := Lib.hid (And.intro hMq hR)
                    clear hMq hR hC hd e hz1
                    go_wp2
                    go_ret2
                    exact ⟨B, d, rfl, HC2.out.1.trans HJ.out.1 (by simp), .inl (Kd.R_mono HJ.out.2 (fun k hk => Nat.le_trans HC2.out.1.size hk))⟩
/-! the chain's own functions at any row -/
theorem cright_calls {W : World} {A : Option Addr} {c : Nat} {l : List S31} {b : Bool} (hr : Kd.C k31 W A l.length l) (hc : l.length ≤ c) (hl : l.length ≤ 1000000) (hb : rightB l = b) : Calls Try.prog 19 #[.slice A l.length c] W (BoolP W b) := by
  subst hb
  refine (chain_Right.calls (l.length + 4) A c l (rightB l) W hr hc ?_).mono ?_
  · by_cases h : RightP l
    · rw [rightB_yes h]; exact right_yes h (by omega)
    · rw [rightB_no h]; exact right_no (by omega) h (by omega)
  · rintro e W' ⟨rfl, h⟩
    exact ⟨rfl, Mod.of_below h⟩
def CPutP (W : World) (r : List S31 × Int) (e : Ending) (W' : World) : Prop := ∃ A' c', e = .returned (.tuple #[.slice A' r.1.length c', .int .i64 r.2]) ∧ r.1.length ≤ c' ∧ Kd.C k31 W' A' r.1.length r.1 ∧ Mod W W' []
theorem putR_f {l : List S31} (hl : l.length ≤ 1000000) (v : S31) : ∃ k, chain_Put.f k l v.f0.f0 v.f0.f1 v.f1.f0 v.f1.f1 v.f2 v.f3 = some (putR l v) := by
  by_cases h : RightP l
  · exact ⟨2000, by rw [put_r (rightB_yes h)]; exact (put_spec h).1⟩
  · refine ⟨l.length + 4, ?_⟩
    unfold putR chain_Put.f
    rw [rightB_no h, right_no (by omega) h (by omega)]
    rfl
theorem cput_calls {W : World} {A : Option Addr} {c : Nat} {l : List S31} (v0 v1 v2 v3 : Int) (v4 : ByteArray) (v5 : Bool) {r : List S31 × Int} (hr : Kd.C k31 W A l.length l) (hc : l.length ≤ c) (hl : l.length ≤ 1000000) (hs : putR l ⟨⟨v0, v1⟩, ⟨v2, v3⟩, v4, v5⟩ = r) :
    Calls Try.prog 17 #[.slice A l.length c, .agg #[.int .u64 v0, .int .u32 v1, .int .u32 v2, .int .u32 v3, .string v4, .bool v5]] W (CPutP W r) := by
  obtain ⟨k, hk⟩ := putR_f hl ⟨⟨v0, v1⟩, ⟨v2, v3⟩, v4, v5⟩
  rw [hs] at hk
  refine (chain_Put.calls k A c l v0 v1 v2 v3 v4 v5 r.1 r.2 W hr hc hk).mono ?_
  rintro e W' ⟨v, rfl, o, h⟩
  obtain ⟨A', c', rfl, h1, h2⟩ := Kd.R_reads o
  exact ⟨A', c', rfl, h1, h2, Mod.of_below h⟩
theorem cat_calls {W : World} {A : Option Addr} {c : Nat} {l : List S31} (t0 t1 : Int) {r : Int × Int × Int × Int × ByteArray × Bool × Bool} (hr : Kd.C k31 W A l.length l) (hc : l.length ≤ c) (hl : l.length ≤ 1000000) (hs : seeR l t0 t1 = r) :
    Calls Try.prog 16 #[.slice A l.length c, .agg #[.int .u64 t0, .int .u32 t1]] W (AtP W r) := by
  obtain ⟨y0, y1, y2, y3, y4, y5, y6⟩ := r
  have hf : chain_At.f (l.length + 4) l t0 t1 = some (y0, y1, y2, y3, y4, y5, y6) := by
    rw [← hs]
    unfold seeR
    by_cases h : RightP l
    · rw [rightB_yes h, if_pos rfl]; exact at_vw h t0 t1 (by omega)
    · rw [rightB_no h]
      unfold chain_At.f
      rw [right_no (by omega) h (by omega)]
      rfl
  refine (chain_At.calls _ A c l t0 t1 y0 y1 y2 y3 y4 y5 y6 W hr hc hf).mono ?_
  rintro e W' ⟨rfl, h⟩
  exact ⟨rfl, Mod.of_below h⟩
theorem cnew_calls {W : World} {A : Option Addr} {c : Nat} {l : List S31} {r : Int × Int} (hr : Kd.C k31 W A l.length l) (hc : l.length ≤ c) (hl : l.length ≤ 1000000) (hs : nwR l = r) :
    Calls Try.prog 23 #[.slice A l.length c] W (StP W r) := by
  obtain ⟨y0, y1⟩ := r
  have hf : chain_Newest.f (l.length + 4) l = some (y0, y1) := by
    rw [← hs]
    unfold nwR
    by_cases h : RightP l
    · rw [rightB_yes h, if_pos rfl]; exact newest_eq h (by omega)
    · rw [rightB_no h]
      unfold chain_Newest.f
      have h0 : ¬ (l.length : Int) = 0 := fun z => h (by rw [List.eq_nil_of_length_eq_zero (by omega : l.length = 0)]; exact right_nil)
      rw [if_neg h0, right_no (by omega) h (by omega)]
      rfl
  refine (chain_Newest.calls _ A c l y0 y1 W hr hc hf).mono ?_
  rintro e W' ⟨rfl, h⟩
  exact ⟨rfl, Mod.of_below h⟩
def CRowP (W : World) (r : List S31) (e : Ending) (W' : World) : Prop := ∃ A' c', e = .returned (.slice A' r.length c') ∧ r.length ≤ c' ∧ Kd.C k31 W' A' r.length r ∧ Mod W W' []
theorem cprune_calls {W : World} {A : Option Addr} {c : Nat} {l : List S31} (t0 t1 : Int) {r : List S31} (hr : Kd.C k31 W A l.length l) (hc : l.length ≤ c) (hl : l.length ≤ 1000000) (hs : prR l t0 t1 = r) :
    Calls Try.prog 18 #[.slice A l.length c, .agg #[.int .u64 t0, .int .u32 t1]] W (CRowP W r) := by
  have hf : chain_Prune.f (l.length + 4) l t0 t1 = some r := by
    rw [← hs]
    unfold prR
    by_cases h : RightP l
    · rw [rightB_yes h, if_pos rfl]; exact prune_eq h t0 t1 (by omega)
    · rw [rightB_no h]
      unfold chain_Prune.f
      rw [right_no (by omega) h (by omega)]
      rfl
  refine (chain_Prune.calls _ A c l t0 t1 r W hr hc hf).mono ?_
  rintro e W' ⟨v, rfl, o, h⟩
  obtain ⟨A', c', rfl, h1, h2⟩ := Kd.R_reads o
  exact ⟨A', c', rfl, h1, h2, Mod.of_below h⟩
set_option maxRecDepth 100000 in
set_option maxHeartbeats 4000000 in
theorem rsame_calls {W : World} {A B : Option Addr} {n1 n2 c d : Nat} {l : List S31} (e1 : n1 = l.length) (e2 : n2 = l.length) (h1 : Kd.C k31 W A l.length l) (h2 : Kd.C k31 W B l.length l) (hl : l.length ≤ 1000000) :
    Calls Try.prog 14 #[.slice A n1 c, .slice B n2 d] W (BoolP W true) := by
  subst e1
  subst e2
  have H := Lib.hid (And.intro h1 h2)
  clear h1 h2
  go_enter Try.func14, Try.ntmps14
  go_wp2_with fail
  go_loopg [5] l.length (fun k i wr => ∃ j : Nat, j ≤ l.length ∧ k = l.length - j ∧ i = .int .i64 j ∧ Mod W wr [])
  case atStart => exact ⟨0, Nat.zero_le _, rfl, rfl, Mod.refl _ _⟩
  case round =>
    obtain ⟨j, hj, rfl, rfl, hM⟩ := hrel
    have HM := Lib.hid hM
    clear hM
    by_cases hjl : j < l.length
    · have hjz : (j : Int) < (l.length : Int) := by omega
      obtain ⟨ad, rfl, a0, a1, a2, a3, a4, a5⟩ := v_cells (Kd.C_below H.out.1 (Mod.bel HM.out)) j hjl
      obtain ⟨ae, rfl, b0, b1, b2, b3, b4, b5⟩ := v_cells (Kd.C_below H.out.2 (Mod.bel HM.out)) j hjl
      have hw : IntKind.i64.wrap ((j : Int) + 1) = ((j + 1 : Nat) : Int) := by rw [i64w (by omega) (by omega)]; omega
      generalize l[j] = x at *
      go_upto_region 6 with fail
      go_quiet (fail)
      go_wp2
      go_roundg (l.length - (j + 1))
      case measure => omega
      case rel => exact ⟨j + 1, by omega, rfl, by rw [show ((j + 1 : Nat) : Int) = (j : Int) + 1 by omega], HM.out.drewN _⟩
    · obtain rfl : j = l.length := by omega
      have hjz : ¬ (l.length : Int) < (l.length : Int) := by omega
      go_wp2
      go_ret
      exact ⟨rfl, HM.out⟩
end Go.Proofs.Ytomcjcoehahikaa.Sto
