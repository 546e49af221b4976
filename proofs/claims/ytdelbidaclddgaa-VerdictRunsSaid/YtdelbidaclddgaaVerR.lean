/- The layer 'verdict': VerR; a seat's own text, no law of its own. -/
import Derived.Test.YtdelbidaclddgaaVerP
import Derived.Deep.LoopGhost
import Derived.Deep.Cut
import Derived.Lib.Hide
import Derived.StillTailTactics
import Derived.Deep.QuietTactic
import Derived.BigQuiet
import Derived.Outline
import Derived.Deep.RegionWith
import Derived.Deep.RegionHeld3
import Derived.WalkLawsBesides
namespace Go.Proofs.Ytdelbidaclddgaa.Ver
open Go.RowKit Go.Proofs.YtdelbidaclddgaaW.PrintWords Go.Proofs.Ytdelbidaclddgaa.MVerdictRuns Go.Proofs.YtdelbidaclddgaaW.PrintLast
set_option linter.unusedVariables false
set_option linter.unusedSimpArgs false
theorem same_l0 (L : List S37) (hl : L.length ≤ 1000) : ∀ (d j : Nat), j + d = L.length → dovecoteref11_Same.l0 (d + 1) L L (j : Int) = some true
  | 0, j, h => by
    unfold dovecoteref11_Same.l0
    rw [if_neg (by omega)]
  | d + 1, j, h => by
    unfold dovecoteref11_Same.l0
    have hw : wrap64 ((j : Int) + 1) = ((j + 1 : Nat) : Int) := by unfold wrap64; omega
    rw [if_pos (by omega), if_pos (by omega), if_pos (by omega), hw]
    simp only [beq_self_eq_true, Bool.not_true, Bool.or_self, Bool.false_eq_true, if_false]
    exact same_l0 L hl d (j + 1) (by omega)
theorem same_self (L : List S37) (hl : L.length ≤ 1000) : dovecoteref11_Same.f (L.length + 1) L L = some true := by
  unfold dovecoteref11_Same.f
  rw [if_pos rfl]
  exact same_l0 L hl L.length 0 (by omega)
/-! the document's answer for the layer 'verdict', walked -/
attribute [local go_sem high] eqA32 eqA35 eqA37
def ltK (c n : Int) (x : S37) : Prop := x.f0.f0 < c ∨ x.f0.f0 = c ∧ x.f0.f1 < n
def eqK (c n : Int) (x : S37) : Prop := x.f0.f0 = c ∧ x.f0.f1 = n
structure PlaceAt (c n : Int) (L : List S37) (i : Nat) (ok : Bool) : Prop where
  hi : i ≤ L.length
  lo : ∀ m (hm : m < L.length), m < i → ltK c n L[m]
  yes : ok = true → ∃ h : i < L.length, eqK c n L[i]
  no : ok = false → ∀ (h : i < L.length), ¬ eqK c n L[i] ∧ ¬ ltK c n L[i]
theorem PlaceAt.tail {c n : Int} {y : S37} {r : List S37} {i : Nat} {ok : Bool} (h : PlaceAt c n (y :: r) (i + 1) ok) : PlaceAt c n r i ok :=
  ⟨by have := h.hi; simp at this; omega, fun m hm hmi => h.lo (m + 1) (by simp; omega) (by omega), fun e => by
    obtain ⟨h1, h2⟩ := h.yes e
    exact ⟨by simpa using h1, h2⟩, fun e h1 => h.no e (by simp; omega)⟩
theorem place_find {c n : Int} : ∀ {L : List S37} {i : Nat} {ok : Bool}, OrdV L → PlaceAt c n L i ok → findV c n L = if ok = true then L[i]? else none
  | [], i, ok, _, h => by
    cases ok
    · rfl
    · obtain ⟨h1, _⟩ := h.yes rfl; simp at h1
  | y :: r, 0, ok, ho, h => by
    show List.find? _ (y :: r) = _
    rw [List.find?_cons]
    cases ok
    · obtain ⟨h1, h2⟩ := h.no rfl (by simp)
      simp only [List.getElem_cons_zero] at h1 h2
      rw [decide_eq_false (show ¬ (kcV y = c ∧ knV y = n) from h1)]
      show List.find? _ r = none
      rw [List.find?_eq_none]
      intro z hz e
      have e : kcV z = c ∧ knV z = n := by simpa using e
      have := (List.pairwise_cons.1 ho).1 z hz
      apply h2
      unfold ltK
      unfold kcV knV at this e
      omega
    · obtain ⟨h1, h2⟩ := h.yes rfl
      rw [decide_eq_true (show kcV y = c ∧ knV y = n from h2)]
      rfl
  | y :: r, i + 1, ok, ho, h => by
    show List.find? _ (y :: r) = _
    rw [List.find?_cons]
    have hl := h.lo 0 (by simp) (by omega)
    simp only [List.getElem_cons_zero] at hl
    rw [decide_eq_false (show ¬ (kcV y = c ∧ knV y = n) from fun e => by unfold ltK at hl; unfold kcV knV at e; omega)]
    show findV c n r = _
    rw [place_find (List.pairwise_cons.1 ho).2 h.tail, List.getElem?_cons_succ]
theorem place_put {v : S37} : ∀ {L : List S37} {i : Nat}, OrdV L → PlaceAt v.f0.f0 v.f0.f1 L i false → setV v L = L.take i ++ [v] ++ L.drop i
  | [], i, _, h => by
    have := h.hi
    simp at this
    subst this
    rfl
  | y :: r, 0, ho, h => by
    obtain ⟨h1, h2⟩ := h.no rfl (by simp)
    simp only [List.getElem_cons_zero] at h1 h2
    show vset kcV knV v (y :: r) = _
    rw [vset, if_pos (by unfold eqK at h1; unfold ltK at h2; unfold kcV knV; omega)]
    rfl
  | y :: r, i + 1, ho, h => by
    have hl := h.lo 0 (by simp) (by omega)
    simp only [List.getElem_cons_zero] at hl
    show vset kcV knV v (y :: r) = _
    rw [vset, if_neg (by unfold ltK at hl; unfold kcV knV; omega), if_neg (by unfold ltK at hl; unfold kcV knV; omega)]
    show y :: setV v r = _
    rw [place_put (List.pairwise_cons.1 ho).2 h.tail]
    rfl
theorem place_set {v : S37} : ∀ {L : List S37} {i : Nat}, OrdV L → PlaceAt v.f0.f0 v.f0.f1 L i true → setV v L = L.set i v
  | [], i, _, h => by obtain ⟨h1, _⟩ := h.yes rfl; simp at h1
  | y :: r, 0, ho, h => by
    obtain ⟨h1, h2⟩ := h.yes rfl
    simp only [List.getElem_cons_zero] at h2
    show vset kcV knV v (y :: r) = _
    rw [vset, if_neg (by unfold eqK at h2; unfold kcV knV; omega), if_pos (by unfold eqK at h2; unfold kcV knV; omega)]
    rfl
  | y :: r, i + 1, ho, h => by
    have hl := h.lo 0 (by simp) (by omega)
    simp only [List.getElem_cons_zero] at hl
    show vset kcV knV v (y :: r) = _
    rw [vset, if_neg (by unfold ltK at hl; unfold kcV knV; omega), if_neg (by unfold ltK at hl; unfold kcV knV; omega)]
    show y :: setV v r = _
    rw [place_set (List.pairwise_cons.1 ho).2 h.tail]
    rfl
/-- the document's book: a box that holds a row of the call's own -/
def RBk (W : World) (g : Nat) (L : List S37) (fp : List Nat) : Prop := BoxF k37 37 29 W g L fp
theorem plain37 : Plain k37 := fun _ _ _ _ _ _ _ _ h => by
  have e := k37_openM h
  subst e
  exact k37_mkM _ _ _ _
theorem RBk.get {W : World} {g : Nat} {L : List S37} {fp : List Nat} (h : RBk W g L fp) : ∃ A c, W.cell? ⟨g, 0, none⟩ = some (.slice A L.length c) ∧ L.length ≤ c ∧ Kd.C k37 W A L.length L := by
  obtain ⟨v, h1, h2, h3, rfl⟩ := h
  obtain ⟨A, c, rfl, hc, hC⟩ := h2.C
  exact ⟨A, c, (blk_cell h1 0).trans rfl, hc, hC⟩
theorem RBk.mod {W W' : World} {g : Nat} {L : List S37} {fp fp2 : List Nat} (h : RBk W g L fp) (m : Mod W W' fp2) (hd : ∀ x ∈ fp, x ∉ fp2) : RBk W' g L fp := BoxF.mod plain37 h m hd
theorem rright_calls (p l : Int) (w : World) : Calls Try.prog 44 #[.agg #[.int .u64 p, .int .u32 l]] w fun e w' => e = .returned (.bool (rightB p l)) ∧ Mod w w' [] :=
  (dovecoteref01_Right.calls p l _ w (by
    unfold dovecoteref01_Right.f rightB
    by_cases h : p ≤ 281474976710656 <;> simp [h])).mono fun e w' ⟨h1, h2⟩ => ⟨h1, Mod.of_below h2⟩
theorem rcomm_calls (v : S37) (w : World) : Calls Try.prog 45 #[encV v] w fun e w' => e = .returned (.bool (commB v)) ∧ Mod w w' [] :=
  (dovecoteref11_committed.calls _ _ _ _ _ _ _ _ _ w rfl).mono fun e w' ⟨h1, h2⟩ => ⟨h1, Mod.of_below h2⟩
theorem rless_calls (a b c d : Int) (w : World) : Calls Try.prog 51 #[.agg #[.int .u64 a, .int .u32 b], .agg #[.int .u64 c, .int .u32 d]] w fun e w' => e = .returned (.bool (lessB a b c d)) ∧ Mod w w' [] :=
  (dovecoteref01_Less.calls a b c d _ w (by
    unfold dovecoteref01_Less.f lessB
    by_cases h1 : a < c
    · simp [h1]
    · by_cases h2 : a = c <;> simp [h1, h2])).mono fun e w' ⟨h1, h2⟩ => ⟨h1, Mod.of_below h2⟩
theorem among_l0 (l : List S32) (c n : Int) (hl : l.length ≤ 4611686018427387904) : ∀ (d j : Nat), j + d = l.length → dovecoteref11_among.l0 (d + 1) l (j : Int) c n = some (hasB (l.drop j) c n)
  | 0, j, h => by
    unfold dovecoteref11_among.l0
    rw [if_neg (by omega), show l.drop j = [] from List.drop_eq_nil_of_le (by omega)]
    rfl
  | d + 1, j, h => by
    have hj : j < l.length := by omega
    have hrd : rd_T32 l (j : Int) = l[j] := by
      unfold rd_T32
      rw [show ((j : Int)).toNat = j from by omega]
      exact (List.getElem_eq_getD _).symm
    have hw : wrap64 ((j : Int) + 1) = ((j + 1 : Nat) : Int) := by unfold wrap64; omega
    have ih := among_l0 l c n hl d (j + 1) (by omega)
    rw [List.drop_eq_getElem_cons hj]
    unfold dovecoteref11_among.l0
    rw [if_pos (by omega), if_pos (by omega), hrd, hw, ih]
    unfold hasB
    rw [List.any_cons]
    by_cases e1 : l[j].f0 = c
    · by_cases e2 : l[j].f1 = n
      · simp [e1, e2]
      · have e3 : ¬ n = l[j].f1 := fun e => e2 e.symm
        simp [e1, e2, e3]
    · have e3 : ¬ c = l[j].f0 := fun e => e1 e.symm
      simp [e1, e3]
theorem ramong_calls (A : Option Addr) (k : Nat) (l : List S32) (c n : Int) (w : World) (hr : Kd.C k32 w A l.length l) (hk : l.length ≤ k) (hl : l.length ≤ 4611686018427387904) :
    Calls Try.prog 52 #[.slice A l.length k, .agg #[.int .u32 c, .int .u32 n]] w fun e w' => e = .returned (.bool (hasB l c n)) ∧ Mod w w' [] :=
  (dovecoteref11_among.calls (l.length + 1) A k l c n _ w hr hk (among_l0 l c n hl l.length 0 (by omega))).mono fun e w' ⟨h1, h2⟩ => ⟨h1, Mod.of_below h2⟩
structure Pl (W V : World) (g q : Nat) (c n : Int) (A : Option Addr) (k : Nat) (L : List S37) : Prop where
  hM : Mod W V []
  hb : V.heap[q]? = some (.cells #[.int .u32 c, .int .u32 n] 32 (0, 0))
  hg : V.cell? ⟨g, 0, none⟩ = some (.slice A L.length k)
  hC : Kd.C k37 V A L.length L
theorem cellM {W V : World} {b : Nat} {v : Value} (h : W.cell? ⟨b, 0, none⟩ = some v) (m : Mod W V []) : V.cell? ⟨b, 0, none⟩ = some v := by
  rw [World.cell?_of_block (w := W) (m.block b (World.block_lt_of_cell? _ _ h) (by simp))]; exact h
theorem Pl.mod {W V V' : World} {g q : Nat} {c n : Int} {A : Option Addr} {k : Nat} {L : List S37} (h : Pl W V g q c n A k L) (m : Mod V V' []) : Pl W V' g q c n A k L :=
  ⟨h.hM.trans m (fun _ hk => by cases hk), m.at_ h.hb (by simp), cellM h.hg m, Kd.C_below h.hC m.bel⟩
theorem Pl.q0 {W V : World} {g q : Nat} {c n : Int} {A : Option Addr} {k : Nat} {L : List S37} (h : Pl W V g q c n A k L) : V.cell? ⟨q, 0, none⟩ = some (.int .u32 c) := (blk_cell h.hb 0).trans rfl
theorem Pl.q1 {W V : World} {g q : Nat} {c n : Int} {A : Option Addr} {k : Nat} {L : List S37} (h : Pl W V g q c n A k L) : V.cell? ⟨q, 1, none⟩ = some (.int .u32 n) := (blk_cell h.hb 1).trans rfl
def PlP (W : World) (c n : Int) (L : List S37) (e : Ending) (W' : World) : Prop := ∃ (i : Nat) (ok : Bool), PlaceAt c n L i ok ∧ e = .returned (.tuple #[.int .i64 i, .bool ok]) ∧ Mod W W' []
set_option maxHeartbeats 8000000 in
set_option maxRecDepth 100000 in
theorem place_calls {W : World} {g : Nat} {A : Option Addr} {k : Nat} {L : List S37} (c n : Int) (hg : W.cell? ⟨g, 0, none⟩ = some (.slice A L.length k)) (hC : Kd.C k37 W A L.length L) (hl : L.length ≤ 1000000) :
    Calls Try.prog 46 #[.pointer (some ⟨g, 0, none⟩), .agg #[.int .u32 c, .int .u32 n]] W (PlP W c n L) := by
  have m0 := (Mod.refl W []).alloc (.cells #[.int .u32 c, .int .u32 n] 32)
  have H0 : Hid (Pl W (W.alloc (.cells #[.int .u32 c, .int .u32 n] 32)) g W.heap.size c n A k L) := Lib.hid ⟨m0, blk_new W _, cellM hg m0, Kd.C_below hC m0.bel⟩
  clear m0 hg hC
  go_enter Try.func46, Try.ntmps46
  go_upto_region 1 with fail
  generalize W.alloc (.cells #[.int .u32 c, .int .u32 n] 32) = W1 at *
  generalize W.heap.size = q at *
  go_wp2_with fail
  go_loopg [6] L.length (fun kk i wr => ∃ (j : Nat), j ≤ L.length ∧ kk = L.length - j ∧ i = .int .i64 j ∧ (∀ m (hm : m < L.length), m < j → ltK c n L[m]) ∧ Mod W1 wr [])
  case atStart => exact ⟨0, Nat.zero_le _, rfl, rfl, fun m _ hm => by omega, Mod.refl _ _⟩
  case round =>
    obtain ⟨j, hj, rfl, rfl, hlo, hM⟩ := hrel
    have H1 := Lib.hid (H0.out.mod hM)
    have HL := Lib.hid (And.intro hlo hM)
    clear hlo hM
    have b0 := H1.out.hg
    have b1 := H1.out.q0
    have b2 := H1.out.q1
    by_cases hjl : j < L.length
    · have hjz : (j : Int) < (L.length : Int) := by omega
      have hw : IntKind.i64.wrap ((j : Int) + 1) = ((j + 1 : Nat) : Int) := by rw [i64w (by omega) (by omega)]; omega
      obtain ⟨ad, rfl, a0, a1, _⟩ := vd_cells H1.out.hC j hjl
      by_cases hlt : ltK c n L[j]
      · have HN : Hid (∀ m (hm : m < L.length), m < j + 1 → ltK c n L[m]) := Lib.hid fun m hm hmj => by
          by_cases e : m = j
          · subst e; exact hlt
          · exact HL.out.1 m hm (by omega)
        unfold ltK at hlt
        generalize L[j].f0.f0 = x0 at *
        generalize L[j].f0.f1 = x1 at *
        rcases hlt with h1 | ⟨h1, h2⟩
        · go_upto_region 2 with fail
          go_quiet (fail)
          go_wp2
          go_roundg (L.length - (j + 1))
          case measure => omega
          case rel => exact ⟨j + 1, by omega, rfl, by rw [show ((j + 1 : Nat) : Int) = (j : Int) + 1 by omega], HN.out, HL.out.2.drewN _⟩
        · subst h1
          have z1 : ¬ (x0 < x0) := by omega
          go_upto_region 2 with fail
          go_quiet (fail)
          go_wp2
          go_roundg (L.length - (j + 1))
          case measure => omega
          case rel => exact ⟨j + 1, by omega, rfl, by rw [show ((j + 1 : Nat) : Int) = (j : Int) + 1 by omega], HN.out, HL.out.2.drewN _⟩
      · obtain ⟨ok, hok⟩ : ∃ ok : Bool, (L[j].f0.f0 == c && (L[j].f0.f1 == n)) = ok := ⟨_, rfl⟩
        have HP : Hid (PlaceAt c n L j ok) := Lib.hid ⟨by omega, HL.out.1, fun e => ⟨hjl, by rw [e] at hok; unfold eqK; simpa using hok⟩, fun e _ => ⟨fun e2 => by rw [e] at hok; unfold eqK at e2; rw [e2.1, e2.2] at hok; simp at hok, hlt⟩⟩
        have hlt1 : ¬ (L[j].f0.f0 < c) := fun e => hlt (.inl e)
        have hlt2 : L[j].f0.f0 = c → ¬ (L[j].f0.f1 < n) := fun e e2 => hlt (.inr ⟨e, e2⟩)
        clear hlt
        generalize L[j].f0.f0 = x0 at *
        generalize L[j].f0.f1 = x1 at *
        by_cases h1 : x0 = c
        · subst h1
          have h2 := hlt2 rfl
          have hb : (x0 == x0) = true := by simp
          rw [hb, Bool.true_and] at hok
          clear hlt2
          go_upto_region 2 with fail
          go_quiet (fail)
          go_upto_region 4 with fail
          go_quiet (fail)
          go_wp2
          go_ret2
          exact ⟨j, ok, HP.out, rfl, by (with_reducible repeat (first | exact H1.out.hM | refine Mod.drewN ?_ _ | refine Mod.drew ?_))⟩
        · have hb : (x0 == c) = false := by simpa using h1
          rw [hb, Bool.false_and] at hok
          subst hok
          clear hlt2
          go_upto_region 2 with fail
          go_quiet (fail)
          go_upto_region 4 with fail
          go_quiet (fail)
          go_wp2
          go_ret2
          exact ⟨j, false, HP.out, rfl, by (with_reducible repeat (first | exact H1.out.hM | refine Mod.drewN ?_ _ | refine Mod.drew ?_))⟩
    · obtain rfl : j = L.length := by omega
      have hzz : ¬ ((L.length : Int) < (L.length : Int)) := by omega
      have HP : Hid (PlaceAt c n L L.length false) := Lib.hid ⟨Nat.le_refl _, HL.out.1, fun e => (by cases e), fun _ h => absurd h (by omega)⟩
      go_upto_region 2 with fail
      go_quiet (fail)
      go_upto_region 4 with fail
      go_quiet (fail)
      go_wp2
      go_ret2
      exact ⟨L.length, false, HP.out, rfl, by (with_reducible repeat (first | exact H1.out.hM | refine Mod.drewN ?_ _ | refine Mod.drew ?_))⟩
structure Po (W V : World) (g q : Nat) (c n : Int) (A : Option Addr) (k : Nat) (L : List S37) : Prop where
  hP : Pl W V g q c n A k L
  hz : BV V (q + 1) z37
  hq : W.heap.size ≤ q
theorem Po.mod {W V V' : World} {g q : Nat} {c n : Int} {A : Option Addr} {k : Nat} {L : List S37} (h : Po W V g q c n A k L) (m : Mod V V' []) : Po W V' g q c n A k L := ⟨h.hP.mod m, h.hz.mod m (by simp), h.hq⟩
set_option maxHeartbeats 8000000 in
set_option maxRecDepth 100000 in
theorem rof_calls {W : World} {g : Nat} {L : List S37} {fp : List Nat} (c n : Int) (h : RBk W g L fp) (ho : OrdV L) (hl : L.length ≤ 1000000) {x : S37} {b : Bool} (hx : (findV c n L).getD z37 = x) (hb : (findV c n L).isSome = b) :
    Calls Try.prog 21 #[.pointer (some ⟨g, 0, none⟩), .agg #[.int .u32 c, .int .u32 n]] W fun e W' => e = .returned (.tuple #[.agg #[.int .u32 x.f0.f0, .int .u32 x.f0.f1, .int .u64 x.f1.f0, .int .u32 x.f1.f1, .int .u64 x.f2.f0, .int .u32 x.f2.f1, .int .u8 x.f3, .bool x.f4], .bool b]) ∧ Mod W W' [] := by
  obtain ⟨A, k, hg, _, hC⟩ := h.get
  have m0 := (Mod.refl W []).alloc (.cells #[.int .u32 c, .int .u32 n] 32)
  have m1 := (Mod.refl (W.alloc (.cells #[.int .u32 c, .int .u32 n] 32)) []).alloc (.cells #[.int .u32 0, .int .u32 0, .int .u64 0, .int .u32 0, .int .u64 0, .int .u32 0, .int .u8 0, .bool false] 37)
  have H0 : Hid (Pl W (W.alloc (.cells #[.int .u32 c, .int .u32 n] 32)) g W.heap.size c n A k L) := Lib.hid ⟨m0, blk_new W _, cellM hg m0, Kd.C_below hC m0.bel⟩
  have b4 := blk_new (W.alloc (.cells #[.int .u32 c, .int .u32 n] 32)) (.cells #[.int .u32 0, .int .u32 0, .int .u64 0, .int .u32 0, .int .u64 0, .int .u32 0, .int .u8 0, .bool false] 37)
  have hs3 : (W.alloc (.cells #[.int .u32 c, .int .u32 n] 32)).heap.size = W.heap.size + 1 := by simp
  rw [hs3] at b4
  have H1 : Hid (Po W ((W.alloc (.cells #[.int .u32 c, .int .u32 n] 32)).alloc (.cells #[.int .u32 0, .int .u32 0, .int .u64 0, .int .u32 0, .int .u64 0, .int .u32 0, .int .u8 0, .bool false] 37)) g W.heap.size c n A k L) := Lib.hid ⟨H0.out.mod m1, b4, Nat.le_refl _⟩
  have HO := Lib.hid (And.intro ho (And.intro hx hb))
  clear m0 m1 b4 hs3 H0 hg hC h ho hx hb
  go_enter Try.func21, Try.ntmps21
  go_upto_region 1 with fail
  generalize (W.alloc (.cells #[.int .u32 c, .int .u32 n] 32)).alloc (.cells #[.int .u32 0, .int .u32 0, .int .u64 0, .int .u32 0, .int .u64 0, .int .u32 0, .int .u8 0, .bool false] 37) = W1 at *
  generalize W.heap.size = q at *
  have q0 := H1.out.hP.q0
  have q1 := H1.out.hP.q1
  go_wp2_with fail
  refine (place_calls c n H1.out.hP.hg H1.out.hP.hC hl).mono ?_
  rintro e W2 ⟨i, ok, hpl, rfl, m2⟩
  have H2 := Lib.hid (H1.out.mod m2)
  have hf := place_find HO.out.1 hpl
  clear q0 q1 m2 H1
  have z0 := H2.out.hz
  obtain ⟨c0, c1, c2, c3, c4, c5, c6, c7⟩ := z0.all
  have fz := blk_frozen z0
  simp only [z37, z32, z35] at c0 c1 c2 c3 c4 c5 c6 c7
  cases ok
  · rw [if_neg (by simp)] at hf
    have HZ : Hid (z37 = x ∧ false = b) := Lib.hid (by have h := HO.out.2; rw [hf] at h; exact h)
    clear hf hpl
    go_wp2
    refine bodyPost_ret (results_ct rfl _ _ (q + 1) 37 _ (0, 0) _ rfl (z0.put8 z37) Try.underlying37 rfl (by kernel_rfl)) rfl ?_
    obtain ⟨rfl, rfl⟩ := HZ.out
    exact ⟨rfl, H2.out.hP.hM.put8 (.inr (by have := H2.out.hq; omega)) z37⟩
  · obtain ⟨hi, hk⟩ := hpl.yes rfl
    rw [if_pos rfl, List.getElem?_eq_getElem hi] at hf
    have HZ : Hid (L[i] = x ∧ true = b) := Lib.hid (by have h := HO.out.2; rw [hf] at h; exact h)
    have b0 := H2.out.hP.hg
    obtain ⟨ad, rfl, a0, a1, a2, a3, a4, a5, a6, a7⟩ := vd_cells H2.out.hP.hC i hi
    have hiz : (i : Int) < (L.length : Int) := by omega
    clear hf hpl hk
    generalize L[i] = y at *
    go_wp2
    refine bodyPost_ret (results_ct rfl _ _ (q + 1) 37 _ (0, 0) _ rfl (z0.put8 y) Try.underlying37 rfl (by kernel_rfl)) rfl ?_
    obtain ⟨rfl, rfl⟩ := HZ.out
    exact ⟨rfl, H2.out.hP.hM.put8 (.inr (by have := H2.out.hq; omega)) y⟩
attribute [local go_sem high] eqA32 eqA35 eqA37
/-- the place of one verdict in the document's book, and what a write of its last cell leaves -/
theorem RBk.at_ {W : World} {g : Nat} {L : List S37} {fp : List Nat} (h : RBk W g L fp) (i : Nat) (hi : i < L.length) : ∃ gb cap, W.cell? ⟨g, 0, none⟩ = some (.slice (some ⟨gb, 0, none⟩) L.length cap) ∧
    (W.cell? ⟨gb, i * 8, none⟩ = some (.int .u32 L[i].f0.f0) ∧ W.cell? ⟨gb, i * 8 + 1, none⟩ = some (.int .u32 L[i].f0.f1) ∧ W.cell? ⟨gb, i * 8 + 2, none⟩ = some (.int .u64 L[i].f1.f0) ∧ W.cell? ⟨gb, i * 8 + 3, none⟩ = some (.int .u32 L[i].f1.f1) ∧
      W.cell? ⟨gb, i * 8 + 4, none⟩ = some (.int .u64 L[i].f2.f0) ∧ W.cell? ⟨gb, i * 8 + 5, none⟩ = some (.int .u32 L[i].f2.f1) ∧ W.cell? ⟨gb, i * 8 + 6, none⟩ = some (.int .u8 L[i].f3) ∧ W.cell? ⟨gb, i * 8 + 7, none⟩ = some (.bool L[i].f4)) ∧
    W.frozen? ⟨gb, i * 8 + 7, none⟩ = false ∧ ∀ b, RBk (W.setCell ⟨gb, i * 8 + 7, none⟩ (.bool b)) g (L.set i { L[i] with f4 := b }) fp ∧ Mod W (W.setCell ⟨gb, i * 8 + 7, none⟩ (.bool b)) fp := by
  obtain ⟨v, h1, h2, h3, rfl⟩ := h
  obtain ⟨gb, cap, rfl, _, hlt, hb⟩ := Kd.R_form h2 (by omega)
  obtain ⟨c, hcl, hM, hcc, hfr⟩ := Kd.R_elem h2 z37 (i : Int) (by omega) (by omega)
  rw [Int.toNat_natCast, List.getD_eq_getElem?_getD, List.getElem?_eq_getElem hi, Option.getD_some] at hM
  have hc := k37_openM hM
  subst hc
  rw [Int.toNat_natCast] at hcc hfr
  have hne : g ≠ gb := fun e => h3 (by subst e; simp [ownList])
  refine ⟨gb, cap, (blk_cell h1 0).trans rfl, ⟨hcc 0 _ rfl, hcc 1 _ rfl, hcc 2 _ rfl, hcc 3 _ rfl, hcc 4 _ rfl, hcc 5 _ rfl, hcc 6 _ rfl, hcc 7 _ rfl⟩, hfr 7, fun b => ?_⟩
  have hs := Kd.R_seg h2 (i : Int) (by omega) (by omega) (seg := [.bool b]) (j := 7) (x' := { L[i] with f4 := b }) (okp := fun _ => False) rfl (by rw [Int.toNat_natCast]; exact hcc) (by show 7 + 1 ≤ 8; omega) (k37_mkM W 0 _ { L[i] with f4 := b }) (fun _ hk => hk.elim)
  rw [Int.toNat_natCast] at hs
  have hs1 : Row k37 37 (W.setCell ⟨gb, i * 8 + 7, none⟩ (.bool b)) (.slice (some ⟨gb, 0, none⟩) L.length cap) (L.set i { L[i] with f4 := b }) := hs.1
  have hm : Mod W (W.setCell ⟨gb, i * 8 + 7, none⟩ (.bool b)) [gb] := (Mod.refl W [gb]).setCell (p := ⟨gb, i * 8 + 7, none⟩) (.inl (by simp)) _
  exact ⟨⟨.slice (some ⟨gb, 0, none⟩) L.length cap, hm.at_ h1 (by simpa using hne), hs1, h3, rfl⟩, hm.mono (fun k hk => .inl (by simp at hk; subst hk; simp [ownList]))⟩
structure Pd (W V : World) (g q : Nat) (c n : Int) (L : List S37) (fp : List Nat) : Prop where
  hM : Mod W V []
  hb : V.heap[q]? = some (.cells #[.int .u32 c, .int .u32 n] 32 (0, 0))
  hB : RBk V g L fp
theorem Pd.mod {W V V' : World} {g q : Nat} {c n : Int} {L : List S37} {fp : List Nat} (h : Pd W V g q c n L fp) (m : Mod V V' []) : Pd W V' g q c n L fp :=
  ⟨h.hM.trans m (fun _ hk => by cases hk), m.at_ h.hb (by simp), h.hB.mod m (by simp)⟩
def RDoneP (W : World) (g : Nat) (r : Bool × List S37) (fp : List Nat) (e : Ending) (W' : World) : Prop := e = .returned (.bool r.1) ∧ RBk W' g r.2 fp ∧ Mod W W' fp
set_option maxHeartbeats 8000000 in
set_option maxRecDepth 100000 in
theorem rdone_calls {W : World} {g : Nat} {L : List S37} {fp : List Nat} (c n : Int) (h : RBk W g L fp) (ho : OrdV L) (hl : L.length ≤ 1000000) {r : Bool × List S37} (hr : doneR L c n = r) :
    Calls Try.prog 17 #[.pointer (some ⟨g, 0, none⟩), .agg #[.int .u32 c, .int .u32 n]] W (RDoneP W g r fp) := by
  have m0 := (Mod.refl W []).alloc (.cells #[.int .u32 c, .int .u32 n] 32)
  have H1 : Hid (Pd W (W.alloc (.cells #[.int .u32 c, .int .u32 n] 32)) g W.heap.size c n L fp) := Lib.hid ⟨m0, blk_new W _, h.mod m0 (by simp)⟩
  have HO := Lib.hid (And.intro ho hr)
  clear m0 h ho hr
  go_enter Try.func17, Try.ntmps17
  go_upto_region 1 with fail
  generalize W.alloc (.cells #[.int .u32 c, .int .u32 n] 32) = W1 at *
  generalize W.heap.size = q at *
  have q0 : W1.cell? ⟨q, 0, none⟩ = some (.int .u32 c) := (blk_cell H1.out.hb 0).trans rfl
  have q1 : W1.cell? ⟨q, 1, none⟩ = some (.int .u32 n) := (blk_cell H1.out.hb 1).trans rfl
  obtain ⟨A, k, hg, _, hC⟩ := H1.out.hB.get
  go_wp2_with fail
  refine (place_calls c n hg hC hl).mono ?_
  rintro e W2 ⟨i, ok, hpl, rfl, m2⟩
  have H2 := Lib.hid (H1.out.mod m2)
  have hf := place_find HO.out.1 hpl
  clear q0 q1 m2 H1 hg hC
  cases ok
  · rw [if_neg (by simp)] at hf
    have HZ : Hid ((false, L) = r) := Lib.hid (by have h := HO.out.2; unfold doneR at h; rw [hf] at h; exact h)
    clear hf hpl
    go_wp2
    go_ret
    rw [← HZ.out]
    exact ⟨rfl, H2.out.hB, H2.out.hM.mono (fun _ hk => by cases hk)⟩
  · obtain ⟨hi, hk⟩ := hpl.yes rfl
    rw [if_pos rfl, List.getElem?_eq_getElem hi] at hf
    have HZ : Hid ((if commB L[i] = true then (true, L.set i { L[i] with f4 := true }) else (false, L)) = r) := Lib.hid (by
      have h := HO.out.2
      unfold doneR at h
      rw [hf] at h
      have e : PlaceAt ({ L[i] with f4 := true } : S37).f0.f0 ({ L[i] with f4 := true } : S37).f0.f1 L i true := by
        show PlaceAt L[i].f0.f0 L[i].f0.f1 L i true
        rw [hk.1, hk.2]; exact hpl
      rw [← place_set HO.out.1 e]
      exact h)
    obtain ⟨gb, cap, d0, ⟨a0, a1, a2, a3, a4, a5, a6, a7⟩, _, _⟩ := H2.out.hB.at_ i hi
    have hiz : (i : Int) < (L.length : Int) := by omega
    clear hf hpl hk
    obtain ⟨y, hy⟩ : ∃ y, L[i] = y := ⟨_, rfl⟩
    rw [hy] at a0 a1 a2 a3 a4 a5 a6 a7 HZ
    have HY := Lib.hid hy
    clear hy
    go_wp2_with fail
    refine (rcomm_calls y W2).mono ?_
    rintro e W3 ⟨rfl, m3⟩
    have H3 := Lib.hid (H2.out.mod m3)
    clear H2 m3 d0 a0 a1 a2 a3 a4 a5 a6 a7
    obtain ⟨gb, cap, d0, _, hfz, hset⟩ := H3.out.hB.at_ i hi
    rw [HY.out] at hset
    have HW := Lib.hid (hset true)
    clear hset
    cases hcq : commB y
    · go_wp2
      go_ret
      rw [← HZ.out, hcq, if_neg (by simp)]
      exact ⟨rfl, H3.out.hB, H3.out.hM.mono (fun _ hk => by cases hk)⟩
    · go_wp2
      go_ret
      rw [← HZ.out, hcq, if_pos rfl]
      exact ⟨rfl, HW.out.1, (H3.out.hM.mono (fun _ hk => by cases hk)).trans HW.out.2 (fun k hk => .inl hk)⟩
end Go.Proofs.Ytdelbidaclddgaa.Ver
