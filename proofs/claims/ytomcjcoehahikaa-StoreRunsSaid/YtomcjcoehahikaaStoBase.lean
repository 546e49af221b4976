/- The layer 'store': its frame, its methods walked; a seat's own text, no law of its own. -/
import Derived.Test.YtomcjcoehahikaaOrdMaps
import Derived.Test.YtomcjcoehahikaaStoChain
import Derived.Deep.LoopGhost
import Derived.Deep.Cut
import Derived.Lib.Hide
import Derived.StillTailTactics
import Derived.Deep.QuietTactic
import Derived.BigQuiet
import Derived.Outline
import Derived.Deep.RegionWith
import Derived.Deep.RegionHeld3
import Derived.WalkLawsBesides
namespace Go.Proofs.Ytomcjcoehahikaa.Sto
open Go.RowKit Go.Proofs.YtomcjcoehahikaaW.PrintWords Go.Proofs.Ytomcjcoehahikaa.Ord Go.Proofs.Ytomcjcoehahikaa.MStoreRuns Go.Proofs.YtomcjcoehahikaaW.PrintLast
set_option linter.unusedVariables false
set_option linter.unusedSimpArgs false
theorem Mod.below {W W' : World} {fp : List Nat} (h : Mod W W' fp) {B : Nat} (hB : ∀ k ∈ fp, B ≤ k) (hs : B ≤ W.heap.size) : Below B W W' :=
  ⟨h.os, h.tape, h.output, h.size, fun k hk => h.block k (by omega) (fun hm => by have := hB k hm; omega)⟩

theorem Mod.bel {W W' : World} (h : Mod W W' []) : Below W.heap.size W W' := h.below (fun k hk => by simp at hk) (Nat.le_refl _)
theorem Mod.of_drawn {W W' : World} (h : Drawn0 W W') : Mod W W' [] := by
  obtain ⟨⟨n, rfl⟩⟩ := h
  exact (Mod.refl _ _).drewN n
theorem own_own' (v : Value) : ∀ y, v.ownBlock = some y → y ∈ ownList v := by
  intro y hy
  unfold Value.ownBlock at hy
  split at hy
  · simp only [Option.some.injEq] at hy
    simp [ownList, hy]
  · cases hy
theorem own_mem (v : Value) : ∀ y ∈ ownList v, v.ownBlock = some y := by
  intro y hy
  unfold ownList at hy
  split at hy
  · simp only [List.mem_singleton] at hy; subst hy; rfl
  · simp at hy
/-- A kind whose elements lead to no memory. -/
def Plain {α : Type} (d : Kd α) : Prop := ∀ (w w' : World) (b b' : Nat) (ok ok' : Nat → Prop) (x : α) (cs : List Value), d.M w b ok x cs → d.M w' b' ok' x cs
/-- A row of the call's own. -/
def Row {α : Type} (d : Kd α) (e : Nat) (W : World) (v : Value) (l : List α) : Prop := d.R e W 0 (fun _ => True) v l
theorem Row.nil {α : Type} (d : Kd α) (e : Nat) (W : World) : Row d e W (.slice none 0 0) [] := Kd.R_nil _ _ _ _ _
theorem Row.of {α : Type} {d : Kd α} {e base : Nat} {W : World} {ok : Nat → Prop} {v : Value} {l : List α} (h : d.R e W base ok v l) : Row d e W v l := Kd.R_mono (Kd.R_lower h (Nat.zero_le _)) (fun _ _ => trivial)
theorem Row.lt {α : Type} {d : Kd α} {e : Nat} {W : World} {v : Value} {l : List α} (h : Row d e W v l) : ∀ y ∈ ownList v, y < W.heap.size := fun y hy => Kd.R_lt h y (own_mem v y hy)
theorem Row.C {α : Type} {d : Kd α} {e : Nat} {W : World} {v : Value} {l : List α} (h : Row d e W v l) : ∃ A c, v = .slice A l.length c ∧ l.length ≤ c ∧ Kd.C d W A l.length l := Kd.R_reads h
theorem Row.mod {α : Type} {d : Kd α} {e : Nat} {W W' : World} {v : Value} {l : List α} {fp : List Nat} (hp : Plain d) (h : Row d e W v l) (m : Mod W W' fp) (hd : ∀ y ∈ ownList v, y ∉ fp) : Row d e W' v l :=
  Kd.R_mono (Kd.R_step (Kd.R_flat (fun hx => hp _ _ _ _ _ _ _ _ hx) h (ok' := fun k => k ∈ ownList v) (fun k hk _ => own_own' v k hk)) (fun k hk hlt => m.block k hlt (hd k hk))) (fun _ _ => trivial)
theorem plain_scalar {α : Type} (enc : α → Value) (h1 : ∀ x, (enc x).oneCell' = true) : Plain (Kd.scalar enc h1) := fun _ _ _ _ _ _ _ _ h => h
theorem plain_string : Plain Kd.string := plain_scalar _ _
theorem plain_int (k : IntKind) : Plain (Kd.int k) := plain_scalar _ _
theorem plain_bool : Plain Kd.bool := plain_scalar _ _
theorem Row.form {α : Type} {d : Kd α} {e : Nat} {W : World} {v : Value} {l : List α} (h : Row d e W v l) : ∃ A n c, v = .slice A n c := by
  obtain ⟨A, c, rfl, _⟩ := h.C
  exact ⟨A, _, c, rfl⟩
theorem plainV : Plain k31 := plain31
theorem plainP : Plain k60 := plain60
/-- A row of versions that lies in blocks of rfp. -/
def RowOK (W : World) (rfp : List Nat) (v : Sv) (l : List S31) : Prop := Row k31 31 W (.slice v.1 v.2.1 v.2.2) l ∧ ∀ y ∈ ownList (.slice v.1 v.2.1 v.2.2), y ∈ rfp
theorem RowOK.mod {W W' : World} {rfp fp : List Nat} {v : Sv} {l : List S31} (h : RowOK W rfp v l) (m : Mod W W' fp) (hd : ∀ y ∈ rfp, y ∉ fp) : RowOK W' rfp v l := ⟨h.1.mod plainV m (fun y hy => hd y (h.2 y hy)), h.2⟩
theorem RowOK.mono {W : World} {rfp rfp' : List Nat} {v : Sv} {l : List S31} (h : RowOK W rfp v l) (hs : ∀ y ∈ rfp, y ∈ rfp') : RowOK W rfp' v l := ⟨h.1, fun y hy => hs y (h.2 y hy)⟩
/-- Keys with chains. -/
abbrev St := List (ByteArray × List S31)
def RowsOf (W : World) (rfp : List Nat) : List (ByteArray × Sv) → St → Prop
  | [], [] => True
  | (k, v) :: M, (k', l) :: L => k = k' ∧ RowOK W rfp v l ∧ RowsOf W rfp M L
  | _, _ => False
theorem RowsOf.ind {W W' : World} {rfp rfp' : List Nat} (hi : ∀ v l, RowOK W rfp v l → RowOK W' rfp' v l) : ∀ {M : List (ByteArray × Sv)} {L : St}, RowsOf W rfp M L → RowsOf W' rfp' M L
  | [], [], _ => trivial
  | (_, _) :: _, (_, _) :: _, h => ⟨h.1, hi _ _ h.2.1, RowsOf.ind hi h.2.2⟩
  | [], _ :: _, h => h.elim
  | _ :: _, [], h => h.elim
theorem RowsOf.mod {W W' : World} {rfp fp : List Nat} {M : List (ByteArray × Sv)} {L : St} (h : RowsOf W rfp M L) (m : Mod W W' fp) (hd : ∀ y ∈ rfp, y ∉ fp) : RowsOf W' rfp M L := h.ind (fun _ _ z => z.mod m hd)
theorem RowsOf.mono {W : World} {rfp rfp' : List Nat} {M : List (ByteArray × Sv)} {L : St} (h : RowsOf W rfp M L) (hs : ∀ y ∈ rfp, y ∈ rfp') : RowsOf W rfp' M L := h.ind (fun _ _ z => z.mono hs)
theorem RowsOf.keys {W : World} {rfp : List Nat} : ∀ {M : List (ByteArray × Sv)} {L : St}, RowsOf W rfp M L → M.map Prod.fst = L.map Prod.fst
  | [], [], _ => rfl
  | (k, _) :: _, (k', _) :: _, h => by
    obtain ⟨rfl, _, h⟩ := h
    simp [h.keys]
  | [], _ :: _, h => h.elim
  | _ :: _, [], h => h.elim
theorem RowsOf.len {W : World} {rfp : List Nat} {M : List (ByteArray × Sv)} {L : St} (h : RowsOf W rfp M L) : M.length = L.length := by have := congrArg List.length h.keys; simpa using this
theorem RowsOf.range {W : World} {rfp : List Nat} {M : List (ByteArray × Sv)} {L : St} (h : RowsOf W rfp M L) (lo hi : ByteArray) : rangeL M lo hi = rangeL L lo hi := by unfold rangeL; rw [h.keys]
theorem RowsOf.sorted {W : World} {rfp : List Nat} {M : List (ByteArray × Sv)} {L : St} (h : RowsOf W rfp M L) (hs : Sorted M) : Sorted L := by
  have e : ∀ {α : Type} (l : List (ByteArray × α)), Sorted l ↔ (l.map Prod.fst).Pairwise (fun x y => Tree.lt x y = true) := fun l => by unfold Sorted; rw [List.pairwise_map]
  rw [e] at hs ⊢
  rw [← h.keys]
  exact hs
theorem RowsOf.get {W : World} {rfp : List Nat} (key : ByteArray) : ∀ {M : List (ByteArray × Sv)} {L : St}, RowsOf W rfp M L → (lget M key = none ∧ lget L key = none) ∨ ∃ v l, lget M key = some v ∧ lget L key = some l ∧ RowOK W rfp v l
  | [], [], _ => .inl ⟨rfl, rfl⟩
  | (k, v) :: M, (k', l) :: L, h => by
    obtain ⟨rfl, h1, h2⟩ := h
    unfold lget
    by_cases c1 : Tree.lt k key = true
    · rw [if_pos c1, if_pos c1]
      exact h2.get key
    · rw [if_neg c1, if_neg c1]
      by_cases c2 : key.toList = k.toList
      · rw [if_pos c2, if_pos c2]
        exact .inr ⟨v, l, rfl, rfl, h1⟩
      · rw [if_neg c2, if_neg c2]
        exact .inl ⟨rfl, rfl⟩
  | [], _ :: _, h => h.elim
  | _ :: _, [], h => h.elim
theorem RowsOf.set {W : World} {rfp : List Nat} (key : ByteArray) {x : Sv} {y : List S31} (hx : RowOK W rfp x y) : ∀ {M : List (ByteArray × Sv)} {L : St}, RowsOf W rfp M L → RowsOf W rfp (lset M key x) (lset L key y)
  | [], [], _ => ⟨rfl, hx, trivial⟩
  | (k, v) :: M, (k', l) :: L, h => by
    obtain ⟨rfl, h1, h2⟩ := h
    unfold lset
    by_cases c1 : Tree.lt k key = true
    · rw [if_pos c1, if_pos c1]
      exact ⟨rfl, h1, h2.set key hx⟩
    · rw [if_neg c1, if_neg c1]
      by_cases c2 : key.toList = k.toList
      · rw [if_pos c2, if_pos c2]
        exact ⟨rfl, hx, h2⟩
      · rw [if_neg c2, if_neg c2]
        exact ⟨rfl, hx, rfl, h1, h2⟩
  | [], _ :: _, h => h.elim
  | _ :: _, [], h => h.elim
theorem RowsOf.cut {W : World} {rfp : List Nat} (key : ByteArray) : ∀ {M : List (ByteArray × Sv)} {L : St}, RowsOf W rfp M L → RowsOf W rfp (lcut M key) (lcut L key)
  | [], [], _ => trivial
  | (k, v) :: M, (k', l) :: L, h => by
    obtain ⟨rfl, h1, h2⟩ := h
    unfold lcut
    by_cases c1 : Tree.lt k key = true
    · rw [if_pos c1, if_pos c1]
      exact ⟨rfl, h1, h2.cut key⟩
    · rw [if_neg c1, if_neg c1]
      by_cases c2 : key.toList = k.toList
      · rw [if_pos c2, if_pos c2]
        exact h2
      · rw [if_neg c2, if_neg c2]
        exact ⟨rfl, h1, h2⟩
  | [], _ :: _, h => h.elim
  | _ :: _, [], h => h.elim
def AllR (L : St) : Prop := ∀ p ∈ L, RightP p.2
theorem AllR.get {L : St} (h : AllR L) {key : ByteArray} {l : List S31} (hg : lget L key = some l) : RightP l := by
  induction L with
  | nil => simp [lget] at hg
  | cons p L ih =>
    obtain ⟨k, v⟩ := p
    unfold lget at hg
    split at hg
    · exact ih (fun q hq => h q (by simp [hq])) hg
    · split at hg
      · cases hg; exact h (k, l) (by simp)
      · cases hg
theorem AllR.set {L : St} (h : AllR L) {key : ByteArray} {l : List S31} (hl : RightP l) : AllR (lset L key l) := by
  induction L with
  | nil => intro p hp; simp [lset] at hp; subst hp; exact hl
  | cons p L ih =>
    obtain ⟨k, v⟩ := p
    have h1 := h (k, v) (by simp)
    have h2 := ih (fun q hq => h q (by simp [hq]))
    unfold lset
    split
    · intro p hp
      rcases List.mem_cons.1 hp with rfl | hp
      · exact h1
      · exact h2 p hp
    · split
      · intro p hp
        rcases List.mem_cons.1 hp with rfl | hp
        · exact hl
        · exact h p (by simp [hp])
      · intro p hp
        rcases List.mem_cons.1 hp with rfl | hp
        · exact hl
        · exact h p hp
theorem AllR.cut {L : St} (h : AllR L) (key : ByteArray) : AllR (lcut L key) := fun p hp => h p ((lcut_sub L key).subset hp)
/-- A key's chain. -/
def chOf (L : St) (key : ByteArray) : List S31 := (lget L key).getD []
theorem AllR.chain {L : St} (h : AllR L) (key : ByteArray) : RightP (chOf L key) := by
  unfold chOf
  cases hg : lget L key with
  | none => exact right_nil
  | some l => exact h.get hg
/-- A store: its own block, the map's, the rows'. -/
structure SI (W : World) (s g : Nat) (M : List (ByteArray × Sv)) (L : St) (mfp rfp : List Nat) : Prop where
  at_ : W.heap[s]? = some (.cells #[.pointer (some ⟨g, 0, none⟩)] 90 (0, 0))
  map : MapF W g M mfp
  rows : RowsOf W rfp M L
  sm : s ∉ mfp
  sr : s ∉ rfp
  mr : ∀ y ∈ mfp, y ∉ rfp
  rlt : ∀ y ∈ rfp, y < W.heap.size
  right : AllR L
def SF (W : World) (s : Nat) (L : St) (fp : List Nat) : Prop := ∃ g M mfp rfp, SI W s g M L mfp rfp ∧ fp = s :: (mfp ++ rfp)
theorem SI.mod {W W' : World} {s g : Nat} {M : List (ByteArray × Sv)} {L : St} {mfp rfp fp2 : List Nat} (h : SI W s g M L mfp rfp) (m : Mod W W' fp2) (h1 : s ∉ fp2) (h2 : ∀ y ∈ mfp, y ∉ fp2) (h3 : ∀ y ∈ rfp, y ∉ fp2) : SI W' s g M L mfp rfp :=
  ⟨m.at_ h.at_ h1, h.map.mod m h2, h.rows.mod m h3, h.sm, h.sr, h.mr, fun y hy => by have := h.rlt y hy; have := m.size; omega, h.right⟩
theorem SF.mod {W W' : World} {s : Nat} {L : St} {fp fp2 : List Nat} (h : SF W s L fp) (m : Mod W W' fp2) (hd : ∀ x ∈ fp, x ∉ fp2) : SF W' s L fp := by
  obtain ⟨g, M, mfp, rfp, h, rfl⟩ := h
  exact ⟨g, M, mfp, rfp, h.mod m (hd s (by simp)) (fun y hy => hd y (by simp [hy])) (fun y hy => hd y (by simp [hy])), rfl⟩
theorem SF.lt {W : World} {s : Nat} {L : St} {fp : List Nat} (h : SF W s L fp) : ∀ x ∈ fp, x < W.heap.size := by
  obtain ⟨g, M, mfp, rfp, h, rfl⟩ := h
  intro x hx
  simp only [List.mem_cons, List.mem_append] at hx
  rcases hx with rfl | hx | hx
  · exact blk_lt h.at_
  · exact h.map.lt x hx
  · exact h.rlt x hx
theorem SF.right {W : World} {s : Nat} {L : St} {fp : List Nat} (h : SF W s L fp) : AllR L := by
  obtain ⟨g, M, mfp, rfp, h, rfl⟩ := h
  exact h.right
theorem SF.sorted {W : World} {s : Nat} {L : St} {fp : List Nat} (h : SF W s L fp) : Sorted L := by
  obtain ⟨g, M, mfp, rfp, h, rfl⟩ := h
  exact h.rows.sorted h.map.sorted
theorem Mod.of_below {W W' : World} (h : Below W.heap.size W W') : Mod W W' [] := ⟨h.os, h.tape, h.output, h.size, fun k hk _ => h.block k hk⟩
/-! the store's methods -/
theorem C_nil (W : World) : Kd.C k31 W none ([] : List S31).length [] := by
  obtain ⟨A, c, e, _, hC⟩ := (Row.nil k31 31 W).C
  injection e with e1 _ _
  rw [e1]
  exact hC
def ChainP (W : World) (L : St) (fp : List Nat) (key : ByteArray) (e : Ending) (W' : World) : Prop :=
  ∃ A c, e = .returned (.slice A (chOf L key).length c) ∧ (chOf L key).length ≤ c ∧ Kd.C k31 W A (chOf L key).length (chOf L key) ∧ Row k31 31 W (.slice A (chOf L key).length c) (chOf L key) ∧ (∀ y ∈ ownList (.slice A (chOf L key).length c), y ∈ fp) ∧ W' = W
theorem chain_calls {W : World} {s : Nat} {L : St} {fp : List Nat} (key : ByteArray) (h : SF W s L fp) : Calls Try.prog 52 #[.pointer (some ⟨s, 0, none⟩), .string key] W (ChainP W L fp key) := by
  obtain ⟨g, M, mfp, rfp, h, rfl⟩ := h
  have hc : W.cell? ⟨s, 0, none⟩ = some (.pointer (some ⟨g, 0, none⟩)) := (blk_cell h.at_ 0).trans rfl
  have H := Lib.hid h
  clear h
  go_enter Try.func52, Try.ntmps52
  go_wp2_with fail
  refine (mget key H.out.map).mono ?_
  rintro e W1 ⟨rfl, rfl⟩
  rcases H.out.rows.get key with ⟨e1, e2⟩ | ⟨v, l, e1, e2, hr⟩
  · rw [e1]
    simp only [getEnd]
    have hE := Lib.hid e2
    clear e1 e2
    go_wp2
    go_ret
    unfold ChainP chOf
    rw [hE.out]
    exact ⟨none, 0, rfl, by simp, C_nil W1, Row.nil _ _ _, by simp [ownList], rfl⟩
  · rw [e1]
    simp only [getEnd]
    have hE := Lib.hid (And.intro e2 hr)
    clear e1 e2 hr
    go_wp2
    go_ret
    unfold ChainP chOf
    rw [hE.out.1]
    obtain ⟨hr, hs⟩ := hE.out.2
    obtain ⟨A, c, e, hc, hC⟩ := hr.C
    injection e with e1 e2 e3
    rw [e1, e2, e3] at hr hs ⊢
    exact ⟨A, c, rfl, hc, hC, hr, fun y hy => by have := hs y hy; simp [this], rfl⟩
theorem chain_none {W : World} (key : ByteArray) : Calls Try.prog 52 #[.pointer none, .string key] W fun e W' => e = .returned (.slice none 0 0) ∧ W' = W := by
  go_enter Try.func52, Try.ntmps52
  go_wp2
  go_ret
  exact ⟨rfl, rfl⟩
def NewS (W : World) (e : Ending) (W' : World) : Prop := ∃ s fp, e = .returned (.pointer (some ⟨s, 0, none⟩)) ∧ SF W' s [] fp ∧ (∀ y ∈ fp, W.heap.size ≤ y) ∧ Mod W W' []
theorem new_store {W : World} : Calls Try.prog 34 #[] W (NewS W) := by
  go_enter Try.func34, Try.ntmps34
  go_wp2_with fail
  refine mnew.mono ?_
  rintro e W1 ⟨rfl, h1, m1⟩
  have H1 := Lib.hid (And.intro h1 m1)
  clear h1 m1
  go_wp2
  go_ret
  obtain ⟨h1, m1⟩ := H1.out
  have hs := h1.lt W.heap.size (by simp)
  have m2 := (Mod.refl W1 []).alloc (.cells #[.pointer (some ⟨W.heap.size, 0, none⟩)] 90 (0, 0))
  refine ⟨W1.heap.size, _, rfl, ⟨_, [], [W.heap.size], [], ⟨blk_new _ _, h1.mod m2 (by simp), trivial, by simp; omega, by simp, by simp, by simp, fun p hp => by simp at hp⟩, rfl⟩, fun y hy => ?_, m1.trans m2 (by simp)⟩
  simp only [List.append_nil, List.mem_cons, List.not_mem_nil, or_false] at hy
  have := m1.size
  rcases hy with rfl | rfl <;> omega
def putS (L : St) (key : ByteArray) (v : S31) : St × Int :=
  if key.size < 1 ∨ 32 < key.size then (L, 1) else if (putC (chOf L key) v).2 = 0 then (lset L key (putC (chOf L key) v).1, 0) else (L, (putC (chOf L key) v).2)
def PutP (W : World) (s : Nat) (L : St) (fp : List Nat) (key : ByteArray) (v : S31) (e : Ending) (W' : World) : Prop :=
  e = .returned (.int .i64 (putS L key v).2) ∧ ∃ fp', SF W' s (putS L key v).1 fp' ∧ Mod W W' fp ∧ ∀ y ∈ fp', y ∈ fp ∨ W.heap.size ≤ y
/-- What is set: the map's row, and the store with it. -/
theorem SF.set {W W1 W2 : World} {s g : Nat} {M : List (ByteArray × Sv)} {L : St} {mfp rfp fp2 : List Nat} {x : Sv} {y : List S31} (key : ByteArray) (h : SI W s g M L mfp rfp) (m1 : Mod W W1 []) (hx : Row k31 31 W1 (.slice x.1 x.2.1 x.2.2) y) (hn : ∀ z ∈ ownList (.slice x.1 x.2.1 x.2.2), W.heap.size ≤ z) (hy : RightP y)
    (h2 : MapF W2 g (lset M key x) fp2) (m2 : Mod W1 W2 mfp) (hb : ∀ z ∈ fp2, z ∈ mfp ∨ W1.heap.size ≤ z) : ∃ fp', SF W2 s (lset L key y) fp' ∧ Mod W W2 (s :: (mfp ++ rfp)) ∧ ∀ z ∈ fp', z ∈ s :: (mfp ++ rfp) ∨ W.heap.size ≤ z := by
  have hxl := hx.lt
  have hml := h.map.lt
  have hs1 := m1.size
  have hsl := blk_lt h.at_
  have m12 : Mod W W2 mfp := (m1.mono (by simp)).trans m2 (fun k hk => .inl hk)
  have hr : RowsOf W2 (ownList (.slice x.1 x.2.1 x.2.2) ++ rfp) (lset M key x) (lset L key y) := by
    refine RowsOf.set key ⟨hx.mod plainV m2 (fun z hz hz' => ?_), fun z hz => by simp [hz]⟩ ((h.rows.mod m12 (fun z hz hz' => h.mr z hz' hz)).mono (fun z hz => by simp [hz]))
    have a1 := hn z hz
    have a2 := hml z hz'
    omega
  refine ⟨_, ⟨g, _, fp2, ownList (.slice x.1 x.2.1 x.2.2) ++ rfp, ⟨m12.at_ h.at_ h.sm, h2, hr, fun hz => ?_, fun hz => ?_, fun z hz hz' => ?_, fun z hz => ?_, h.right.set hy⟩, rfl⟩, m12.mono (fun k hk => .inl (by simp [hk])), fun z hz => ?_⟩
  · rcases hb s hz with z | z
    · exact h.sm z
    · omega
  · rcases List.mem_append.1 hz with z | z
    · have := hn s z; omega
    · exact h.sr z
  · rcases List.mem_append.1 hz' with z1 | z1
    · have a1 := hn z z1
      have a2 := hxl z z1
      rcases hb z hz with z2 | z2
      · have := hml z z2; omega
      · omega
    · rcases hb z hz with z2 | z2
      · exact h.mr z z2 z1
      · have := h.rlt z z1; omega
  · have := m2.size
    rcases List.mem_append.1 hz with z1 | z1
    · have := hxl z z1; omega
    · have := h.rlt z z1; omega
  · simp only [List.mem_cons, List.mem_append] at hz ⊢
    rcases hz with rfl | hz | hz | hz
    · exact .inl (.inl rfl)
    · rcases hb z hz with z2 | z2
      · exact .inl (.inr (.inl z2))
      · exact .inr (by omega)
    · exact .inr (hn z hz)
    · exact .inl (.inr (.inr hz))
set_option maxRecDepth 100000 in
set_option maxHeartbeats 2000000 in
theorem Put_calls {W : World} {s : Nat} {L : St} {fp : List Nat} (key : ByteArray) (a0 a1 a2 a3 : Int) (a4 : ByteArray) (a5 : Bool) (h : SF W s L fp) (hl : L.length ≤ 1000000) :
    Calls Try.prog 33 #[.pointer (some ⟨s, 0, none⟩), .string key, .agg #[.int .u64 a0, .int .u32 a1, .int .u32 a2, .int .u32 a3, .string a4, .bool a5]] W (PutP W s L fp key ⟨⟨a0, a1⟩, ⟨a2, a3⟩, a4, a5⟩) := by
  have H := Lib.hid (And.intro h hl)
  have hs := h.lt s (by obtain ⟨g, M, mfp, rfp, h, rfl⟩ := h; simp)
  have HS := Lib.hid hs
  clear h hl hs
  by_cases hk : key.size < 1 ∨ 32 < key.size
  · have hp : putS L key ⟨⟨a0, a1⟩, ⟨a2, a3⟩, a4, a5⟩ = (L, 1) := by unfold putS; rw [if_pos hk]
    have m1 := (Mod.refl W []).alloc (.cells #[.int .u64 a0, .int .u32 a1, .int .u32 a2, .int .u32 a3, .string a4, .bool a5] 31)
    have fin : ∃ fp', SF (W.alloc (.cells #[.int .u64 a0, .int .u32 a1, .int .u32 a2, .int .u32 a3, .string a4, .bool a5] 31)) s (putS L key ⟨⟨a0, a1⟩, ⟨a2, a3⟩, a4, a5⟩).1 fp' ∧ Mod W (W.alloc (.cells #[.int .u64 a0, .int .u32 a1, .int .u32 a2, .int .u32 a3, .string a4, .bool a5] 31)) fp ∧ ∀ y ∈ fp', y ∈ fp ∨ W.heap.size ≤ y := by
      rw [hp]
      exact ⟨fp, H.out.1.mod m1 (by simp), m1.mono (by simp), fun y hy => .inl hy⟩
    have FI := Lib.hid fin
    have HP := Lib.hid hp
    clear fin m1 hp
    by_cases k1 : key.size < 1
    · have k1z : (key.size : Int) < 1 := by omega
      have k10 : key.size = 0 := by omega
      clear hk
      go_enter Try.func33, Try.ntmps33
      go_wp2
      go_ret
      exact ⟨by rw [HP.out]; rfl, FI.out⟩
    · have k1z : ¬ ((key.size : Int) < 1) := by omega
      have k10 : ¬ (key.size = 0) := by omega
      have k2 : 32 < key.size := by omega
      have k2z : (32 : Int) < key.size := by omega
      clear hk
      go_enter Try.func33, Try.ntmps33
      go_wp2
      go_ret
      exact ⟨by rw [HP.out]; rfl, FI.out⟩
  · have k1 : ¬ (key.size < 1) := by omega
    have k1z : ¬ ((key.size : Int) < 1) := by omega
    have k10 : ¬ (key.size = 0) := by omega
    have k2 : ¬ (32 < key.size) := by omega
    have k2z : ¬ ((32 : Int) < key.size) := by omega
    have HK := Lib.hid hk
    clear hk
    have hx : (W.alloc (.cells #[.int .u64 a0, .int .u32 a1, .int .u32 a2, .int .u32 a3, .string a4, .bool a5] 31)).heap[W.heap.size]? = some (.cells #[.int .u64 a0, .int .u32 a1, .int .u32 a2, .int .u32 a3, .string a4, .bool a5] 31 (0, 0)) := blk_new _ _
    have hm : Mod W (W.alloc (.cells #[.int .u64 a0, .int .u32 a1, .int .u32 a2, .int .u32 a3, .string a4, .bool a5] 31)) [] := (Mod.refl W []).alloc _
    obtain ⟨g, M, mfp, rfp, hsi, rfl⟩ := H.out.1
    have HSI := Lib.hid hsi
    have H1 := Lib.hid (And.intro (hsi.mod hm (by simp) (by simp) (by simp)) hm)
    clear hsi
    have HX := Lib.hid hx
    clear hm hx
    go_enter Try.func33, Try.ntmps33
    go_upto_region 3 with fail
    generalize W.alloc (.cells #[.int .u64 a0, .int .u32 a1, .int .u32 a2, .int .u32 a3, .string a4, .bool a5] 31) = W1 at H1 HX ⊢
    generalize W.heap.size = b at HX ⊢
    have hn0 : W1.cell? ⟨b, 0, none⟩ = some (.int .u64 a0) := (blk_cell HX.out 0).trans rfl
    have hn1 : W1.cell? ⟨b, 1, none⟩ = some (.int .u32 a1) := (blk_cell HX.out 1).trans rfl
    have hn2 : W1.cell? ⟨b, 2, none⟩ = some (.int .u32 a2) := (blk_cell HX.out 2).trans rfl
    have hn3 : W1.cell? ⟨b, 3, none⟩ = some (.int .u32 a3) := (blk_cell HX.out 3).trans rfl
    have hn4 : W1.cell? ⟨b, 4, none⟩ = some (.string a4) := (blk_cell HX.out 4).trans rfl
    have hn5 : W1.cell? ⟨b, 5, none⟩ = some (.bool a5) := (blk_cell HX.out 5).trans rfl
    have hput := put_spec (v := ⟨⟨a0, a1⟩, ⟨a2, a3⟩, a4, a5⟩) (H.out.1.right.chain key)
    obtain ⟨r1, r2, hq⟩ : ∃ r1 r2, putC (chOf L key) ⟨⟨a0, a1⟩, ⟨a2, a3⟩, a4, a5⟩ = (r1, r2) := ⟨_, _, rfl⟩
    rw [hq] at hput
    have HPU := Lib.hid hput.1
    have hps : putS L key ⟨⟨a0, a1⟩, ⟨a2, a3⟩, a4, a5⟩ = if r2 = 0 then (lset L key r1, 0) else (L, r2) := by unfold putS; rw [if_neg HK.out, hq]
    have hrr : RightP r1 := by have := put_right (v := ⟨⟨a0, a1⟩, ⟨a2, a3⟩, a4, a5⟩) (H.out.1.right.chain key); rw [hq] at this; exact this
    have HPS := Lib.hid (And.intro hps hrr)
    clear hput hq hps hrr
    go_region_with (first
      | (go_at_call 52
         refine (chain_calls (W := W1.drewN _) key (SF.mod ⟨g, M, mfp, rfp, H1.out.1, rfl⟩ ((Mod.refl W1 []).drewN _) (by simp))).mono ?_
         rintro e W2 ⟨A, c, rfl, hc, hC, _, _, rfl⟩
         have HC := Lib.hid (And.intro hc hC)
         clear hc hC)
      | (go_at_call 17
         refine (chain_Put.calls 2000 _ _ _ a0 a1 a2 a3 a4 a5 _ _ (W1.drewN _) HC.out.2 HC.out.1 HPU.out).mono ?_
         rintro e W2 ⟨v2, rfl, o2, b2⟩
         obtain ⟨A2, c2, rfl, _, _⟩ := Kd.R_reads o2
         have m2 : Mod W1 W2 [] := (Mod.refl W1 []).trans (((Mod.refl W1 []).drewN _).trans (Mod.of_below b2) (by simp)) (by simp)
         have hc2 : W2.cell? ⟨s, 0, none⟩ = some (.pointer (some ⟨g, 0, none⟩)) := (blk_cell (m2.at_ H1.out.1.at_ (by simp)) 0).trans rfl
         have H2 := Lib.hid (And.intro (Row.of o2) (And.intro m2 (fun z hz => by have := Kd.R_base o2 z (own_mem _ z hz); exact this : ∀ z ∈ ownList (.slice A2 r1.length c2), W1.heap.size ≤ z)))
         clear o2 b2 m2))
    all_goals
      by_cases h0 : r2 = 0
      · subst h0
        go_wp2_with fail
        refine (mset key (A2, r1.length, c2) (H1.out.1.map.mod H2.out.2.1 (by simp)) (by rw [H1.out.1.rows.len]; have := H.out.2; omega)).mono ?_
        rintro e W3 ⟨rfl, fp3, h3, m3, b3⟩
        have hfin := SF.set key HSI.out (H1.out.2.trans H2.out.2.1 (by simp)) H2.out.1 (fun z hz => by have := H2.out.2.2 z hz; have := H1.out.2.size; omega) HPS.out.2 h3 m3 b3
        have HF := Lib.hid hfin
        clear h3 m3 b3 hfin
        go_wp2
        go_ret
        refine ⟨by rw [HPS.out.1]; rfl, ?_⟩
        rw [HPS.out.1]
        exact HF.out
      · go_wp2
        go_ret
        refine ⟨by rw [HPS.out.1, if_neg h0]; rfl, ?_⟩
        rw [HPS.out.1, if_neg h0]
        have m := H1.out.2.trans H2.out.2.1 (by simp)
        exact ⟨_, ⟨g, M, mfp, rfp, HSI.out.mod m (by simp) (by simp) (by simp), rfl⟩, m.mono (by simp), fun y hy => .inl hy⟩
theorem blk_two {w : World} {b t : Nat} {x0 x1 : Value} (h : w.heap[b]? = some (.cells #[x0, x1] t (0, 0))) (u0 u1 : Value) : ((w.setCell ⟨b, 0, none⟩ u0).setCell ⟨b, 1, none⟩ u1).heap[b]? = some (.cells #[u0, u1] t (0, 0)) := blk_put (blk_put h 0 u0 rfl) 1 u1 rfl
theorem blk_six {w : World} {b t : Nat} {x0 x1 x2 x3 x4 x5 : Value} (h : w.heap[b]? = some (.cells #[x0, x1, x2, x3, x4, x5] t (0, 0))) (u0 u1 u2 u3 u4 u5 : Value) : ((((((w.setCell ⟨b, 0, none⟩ u0).setCell ⟨b, 1, none⟩ u1).setCell ⟨b, 2, none⟩ u2).setCell ⟨b, 3, none⟩ u3).setCell ⟨b, 4, none⟩ u4).setCell ⟨b, 5, none⟩ u5).heap[b]? = some (.cells #[u0, u1, u2, u3, u4, u5] t (0, 0)) := blk_put (blk_put (blk_put (blk_put (blk_put (blk_put h 0 u0 rfl) 1 u1 rfl) 2 u2 rfl) 3 u3 rfl) 4 u4 rfl) 5 u5 rfl
theorem Mod.two {W w : World} {fp : List Nat} (m : Mod W w fp) {b : Nat} (hb : W.heap.size ≤ b) (u0 u1 : Value) : Mod W ((w.setCell ⟨b, 0, none⟩ u0).setCell ⟨b, 1, none⟩ u1) fp := (m.setCell (.inr hb) u0).setCell (.inr hb) u1
theorem Mod.six {W w : World} {fp : List Nat} (m : Mod W w fp) {b : Nat} (hb : W.heap.size ≤ b) (u0 u1 u2 u3 u4 u5 : Value) : Mod W ((((((w.setCell ⟨b, 0, none⟩ u0).setCell ⟨b, 1, none⟩ u1).setCell ⟨b, 2, none⟩ u2).setCell ⟨b, 3, none⟩ u3).setCell ⟨b, 4, none⟩ u4).setCell ⟨b, 5, none⟩ u5) fp := (((((m.setCell (.inr hb) u0).setCell (.inr hb) u1).setCell (.inr hb) u2).setCell (.inr hb) u3).setCell (.inr hb) u4).setCell (.inr hb) u5
theorem count_calls {W : World} {s : Nat} {L : St} {fp : List Nat} (key : ByteArray) (h : SF W s L fp) : Calls Try.prog 35 #[.pointer (some ⟨s, 0, none⟩), .string key] W fun e W' => e = .returned (.int .i64 (chOf L key).length) ∧ W' = W := by
  have H := Lib.hid h
  clear h
  go_enter Try.func35, Try.ntmps35
  go_wp2_with fail
  refine (chain_calls key H.out).mono ?_
  rintro e W2 ⟨A, c, rfl, _, _, _, _, rfl⟩
  go_wp2
  go_ret
  exact ⟨rfl, rfl⟩
def NewestP (W : World) (n : Int × Int) (e : Ending) (W' : World) : Prop := e = .returned (.agg #[.int .u64 n.1, .int .u32 n.2]) ∧ Mod W W' []
theorem newest_calls {W : World} {s : Nat} {L : St} {fp : List Nat} (key : ByteArray) (h : SF W s L fp) : Calls Try.prog 32 #[.pointer (some ⟨s, 0, none⟩), .string key] W (NewestP W (nwC (chOf L key))) := by
  have hm := (Mod.refl W []).alloc (.cells #[.int .u64 0, .int .u32 0] 27)
  have hb := blk_new W (.cells #[.int .u64 0, .int .u32 0] 27)
  have hn := newest_eq (k := 2000) (h.right.chain key) (by have := (h.right.chain key).n; omega)
  have H := Lib.hid (And.intro (h.mod hm (by simp)) (And.intro hm hb))
  obtain ⟨n1, n2, hq⟩ : ∃ n1 n2, nwC (chOf L key) = (n1, n2) := ⟨_, _, rfl⟩
  rw [hq] at hn ⊢
  have HN := Lib.hid hn
  clear h hm hb hn hq
  go_enter Try.func32, Try.ntmps32
  go_wp2_with fail
  generalize W.alloc (.cells #[.int .u64 0, .int .u32 0] 27) = W1 at H ⊢
  generalize hb : W.heap.size = b at H ⊢
  have HB := Lib.hid hb
  clear hb
  refine (chain_calls key H.out.1).mono ?_
  rintro e W2 ⟨A, c, rfl, hc, hC, _, _, rfl⟩
  have HC := Lib.hid (And.intro hc hC)
  clear hc hC
  go_wp2_with fail
  refine (chain_Newest.calls 2000 _ _ _ n1 n2 _ HC.out.2 HC.out.1 HN.out).mono ?_
  rintro e W3 ⟨rfl, b3⟩
  have m3 := Mod.of_below b3
  have h3 := m3.at_ H.out.2.2 (by simp)
  have hc0 : W3.cell? ⟨b, 0, none⟩ = some (.int .u64 0) := (blk_cell h3 0).trans rfl
  have hc1 : W3.cell? ⟨b, 1, none⟩ = some (.int .u32 0) := (blk_cell h3 1).trans rfl
  have hf0 := blk_frozen h3 0
  have hf1 := blk_frozen h3 1
  have H3 := Lib.hid (And.intro m3 h3)
  clear b3 m3 h3
  go_wp2
  refine bodyPost_ret (results_cell_row rfl _ _ b 27 #[.int .u64 n1, .int .u32 n2] (0, 0) _ rfl (blk_two H3.out.2 _ _) Try.underlying27 rfl (by kernel_rfl)) rfl ?_
  exact ⟨rfl, Mod.two (H.out.2.1.trans H3.out.1 (by simp)) (by have := HB.out; omega) _ _⟩
theorem newest_none {W : World} (key : ByteArray) : Calls Try.prog 32 #[.pointer none, .string key] W (NewestP W (0, 0)) := by
  have hm := (Mod.refl W []).alloc (.cells #[.int .u64 0, .int .u32 0] 27)
  have hb := blk_new W (.cells #[.int .u64 0, .int .u32 0] 27)
  have hn : chain_Newest.f 2000 [] = some (0, 0) := by unfold chain_Newest.f; simp
  have H := Lib.hid (And.intro hm hb)
  have HN := Lib.hid hn
  clear hm hb hn
  go_enter Try.func32, Try.ntmps32
  go_wp2_with fail
  generalize W.alloc (.cells #[.int .u64 0, .int .u32 0] 27) = W1 at H ⊢
  generalize hb : W.heap.size = b at H ⊢
  have HB := Lib.hid hb
  clear hb
  refine (chain_none key).mono ?_
  rintro e W2 ⟨rfl, rfl⟩
  go_wp2_with fail
  refine (chain_Newest.calls 2000 _ _ _ 0 0 _ (C_nil _) (Nat.le_refl 0) HN.out).mono ?_
  rintro e W3 ⟨rfl, b3⟩
  have m3 := Mod.of_below b3
  have h3 := m3.at_ H.out.2 (by simp)
  have hc0 : W3.cell? ⟨b, 0, none⟩ = some (.int .u64 0) := (blk_cell h3 0).trans rfl
  have hc1 : W3.cell? ⟨b, 1, none⟩ = some (.int .u32 0) := (blk_cell h3 1).trans rfl
  have hf0 := blk_frozen h3 0
  have hf1 := blk_frozen h3 1
  have H3 := Lib.hid (And.intro m3 h3)
  clear b3 m3 h3
  go_wp2
  refine bodyPost_ret (results_cell_row rfl _ _ b 27 #[.int .u64 0, .int .u32 0] (0, 0) _ rfl (blk_two H3.out.2 _ _) Try.underlying27 rfl (by kernel_rfl)) rfl ?_
  exact ⟨rfl, Mod.two (H.out.1.trans H3.out.1 (by simp)) (by have := HB.out; omega) _ _⟩
theorem count_none {W : World} (key : ByteArray) : Calls Try.prog 35 #[.pointer none, .string key] W fun e W' => e = .returned (.int .i64 0) ∧ W' = W := by
  go_enter Try.func35, Try.ntmps35
  go_wp2_with fail
  refine (chain_none key).mono ?_
  rintro e W2 ⟨rfl, rfl⟩
  go_wp2
  go_ret
  exact ⟨rfl, rfl⟩
theorem rangeL_all_le (L : St) (lo hi : ByteArray) : (rangeL L lo hi).length ≤ L.length := by
  unfold rangeL
  exact Nat.le_trans (List.length_filter_le _ _) (by simp)
theorem keys_calls {W : World} {s : Nat} {L : St} {fp : List Nat} (lo hi : ByteArray) (h : SF W s L fp) (hl : L.length ≤ 1000000) : Calls Try.prog 51 #[.pointer (some ⟨s, 0, none⟩), .string lo, .string hi] W (KeysM W (rangeL L lo hi)) := by
  obtain ⟨g, M, mfp, rfp, h, rfl⟩ := h
  have hc : W.cell? ⟨s, 0, none⟩ = some (.pointer (some ⟨g, 0, none⟩)) := (blk_cell h.at_ 0).trans rfl
  have H := Lib.hid (And.intro h hl)
  have he : (rangeL M lo hi).take (9223372036854775807 : Int).toNat = rangeL L lo hi := by rw [h.rows.range lo hi]; exact List.take_of_length_le (by have := rangeL_all_le L lo hi; omega)
  have HE := Lib.hid he
  clear h hl he
  go_enter Try.func51, Try.ntmps51
  go_wp2_with fail
  refine (mkeys lo hi 9223372036854775807 H.out.1.map (by rw [H.out.1.rows.len]; have := H.out.2; omega)).mono ?_
  rw [HE.out]
  rintro e W1 ⟨v', rfl, ho, hf, hm⟩
  have K := Lib.hid (And.intro ho (And.intro hf hm))
  clear ho hf hm
  go_wp2
  go_ret
  exact ⟨_, rfl, K.out.1, K.out.2.1, K.out.2.2⟩
theorem keys_none {W : World} (lo hi : ByteArray) : Calls Try.prog 51 #[.pointer none, .string lo, .string hi] W fun e W' => e = .returned (.slice none 0 0) ∧ W' = W := by
  go_enter Try.func51, Try.ntmps51
  go_wp2
  go_ret
  exact ⟨rfl, rfl⟩
def getS (L : St) (key : ByteArray) (t0 t1 : Int) : ByteArray × Bool := match see (chOf L key) t0 t1 with
  | some y => if y.f3 = true then (⟨#[]⟩, false) else (y.f2, true)
  | none => (⟨#[]⟩, false)
def GetP (W : World) (r : ByteArray × Bool) (e : Ending) (W' : World) : Prop := e = .returned (.tuple #[.string r.1, .bool r.2]) ∧ Mod W W' []
theorem getS_eq {L : St} {key : ByteArray} {t0 t1 a b c d : Int} {x : ByteArray} {f g : Bool} (h : vw (see (chOf L key) t0 t1) = (a, b, c, d, x, f, g)) : getS L key t0 t1 = if g = true then (if f = true then (⟨#[]⟩, false) else (x, true)) else (⟨#[]⟩, false) := by
  unfold getS
  unfold vw at h
  cases hs : see (chOf L key) t0 t1 with
  | none => rw [hs] at h; simp only [Prod.mk.injEq] at h; obtain ⟨_, _, _, _, _, _, rfl⟩ := h; rfl
  | some y => rw [hs] at h; simp only [Prod.mk.injEq] at h; obtain ⟨_, _, _, _, rfl, rfl, rfl⟩ := h; rfl
set_option maxHeartbeats 4000000 in
theorem get_calls {W : World} {s : Nat} {L : St} {fp : List Nat} (key : ByteArray) (t0 t1 : Int) (h : SF W s L fp) : Calls Try.prog 29 #[.pointer (some ⟨s, 0, none⟩), .string key, .agg #[.int .u64 t0, .int .u32 t1]] W (GetP W (getS L key t0 t1)) := by
  have hm := (Mod.refl W []).alloc (.cells #[.int .u64 t0, .int .u32 t1] 27)
  have hb := blk_new W (.cells #[.int .u64 t0, .int .u32 t1] 27)
  have hn := at_vw (k := 2000) (h.right.chain key) t0 t1 (by have := (h.right.chain key).n; omega)
  have H := Lib.hid (And.intro (h.mod hm (by simp)) (And.intro hm hb))
  obtain ⟨y0, y1, y2, y3, x, f, g, hq⟩ : ∃ y0 y1 y2 y3 x f g, vw (see (chOf L key) t0 t1) = (y0, y1, y2, y3, x, f, g) := ⟨_, _, _, _, _, _, _, rfl⟩
  rw [hq] at hn
  have hg := getS_eq hq
  have HN := Lib.hid (And.intro hn hg)
  clear h hm hb hn hq hg
  go_enter Try.func29, Try.ntmps29
  go_upto_region 1 with fail
  generalize W.alloc (.cells #[.int .u64 t0, .int .u32 t1] 27) = W1 at H ⊢
  generalize hb : W.heap.size = v at H ⊢
  have HB := Lib.hid hb
  clear hb
  have hc0 : W1.cell? ⟨v, 0, none⟩ = some (.int .u64 t0) := (blk_cell H.out.2.2 0).trans rfl
  have hc1 : W1.cell? ⟨v, 1, none⟩ = some (.int .u32 t1) := (blk_cell H.out.2.2 1).trans rfl
  have hn0 := World.new_ne W1 _ hc0
  have hn1 := World.new_ne W1 _ hc1
  have hsz : W.heap.size ≤ W1.heap.size := H.out.2.1.size
  rw [HB.out] at hsz
  have HZ := Lib.hid hsz
  clear hsz
  cases g <;> cases f
  all_goals
    go_region_held3 (fun w' => w'.cell? ⟨v, 0, none⟩ = some (.int .u64 t0) ∧ w'.cell? ⟨v, 1, none⟩ = some (.int .u32 t1)) (go_keep) (first
      | (go_at_call 52
         refine (chain_calls key (SF.mod H.out.1 (by first | exact (Mod.refl W1 []).drewN _ | exact ((Mod.refl W1 []).drewN _).alloc _) (by simp))).mono ?_
         rintro e W2 ⟨A, c, rfl, hc, hC, _, _, rfl⟩
         have HC := Lib.hid (And.intro hc hC)
         clear hc hC)
      | (go_at_call 16
         refine (chain_At.calls 2000 _ _ _ _ _ y0 y1 y2 y3 x _ _ _ ?_ HC.out.1 HN.out.1).mono ?_
         · first | exact HC.out.2 | exact Kd.C_alloc HC.out.2 _ | exact Kd.C_drewN HC.out.2 _
         rintro e W2 ⟨rfl, b2⟩
         first
           | (have h3 : W2.heap[W1.heap.size]? = some (.cells #[.int .u64 0, .int .u32 0, .int .u32 0, .int .u32 0, .string ⟨#[]⟩, .bool false] 31 (0, 0)) := by
                refine blk_below ?_ b2
                (with_reducible repeat (first | refine blk_drewN ?_ _ | refine blk_drew ?_)); exact blk_new _ _
              have g0 : W2.cell? ⟨W1.heap.size, 0, none⟩ = some (.int .u64 0) := (blk_cell h3 0).trans rfl
              have g1 : W2.cell? ⟨W1.heap.size, 1, none⟩ = some (.int .u32 0) := (blk_cell h3 1).trans rfl
              have g2 : W2.cell? ⟨W1.heap.size, 2, none⟩ = some (.int .u32 0) := (blk_cell h3 2).trans rfl
              have g3 : W2.cell? ⟨W1.heap.size, 3, none⟩ = some (.int .u32 0) := (blk_cell h3 3).trans rfl
              have g4 : W2.cell? ⟨W1.heap.size, 4, none⟩ = some (.string ⟨#[]⟩) := (blk_cell h3 4).trans rfl
              have g5 : W2.cell? ⟨W1.heap.size, 5, none⟩ = some (.bool false) := (blk_cell h3 5).trans rfl
              have q0 := blk_frozen h3 0
              have q1 := blk_frozen h3 1
              have q2 := blk_frozen h3 2
              have q3 := blk_frozen h3 3
              have q4 := blk_frozen h3 4
              have q5 := blk_frozen h3 5
              have m2 : Mod W1 W2 [] := by
                refine Mod.trans ?_ (Mod.of_below b2) (by simp)
                (with_reducible repeat (first | exact Mod.refl _ _ | refine Mod.alloc ?_ _ | refine Mod.drewN ?_ _ | refine Mod.drew ?_))
              have d0 : W2.cell? ⟨v, 0, none⟩ = some (.int .u64 t0) := (blk_cell (m2.at_ H.out.2.2 (by simp)) 0).trans rfl
              have d1 : W2.cell? ⟨v, 1, none⟩ = some (.int .u32 t1) := (blk_cell (m2.at_ H.out.2.2 (by simp)) 1).trans rfl
              have HM := Lib.hid (And.intro (H.out.2.1.trans m2 (by simp)) (show v ≤ W1.heap.size from HZ.out))
              clear b2 h3 m2)
           | (have m2 : Mod W1 W2 [] := by
                refine Mod.trans ?_ (Mod.of_below b2) (by simp)
                (with_reducible repeat (first | exact Mod.refl _ _ | refine Mod.alloc ?_ _ | refine Mod.drewN ?_ _ | refine Mod.drew ?_))
              have d0 : W2.cell? ⟨v, 0, none⟩ = some (.int .u64 t0) := (blk_cell (m2.at_ H.out.2.2 (by simp)) 0).trans rfl
              have d1 : W2.cell? ⟨v, 1, none⟩ = some (.int .u32 t1) := (blk_cell (m2.at_ H.out.2.2 (by simp)) 1).trans rfl
              have HM := Lib.hid (And.intro (H.out.2.1.trans m2 (by simp)) (show v ≤ W2.heap.size from Nat.le_trans HZ.out m2.size))
              clear b2 m2)))
  all_goals
    go_wp2
    go_ret2
    refine ⟨by rw [HN.out.2]; rfl, ?_⟩
    have hB := HB.out
    have hM := HM.out.2
    (with_reducible repeat (first | exact HM.out.1 | refine Mod.alloc ?_ _ | refine Mod.drewN ?_ _ | refine Mod.drew ?_ | refine Mod.setCell ?_ (.inr (by simp; omega)) _))
theorem mod_grown {W W1 W2 : World} {fp : List Nat} {row : Option Nat} (h : Mod W W1 fp) (hg : W1.grownBy W2 row) (hr : ∀ y, row = some y → y ∈ fp) : Mod W W2 fp :=
  ⟨hg.os.trans h.os, hg.tape.trans h.tape, hg.output.trans h.output, Nat.le_trans h.size hg.size, fun k hk hn => (hg.block k (Nat.lt_of_lt_of_le hk h.size) (fun e => hn (hr k e.symm))).trans (h.block k hk hn)⟩
theorem mod_own {W1 W2 : World} {v : Value} (hg : W1.grownBy W2 v.ownBlock) : Mod W1 W2 (ownList v) := mod_grown (Mod.refl W1 _) hg (own_own' v)
theorem R_mod {α : Type} {d : Kd α} {e : Nat} {W W' : World} {ok : Nat → Prop} {v : Value} {l : List α} (h : d.R e W 0 ok v l) (m : Mod W W' []) : d.R e W' 0 ok v l := Kd.R_below h (Mod.bel m)
theorem Mod.cellN {W W' : World} {fp : List Nat} (m : Mod W W' fp) {b o : Nat} {v : Value} (h : W.cell? ⟨b, o, none⟩ = some v) (hb : b ∉ fp) : W'.cell? ⟨b, o, none⟩ = some v := by
  have e := m.block b (World.block_lt_of_cell? _ _ h) hb
  unfold World.cell? at h ⊢
  rw [e]
  exact h
theorem i64w {a : Int} (h1 : -9000000000000 ≤ a) (h2 : a ≤ 9000000000000) : IntKind.i64.wrap a = a := by unfold IntKind.wrap; simp [IntKind.signed, IntKind.bits]; omega
theorem Mod.cellA {W W' : World} {fp : List Nat} (m : Mod W W' fp) {p : Addr} {v : Value} (h : W.cell? p = some v) (hb : p.block ∉ fp) : W'.cell? p = some v := (World.cell?_of_block (w := W) (m.block p.block (World.block_lt_of_cell? _ _ h) hb)).trans h
end Go.Proofs.Ytomcjcoehahikaa.Sto
