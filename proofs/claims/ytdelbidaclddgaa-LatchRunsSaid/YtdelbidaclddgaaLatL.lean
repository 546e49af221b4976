/- The layer 'latch': LatL; a seat's own text, no law of its own. -/
import Derived.Test.YtdelbidaclddgaaLatK
import Derived.Deep.LoopGhost
import Derived.Deep.Cut
import Derived.Lib.Hide
import Derived.StillTailTactics
import Derived.Deep.QuietTactic
import Derived.BigQuiet
import Derived.Outline
import Derived.Deep.RegionWith
import Derived.Deep.RegionHeld3
import Derived.WalkLawsBesides
namespace Go.Proofs.Ytdelbidaclddgaa.Lat
open Go.RowKit Go.Proofs.YtdelbidaclddgaaW.PrintWords Go.Proofs.Ytdelbidaclddgaa.MLatchRuns Go.Proofs.YtdelbidaclddgaaW.PrintLast
set_option linter.unusedVariables false
set_option linter.unusedSimpArgs false
/-! Lay: the plain part -/
def iput (x : S65) (L : List S65) : List S65 := match L with
  | [] => [x]
  | y :: r => if Tree.lt y.f4.f0 x.f4.f0 = true then y :: iput x r else x :: y :: r
theorem iput_perm (x : S65) : ∀ L : List S65, (iput x L).Perm (x :: L)
  | [] => List.Perm.refl _
  | y :: r => by
    unfold iput
    split
    · exact ((iput_perm x r).cons y).trans (List.Perm.swap x y r)
    · exact List.Perm.refl _
theorem iput_pairs (x : S65) : ∀ {L : List S65}, (∀ y ∈ L, y.f4.f0.toList ≠ x.f4.f0.toList) → lset (L.map pairOf) x.f4.f0 ⟨x.f0, x.f4⟩ = (iput x L).map pairOf
  | [], _ => rfl
  | y :: r, h => by
    have ih := iput_pairs x (L := r) (fun z hz => h z (by simp [hz]))
    have hy := h y (by simp)
    show (if Tree.lt y.f4.f0 x.f4.f0 = true then pairOf y :: lset (r.map pairOf) x.f4.f0 ⟨x.f0, x.f4⟩ else if x.f4.f0.toList = y.f4.f0.toList then _ else _) = _
    rw [iput]
    by_cases c1 : Tree.lt y.f4.f0 x.f4.f0 = true
    · rw [if_pos c1, if_pos c1, ih]; rfl
    · rw [if_neg c1, if_neg c1, if_neg (fun e => hy e.symm)]; rfl
theorem iput_filter (x : S65) (p : S65 → Bool) (hp : p x = false) : ∀ L : List S65, (iput x L).filter p = L.filter p
  | [] => by simp [iput, hp]
  | y :: r => by
    rw [iput]
    split
    · rw [List.filter_cons, List.filter_cons, iput_filter x p hp r]
    · rw [List.filter_cons, hp]; rfl
def mkI (c n : Int) (st mn : S35) (pr : ByteArray) (w : S63) : S65 := ⟨⟨c, n⟩, st, mn, pr, w⟩
def putJ (c n : Int) (st mn : S35) (pr : ByteArray) (L : List S65) (l : List S63) : List S65 := l.foldl (fun L w => iput (mkI c n st mn pr w) L) L
theorem putJ_next (c n : Int) (st mn : S35) (pr : ByteArray) (L : List S65) (l : List S63) {j : Nat} (hj : j < l.length) : putJ c n st mn pr L (l.take (j + 1)) = iput (mkI c n st mn pr l[j]) (putJ c n st mn pr L (l.take j)) := by
  unfold putJ
  rw [List.take_succ_eq_append_getElem hj, List.foldl_append]
  rfl
theorem putJ_perm (c n : Int) (st mn : S35) (pr : ByteArray) : ∀ (l : List S63) (L : List S65), (putJ c n st mn pr L l).Perm (L ++ l.map (mkI c n st mn pr))
  | [], L => by simp [putJ]
  | w :: r, L => by
    have h := putJ_perm c n st mn pr r (iput (mkI c n st mn pr w) L)
    refine h.trans ?_
    rw [List.map_cons]
    refine ((iput_perm _ L).append_right _).trans ?_
    exact (List.perm_middle (l₁ := L) (a := mkI c n st mn pr w) (l₂ := r.map (mkI c n st mn pr))).symm
theorem putJ_filter (c n : Int) (st mn : S35) (pr : ByteArray) (p : S65 → Bool) (hp : ∀ w, p (mkI c n st mn pr w) = false) : ∀ (l : List S63) (L : List S65), (putJ c n st mn pr L l).filter p = L.filter p
  | [], L => rfl
  | w :: r, L => (putJ_filter c n st mn pr p hp r _).trans (iput_filter _ p (hp w) L)
theorem anyBusy_no {L : List S65} {l : List S63} (h : anyBusy L l = false) {w : S63} (hw : w ∈ l) : ∀ y ∈ L, y.f4.f0.toList ≠ w.f0.toList := fun y hy e => by
  have h1 := List.any_eq_false.1 h w hw
  apply h1
  unfold busyB
  cases hf : findI w.f0 L with
  | some _ => rfl
  | none => exact absurd (decide_eq_true e) (by have := List.find?_eq_none.1 hf y hy; simpa using this)
theorem putJ_key (c n : Int) (st mn : S35) (pr : ByteArray) {L : List S65} {l : List S63} (hb : anyBusy L l = false) (hn : (l.map keyD).Nodup) {j : Nat} (hj : j < l.length) : ∀ y ∈ putJ c n st mn pr L (l.take j), y.f4.f0.toList ≠ (mkI c n st mn pr l[j]).f4.f0.toList := fun y hy e => by
  have hy2 := (putJ_perm c n st mn pr (l.take j) L).mem_iff.1 hy
  rcases List.mem_append.1 hy2 with h1 | h1
  · exact anyBusy_no hb (List.getElem_mem hj) y h1 e
  · obtain ⟨w, hw, rfl⟩ := List.mem_map.1 h1
    have e2 : keyD w = keyD l[j] := by
      unfold keyD
      rw [← ByteArray.toList_eq, ← ByteArray.toList_eq]
      exact e
    rw [← List.take_append_drop j l, List.map_append, List.drop_eq_getElem_cons hj] at hn
    exact (List.nodup_append.1 hn).2.2 _ (List.mem_map_of_mem hw) _ (by rw [List.map_cons]; exact List.mem_cons_self) e2
theorem vsetH_mem {h' : Hd} : ∀ {Hs : List Hd}, (∀ h ∈ Hs, ¬ (h.c = h'.c ∧ h.n = h'.n)) → ∀ y, y ∈ vset Hd.c Hd.n h' Hs ↔ y = h' ∨ y ∈ Hs
  | [], _, y => by simp [vset]
  | z :: r, h, y => by
    have hz := h z (by simp)
    have ih := vsetH_mem (Hs := r) (fun x hx => h x (by simp [hx])) y
    rw [vset]
    by_cases h1 : h'.c < z.c ∨ h'.c = z.c ∧ h'.n < z.n
    · rw [if_pos h1]; simp
    · rw [if_neg h1, if_neg (fun e => hz ⟨e.1.symm, e.2.symm⟩), List.mem_cons, ih, List.mem_cons]
      constructor
      · rintro (e | e | e)
        · exact .inr (.inl e)
        · exact .inl e
        · exact .inr (.inr e)
      · rintro (e | e | e)
        · exact .inr (.inl e)
        · exact .inl e
        · exact .inr (.inr e)
theorem vset_pw {R : Hd → Hd → Prop} (hs : ∀ x y, R x y → R y x) {h' : Hd} : ∀ {Hs : List Hd}, Hs.Pairwise R → (∀ y ∈ Hs, R h' y) → (vset Hd.c Hd.n h' Hs).Pairwise R
  | [], _, _ => by simp [vset]
  | z :: r, hp, h => by
    obtain ⟨p1, p2⟩ := List.pairwise_cons.1 hp
    rw [vset]
    split
    · exact List.pairwise_cons.2 ⟨h, hp⟩
    · split
      · exact List.pairwise_cons.2 ⟨fun y hy => h y (by simp [hy]), p2⟩
      · refine List.pairwise_cons.2 ⟨fun y hy => ?_, vset_pw hs p2 (fun y hy => h y (by simp [hy]))⟩
        rcases vset_mem hy with rfl | hy
        · exact hs _ _ (h z (by simp))
        · exact p1 y hy
/-- two rows of writes in order, of the same writes, are one -/
theorem sorted_same {l a b : List S63} (hn : (l.map keyD).Nodup) (ha : a.Perm l) (hb : b.Perm l) (sa : a.Pairwise (fun x y => Tree.lt y.f0 x.f0 = false)) (sb : b.Pairwise (fun x y => Tree.lt y.f0 x.f0 = false)) : a = b := by
  refine List.Perm.eq_of_pairwise (le := fun x y : S63 => Tree.lt y.f0 x.f0 = false) (fun x y hx hy h1 h2 => ?_) sa sb (ha.trans hb.symm)
  have hxl := ha.mem_iff.1 hx
  have hyl := hb.mem_iff.1 hy
  have e : x.f0.toList = y.f0.toList := Classical.byContradiction fun hne => by
    have := lt_tot h2 hne
    rw [h1] at this
    cases this
  have ek : keyD x = keyD y := by unfold keyD; rw [← ByteArray.toList_eq, ← ByteArray.toList_eq]; exact e
  have key : ∀ {l : List S63}, (l.map keyD).Nodup → x ∈ l → y ∈ l → x = y := by
    intro l hn hx hy
    induction l with
    | nil => cases hx
    | cons z r ih =>
      rw [List.map_cons, List.nodup_cons] at hn
      rcases List.mem_cons.1 hx with ex | hx
      · rcases List.mem_cons.1 hy with ey | hy
        · rw [ex, ey]
        · have q : keyD y ∈ r.map keyD := List.mem_map_of_mem hy
          rw [← ek, ex] at q
          exact absurd q hn.1
      · rcases List.mem_cons.1 hy with ey | hy
        · have q : keyD x ∈ r.map keyD := List.mem_map_of_mem hx
          rw [ek, ey] at q
          exact absurd q hn.1
        · exact ih hn.2 hx hy
  exact key hn hxl hyl
theorem Lk.lay {Hs : List Hd} {L : List S65} (lk : Lk Hs L) {h' : Hd} (hf : findH h'.c h'.n Hs = none) {l : List S63} (hl : l ≠ []) (hn : (l.map keyD).Nodup) (hp : h'.ws.Perm l) (hsw : h'.ws.Pairwise (fun x y => Tree.lt y.f0 x.f0 = false)) (hs : Sorted ((putJ h'.c h'.n h'.st h'.mn h'.pr L l).map pairOf)) : Lk (vset Hd.c Hd.n h' Hs) (putJ h'.c h'.n h'.st h'.mn h'.pr L l) := by
  have hno := findH_none hf
  have hm := vsetH_mem hno
  refine ⟨fun x hx => ?_, fun h hh => ?_⟩
  · have hx2 := (putJ_perm h'.c h'.n h'.st h'.mn h'.pr l L).mem_iff.1 hx
    rcases List.mem_append.1 hx2 with h1 | h1
    · obtain ⟨h, hi, e⟩ := lk.hd x h1
      exact ⟨h, (hm h).2 (.inr hi), e⟩
    · obtain ⟨w, hw, rfl⟩ := List.mem_map.1 h1
      exact ⟨h', (hm h').2 (.inl rfl), rfl, rfl, rfl, rfl, rfl⟩
  · rcases (hm h).1 hh with rfl | hi
    · have hby : byL L h.c h.n = [] := byL_none lk hf
      have e1 : ((byL (putJ h.c h.n h.st h.mn h.pr L l) h.c h.n).map (fun x => x.f4)).Perm l := by
        have q := (putJ_perm h.c h.n h.st h.mn h.pr l L).filter (isBy h.c h.n)
        rw [List.filter_append] at q
        have e2 : (l.map (mkI h.c h.n h.st h.mn h.pr)).filter (isBy h.c h.n) = l.map (mkI h.c h.n h.st h.mn h.pr) := List.filter_eq_self.2 fun x hx => by
          obtain ⟨w, _, rfl⟩ := List.mem_map.1 hx
          exact decide_eq_true ⟨rfl, rfl⟩
        rw [e2, show L.filter (isBy h.c h.n) = [] from hby, List.nil_append] at q
        have q2 := q.map (fun x => x.f4)
        rw [List.map_map] at q2
        have e3 : l.map ((fun x : S65 => x.f4) ∘ mkI h.c h.n h.st h.mn h.pr) = l := (List.map_congr_left fun x _ => rfl).trans (List.map_id l)
        rw [e3] at q2
        exact q2
      have e4 : ((byL (putJ h.c h.n h.st h.mn h.pr L l) h.c h.n).map (fun x => x.f4)).Pairwise (fun x y => Tree.lt y.f0 x.f0 = false) := by
        refine List.pairwise_map.2 ?_
        have q := List.pairwise_map.1 hs
        exact (List.Pairwise.sublist List.filter_sublist q).imp fun {x y} hxy => lt_as hxy
      refine ⟨sorted_same hn hp e1 hsw e4, fun e => hl ?_⟩
      rw [e] at hp
      exact List.nil_perm.1 hp
    · have hne := hno h hi
      have e : byL (putJ h'.c h'.n h'.st h'.mn h'.pr L l) h.c h.n = byL L h.c h.n := putJ_filter _ _ _ _ _ _ (fun w => decide_eq_false (fun e => hne ⟨e.1.symm, e.2.symm⟩)) l L
      rw [e]
      exact lk.ws h hi
/-- one holder more -/
theorem TB.add {W W' : World} {t hb m kb : Nat} {Hs : List Hd} {K : List (ByteArray × S105)} {fk : List Nat} (h : TB W t hb m kb Hs K fk) {h' : Hd} (hk : inK h'.c h'.n) (hB : HB W h') (hn : ∀ z ∈ h'.bl, z ∉ blocks t hb fk Hs)
    (hm : W'.ownsMap Try.prog 32 RPt hb (m + 1) (HD (vset Hd.c Hd.n h' Hs))) (mm : Mod W W' [hb]) : TB W' t hb (m + 1) kb (vset Hd.c Hd.n h' Hs) K fk := by
  have hbb : ∀ z ∈ h'.bl, z ∉ [hb] := fun z hz e => by simp at e; subst e; exact hn _ hz (in_blocks.2 (.inr (.inl rfl)))
  refine ⟨mm.at_ h.ht (by simpa using h.ne), hm, vset_ord h' h.ord, vset_rgs hk h.rgs, h.hk.mod mm (fun x hx e => by simp at e; subst e; exact h.a2 hx), fun y hy => ?_, h.a1, h.a2, fun y hy => ?_, ?_⟩
  · rcases vset_mem hy with rfl | hy
    · exact hB.mod mm hbb
    · exact (h.hh y hy).mod mm (fun x hx e => by simp at e; subst e; exact (h.b1 y hy).2.1 hx)
  · rcases vset_mem hy with rfl | hy
    · exact ⟨fun e => hn _ e (in_blocks.2 (.inl rfl)), fun e => hn _ e (in_blocks.2 (.inr (.inl rfl))), fun z hz e => hn z hz (in_blocks.2 (.inr (.inr (.inl e))))⟩
    · exact h.b1 y hy
  · exact vset_pw (fun x y hxy z hz e => hxy z e hz) h.b2 (fun y hy z hz e => hn z hz (in_blocks.2 (.inr (.inr (.inr ⟨y, hy, e⟩)))))
theorem hstore {W : World} {hb m : Nat} {Hs : List Hd} (h : W.ownsMap Try.prog 32 RPt hb m (HD Hs)) (ho : OrdH Hs) (hr : RgsH Hs) (hmx : m < maxLen) (h' : Hd) (hk : inK h'.c h'.n) :
    ∃ W', (Instr.mapUpdate 101 (.map (some hb)) (.agg #[.int .u32 h'.c, .int .u32 h'.n]) (.pointer (some ⟨h'.q, 0, none⟩))).run Try.prog W = .ok () W' ∧ W'.ownsMap Try.prog 32 RPt hb (m + 1) (HD (vset Hd.c Hd.n h' Hs)) ∧ Mod W W' [hb] := by
  obtain ⟨W', h1, h2, h3⟩ := h.update law32 Try.underlying101 hmx (key_of hk) (show RPt (.pointer (some ⟨h'.q, 0, none⟩)) = some (gQ h'.q, []) from rfl)
  have e : (HD Hs).put (klit h'.c h'.n) (gQ h'.q) = HD (vset Hd.c Hd.n h' Hs) := map_put h' hk Hs hr ho
  exact ⟨W', h1, e ▸ h2, mod_grown (Mod.refl W _) h3 (fun y hy => by cases hy; simp)⟩
end Go.Proofs.Ytdelbidaclddgaa.Lat
