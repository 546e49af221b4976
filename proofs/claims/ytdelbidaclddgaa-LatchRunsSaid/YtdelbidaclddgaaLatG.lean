/- The layer 'latch': LatG; a seat's own text, no law of its own. -/
import Derived.Test.YtdelbidaclddgaaLatF
import Derived.Deep.LoopGhost
import Derived.Deep.Cut
import Derived.Lib.Hide
import Derived.StillTailTactics
import Derived.Deep.QuietTactic
import Derived.BigQuiet
import Derived.Outline
import Derived.Deep.RegionWith
import Derived.Deep.RegionHeld3
import Derived.WalkLawsBesides
namespace Go.Proofs.Ytdelbidaclddgaa.Lat
open Go.RowKit Go.Proofs.YtdelbidaclddgaaW.PrintWords Go.Proofs.Ytdelbidaclddgaa.MLatchRuns Go.Proofs.YtdelbidaclddgaaW.PrintLast
set_option linter.unusedVariables false
set_option linter.unusedSimpArgs false
/-! Raise -/
theorem two35 {V : World} {g : Nat} (a b : S35) (h : V.heap[g]? = some (.cells #[.int .u64 a.f0, .int .u32 a.f1, .int .u64 b.f0, .int .u32 b.f1] 35 (0, 0))) : Kd.C k35 V (some ⟨g, 0, none⟩) 2 [a, b] := by
  have c0 := (blk_cell h 0).trans (rfl : _ = some (Value.int .u64 a.f0))
  have c1 := (blk_cell h 1).trans (rfl : _ = some (Value.int .u32 a.f1))
  have c2 := (blk_cell h 2).trans (rfl : _ = some (Value.int .u64 b.f0))
  have c3 := (blk_cell h 3).trans (rfl : _ = some (Value.int .u32 b.f1))
  refine ⟨rfl, by omega, fun _ => ⟨_, rfl, fun j p hj => ?_⟩⟩
  match j, hj with
  | 0, hj =>
    obtain rfl := Option.some.inj hj
    refine ⟨_, rfl, k35_mk _ a, fun i u hu => ?_⟩
    match i, hu with
    | 0, hu => obtain rfl := Option.some.inj hu; simpa [Addr.add] using c0
    | 1, hu => obtain rfl := Option.some.inj hu; simpa [Addr.add] using c1
  | 1, hj =>
    obtain rfl := Option.some.inj hj
    refine ⟨_, rfl, k35_mk _ b, fun i u hu => ?_⟩
    match i, hu with
    | 0, hu => obtain rfl := Option.some.inj hu; show V.cell? ((⟨g, 0, none⟩ : Addr).add (1 * 2 + 0)) = _; simpa [Addr.add] using c2
    | 1, hu => obtain rfl := Option.some.inj hu; show V.cell? ((⟨g, 0, none⟩ : Addr).add (1 * 2 + 1)) = _; simpa [Addr.add] using c3
def raise1 (c n : Int) (s : S35) (x : S65) : S65 := if isBy c n x = true then { x with f2 := mx2 x.f2 s } else x
def raiseL (L : List S65) (c n : Int) (s : S35) : List S65 := L.map (raise1 c n s)
def raiseH (c n : Int) (s : S35) (h : Hd) : Hd := if h.c = c ∧ h.n = n then { h with mn := mx2 h.mn s } else h
theorem raise1_f0 (c n : Int) (s : S35) (x : S65) : (raise1 c n s x).f0 = x.f0 ∧ (raise1 c n s x).f1 = x.f1 ∧ (raise1 c n s x).f3 = x.f3 ∧ (raise1 c n s x).f4 = x.f4 := by unfold raise1; split <;> exact ⟨rfl, rfl, rfl, rfl⟩
theorem raiseH_f (c n : Int) (s : S35) (h : Hd) : (raiseH c n s h).c = h.c ∧ (raiseH c n s h).n = h.n ∧ (raiseH c n s h).q = h.q ∧ (raiseH c n s h).st = h.st ∧ (raiseH c n s h).pr = h.pr ∧ (raiseH c n s h).ws = h.ws ∧ (raiseH c n s h).bl = h.bl := by unfold raiseH; split <;> exact ⟨rfl, rfl, rfl, rfl, rfl, rfl, rfl⟩
theorem raise_pairs (L : List S65) (c n : Int) (s : S35) : (raiseL L c n s).map pairOf = L.map pairOf := by
  unfold raiseL
  rw [List.map_map]
  refine List.map_congr_left fun x _ => ?_
  obtain ⟨e0, _, _, e4⟩ := raise1_f0 c n s x
  show pairOf (raise1 c n s x) = pairOf x
  unfold pairOf
  rw [e0, e4]
theorem raise_by (L : List S65) (c n : Int) (s : S35) (c' n' : Int) : byL (raiseL L c n s) c' n' = (byL L c' n').map (raise1 c n s) := by
  unfold byL raiseL
  rw [List.filter_map]
  congr 1
  refine List.filter_congr fun x _ => ?_
  obtain ⟨e0, _⟩ := raise1_f0 c n s x
  show isBy c' n' (raise1 c n s x) = isBy c' n' x
  unfold isBy
  rw [e0]
theorem Lk.raise {Hs : List Hd} {L : List S65} (lk : Lk Hs L) (c n : Int) (s : S35) : Lk (Hs.map (raiseH c n s)) (raiseL L c n s) := by
  refine ⟨fun x' hx => ?_, fun h' hh => ?_⟩
  · obtain ⟨x, hx1, rfl⟩ := List.mem_map.1 hx
    obtain ⟨h, hi, e1, e2, e3, e4, e5⟩ := lk.hd x hx1
    refine ⟨raiseH c n s h, List.mem_map_of_mem hi, ?_⟩
    obtain ⟨f0, f1, f3, f4⟩ := raise1_f0 c n s x
    obtain ⟨g1, g2, g3, g4, g5, g6, g7⟩ := raiseH_f c n s h
    rw [f0, f1, f3, g1, g2, g4, g5]
    refine ⟨e1, e2, e3, ?_, e5⟩
    unfold raiseH raise1 isBy
    by_cases e : h.c = c ∧ h.n = n
    · rw [if_pos e, if_pos (decide_eq_true (by rw [← e1, ← e2]; exact e))]
      show mx2 h.mn s = mx2 x.f2 s
      rw [e4]
    · rw [if_neg e, if_neg (by rw [decide_eq_true_iff, ← e1, ← e2]; exact e), e4]
  · obtain ⟨h, hi, rfl⟩ := List.mem_map.1 hh
    obtain ⟨g1, g2, g3, g4, g5, g6, g7⟩ := raiseH_f c n s h
    rw [g1, g2, g6, raise_by, List.map_map]
    refine ⟨(lk.ws h hi).1.trans (List.map_congr_left fun x _ => ?_), (lk.ws h hi).2⟩
    exact (raise1_f0 c n s x).2.2.2.symm
theorem pw_two {α : Type} {R : α → α → Prop} : ∀ {l : List α}, l.Pairwise R → ∀ {x y : α}, x ∈ l → y ∈ l → x ≠ y → R x y ∨ R y x
  | [], _, _, _, h, _, _ => by cases h
  | z :: r, hp, x, y, hx, hy, hn => by
    obtain ⟨p1, p2⟩ := List.pairwise_cons.1 hp
    rcases List.mem_cons.1 hx with ex | hx
    · rcases List.mem_cons.1 hy with ey | hy
      · exact absurd (ex.trans ey.symm) hn
      · exact .inl (ex ▸ p1 y hy)
    · rcases List.mem_cons.1 hy with ey | hy
      · exact .inr (ey ▸ p1 x hx)
      · exact pw_two p2 hx hy hn
/-- the holder's least stamp is another one -/
theorem TB.raise {V V' : World} {t hb m kb : Nat} {Hs : List Hd} {K : List (ByteArray × S105)} {fk : List Nat} (h : TB V t hb m kb Hs K fk) {hh : Hd} (hin : hh ∈ Hs) (s : S35)
    (hq : V'.heap[hh.q]? = some (.cells #[.int .u64 hh.st.f0, .int .u32 hh.st.f1, .int .u64 (mx2 hh.mn s).f0, .int .u32 (mx2 hh.mn s).f1, .string hh.pr, .slice hh.A hh.ws.length hh.k] 116 (0, 0))) (mm : Mod V V' [hh.q]) :
    TB V' t hb m kb (Hs.map (raiseH hh.c hh.n s)) K fk := by
  have hb1 := h.b1 hh hin
  have hqb : hh.q ∈ hh.bl := by simp [Hd.bl]
  have htq : t ≠ hh.q := fun e => hb1.1 (e ▸ hqb)
  have hbq : hb ≠ hh.q := fun e => hb1.2.1 (e ▸ hqb)
  have keyc : (Hs.map (raiseH hh.c hh.n s)).map (fun y => (klit y.c y.n, gQ y.q)) = Hs.map (fun y => (klit y.c y.n, gQ y.q)) := by
    rw [List.map_map]
    refine List.map_congr_left fun y _ => ?_
    obtain ⟨g1, g2, g3, _⟩ := raiseH_f hh.c hh.n s y
    show (klit (raiseH hh.c hh.n s y).c (raiseH hh.c hh.n s y).n, gQ (raiseH hh.c hh.n s y).q) = _
    rw [g1, g2, g3]
  refine ⟨mm.at_ h.ht (by simpa using htq), ?_, ?_, ?_, h.hk.mod mm (fun x hx hm => by simp at hm; subst hm; exact hb1.2.2 _ hqb hx), ?_, h.a1, h.a2, ?_, ?_⟩
  · have e := owns_mod h.hm mm (by simpa using hbq)
    unfold HD mapD at e ⊢
    rw [keyc]
    exact e
  · refine List.pairwise_map.2 (h.ord.imp fun {x y} hxy => ?_)
    obtain ⟨g1, g2, _⟩ := raiseH_f hh.c hh.n s x
    obtain ⟨g1', g2', _⟩ := raiseH_f hh.c hh.n s y
    rw [g1, g2, g1', g2']
    exact hxy
  · intro y hy
    obtain ⟨x, hx, rfl⟩ := List.mem_map.1 hy
    obtain ⟨g1, g2, _⟩ := raiseH_f hh.c hh.n s x
    have := h.rgs x hx
    unfold Rng at this ⊢
    rw [g1, g2]
    exact this
  · intro y hy
    obtain ⟨x, hx, rfl⟩ := List.mem_map.1 hy
    by_cases e : x = hh
    · subst e
      have hx' : raiseH x.c x.n s x = { x with mn := mx2 x.mn s } := by unfold raiseH; rw [if_pos ⟨rfl, rfl⟩]
      rw [hx']
      exact ⟨hq, (h.hh x hx).hr.mod plain63 mm (fun z hz hm => (h.hh x hx).nq (by simp at hm; exact hm ▸ hz)), (h.hh x hx).nq⟩
    · have hne : ¬ (x.c = hh.c ∧ x.n = hh.n) := fun ee => e (ordH_eq h.ord hx hin ee.1 ee.2)
      have hx' : raiseH hh.c hh.n s x = x := by unfold raiseH; rw [if_neg hne]
      rw [hx']
      refine (h.hh x hx).mod mm fun z hz hm => ?_
      simp at hm
      subst hm
      -- the blocks of two holders are apart
      have := h.b2
      rcases pw_two this hx hin e with hp | hp
      · exact hp _ hz hqb
      · exact hp _ hqb hz
  · intro y hy
    obtain ⟨x, hx, rfl⟩ := List.mem_map.1 hy
    rw [(raiseH_f hh.c hh.n s x).2.2.2.2.2.2]
    exact h.b1 x hx
  · refine List.pairwise_map.2 (h.b2.imp fun {x y} hxy => ?_)
    rw [(raiseH_f hh.c hh.n s x).2.2.2.2.2.2, (raiseH_f hh.c hh.n s y).2.2.2.2.2.2]
    exact hxy

def RaiseP (W : World) (t m : Nat) (L' : List S65) (fp : List Nat) (r : Bool) (e : Ending) (W' : World) : Prop := e = .returned (.bool r) ∧ Tab W' t m L' fp ∧ Mod W W' fp
set_option maxHeartbeats 4000000 in
set_option maxRecDepth 100000 in
theorem raise_no {W : World} {t m : Nat} {L : List S65} {fp : List Nat} (h : Tab W t m L fp) (c n : Int) (hk : inK c n) (s : S35) (hno : byL L c n = []) :
    Calls Try.prog 32 #[.pointer (some ⟨t, 0, none⟩), .agg #[.int .u32 c, .int .u32 n], .agg #[.int .u64 s.f0, .int .u32 s.f1]] W (RaiseP W t m L fp false) := by
  have m1 := ((Mod.refl W []).alloc (.cells #[.int .u32 c, .int .u32 n] 32))
  have m2 := ((Mod.refl (W.alloc (.cells #[.int .u32 c, .int .u32 n] 32)) []).alloc (.cells #[.int .u64 s.f0, .int .u32 s.f1] 35))
  have s1 : (W.alloc (.cells #[.int .u32 c, .int .u32 n] 32)).heap.size = W.heap.size + 1 := by simp
  have b2 : SB ((W.alloc (.cells #[.int .u32 c, .int .u32 n] 32)).alloc (.cells #[.int .u64 s.f0, .int .u32 s.f1] 35)) (W.heap.size + 1) s := s1 ▸ blk_new _ _
  have HB2 := Lib.hid b2
  have hT := h.mod0 (m1.trans m2 (fun _ hk => by cases hk))
  have HT := Lib.hid (And.intro hT (m1.trans m2 (fun _ hk => by cases hk)))
  obtain ⟨hb, kb, Hs, fk, h1, lk, rfl⟩ := h
  have hf : findH c n Hs = none := by
    cases e : findH c n Hs with
    | none => rfl
    | some hh =>
      obtain ⟨hin, rfl, rfl⟩ := findH_some e
      have := byL_some lk h1.ord hin
      rw [hno] at this
      exact absurd (List.map_eq_nil_iff.1 this.symm) (lk.ws hh hin).2
  have H1 : Hid (Bz W ((W.alloc (.cells #[.int .u32 c, .int .u32 n] 32)).alloc (.cells #[.int .u64 s.f0, .int .u32 s.f1] 35)) W.heap.size t hb m kb Hs (L.map pairOf) fk c n) := Lib.hid ((Bz.made h1 c n).mod m2)
  clear m1 m2 hT h1 lk hno b2
  go_enter Try.func32, Try.ntmps32
  go_upto_region 1 with fail
  clear s1
  generalize (W.alloc _).alloc _ = W1 at *
  generalize W.heap.size = q at *
  have HS : Hid (∀ W', Mod W1 W' [] → W'.cell? ⟨t, 0, none⟩ = some (.map (some hb)) ∧ W'.cell? ⟨q, 0, none⟩ = some (.int .u32 c) ∧ W'.cell? ⟨q, 1, none⟩ = some (.int .u32 n) ∧ W'.cell? ⟨q + 1, 0, none⟩ = some (.int .u64 s.f0) ∧ W'.cell? ⟨q + 1, 1, none⟩ = some (.int .u32 s.f1) ∧ (Instr.lookup 101 (.map (some hb)) (.agg #[.int .u32 c, .int .u32 n]) false).run Try.prog W' = .ok (.pointer none) W') := Lib.hid fun W' mm => by
    have h := (H1.out.mod mm).look hk
    rw [hf] at h
    obtain ⟨a, b⟩ := (HB2.out.mod mm (by simp)).all
    exact ⟨h.1, h.2.1, h.2.2.1, a, b, h.2.2.2⟩
  clear hf hk
  obtain ⟨c0, c1, c2, c3, c4, -⟩ := HS.out W1 (Mod.refl _ _)
  have hl : ∀ n', (Instr.lookup 101 (.map (some hb)) (.agg #[.int .u32 c, .int .u32 n]) false).run Try.prog (W1.drewN n') = .ok (.pointer none) (W1.drewN n') := fun n' => (HS.out _ ((Mod.refl _ _).drewN n')).2.2.2.2.2
  go_quiet (fail)
  go_wp2
  go_ret
  exact ⟨rfl, HT.out.1.mod0 ((Mod.refl _ _).drewN _), (HT.out.2.drewN _).mono (fun _ hk => by cases hk)⟩
set_option maxHeartbeats 4000000 in
set_option maxRecDepth 100000 in
theorem raise_f {W : World} {t m : Nat} {L : List S65} {fp : List Nat} (h : Tab W t m L fp) (c n : Int) (s : S35) (hyes : byL L c n ≠ []) (hr : rightB s.f0 s.f1 = false) :
    Calls Try.prog 32 #[.pointer (some ⟨t, 0, none⟩), .agg #[.int .u32 c, .int .u32 n], .agg #[.int .u64 s.f0, .int .u32 s.f1]] W (RaiseP W t m L fp false) := by
  have m1 := ((Mod.refl W []).alloc (.cells #[.int .u32 c, .int .u32 n] 32))
  have m2 := ((Mod.refl (W.alloc (.cells #[.int .u32 c, .int .u32 n] 32)) []).alloc (.cells #[.int .u64 s.f0, .int .u32 s.f1] 35))
  have s1 : (W.alloc (.cells #[.int .u32 c, .int .u32 n] 32)).heap.size = W.heap.size + 1 := by simp
  have b2 : SB ((W.alloc (.cells #[.int .u32 c, .int .u32 n] 32)).alloc (.cells #[.int .u64 s.f0, .int .u32 s.f1] 35)) (W.heap.size + 1) s := s1 ▸ blk_new _ _
  have HT := Lib.hid (And.intro (h.mod0 (m1.trans m2 (fun _ hk => by cases hk))) (m1.trans m2 (fun _ hk => by cases hk)))
  obtain ⟨hb, kb, Hs, fk, h1, lk, rfl⟩ := h
  obtain ⟨hh, hf⟩ : ∃ hh, findH c n Hs = some hh := by
    cases e : findH c n Hs with
    | some hh => exact ⟨hh, rfl⟩
    | none => exact absurd (byL_none lk e) hyes
  obtain ⟨hin, rfl, rfl⟩ := findH_some hf
  have hk : inK hh.c hh.n := h1.rgs hh hin
  have H1 : Hid (Bz W ((W.alloc (.cells #[.int .u32 hh.c, .int .u32 hh.n] 32)).alloc (.cells #[.int .u64 s.f0, .int .u32 s.f1] 35)) W.heap.size t hb m kb Hs (L.map pairOf) fk hh.c hh.n) := Lib.hid ((Bz.made h1 hh.c hh.n).mod m2)
  have HL := Lib.hid lk
  have HI := Lib.hid (And.intro hin (And.intro hk hf))
  have HB2 := Lib.hid b2
  clear m1 m2 h1 lk hyes hin hk hf b2
  go_enter Try.func32, Try.ntmps32
  go_upto_region 1 with fail
  clear s1
  generalize (W.alloc _).alloc _ = W1 at *
  generalize W.heap.size = q at *
  have HS : Hid (∀ W', Mod W1 W' [] → W'.cell? ⟨t, 0, none⟩ = some (.map (some hb)) ∧ W'.cell? ⟨q, 0, none⟩ = some (.int .u32 hh.c) ∧ W'.cell? ⟨q, 1, none⟩ = some (.int .u32 hh.n) ∧ W'.cell? ⟨q + 1, 0, none⟩ = some (.int .u64 s.f0) ∧ W'.cell? ⟨q + 1, 1, none⟩ = some (.int .u32 s.f1) ∧ (Instr.lookup 101 (.map (some hb)) (.agg #[.int .u32 hh.c, .int .u32 hh.n]) false).run Try.prog W' = .ok (.pointer (some ⟨hh.q, 0, none⟩)) W') := Lib.hid fun W' mm => by
    have h := (H1.out.mod mm).look HI.out.2.1
    rw [HI.out.2.2] at h
    obtain ⟨a, b⟩ := (HB2.out.mod mm (by simp)).all
    exact ⟨h.1, h.2.1, h.2.2.1, a, b, h.2.2.2⟩
  go_region_held3 (fun W' => W'.cell? ⟨t, 0, none⟩ = some (.map (some hb)) ∧ W'.cell? ⟨q, 0, none⟩ = some (.int .u32 hh.c) ∧ W'.cell? ⟨q, 1, none⟩ = some (.int .u32 hh.n) ∧ W'.cell? ⟨q + 1, 0, none⟩ = some (.int .u64 s.f0) ∧ W'.cell? ⟨q + 1, 1, none⟩ = some (.int .u32 s.f1) ∧ (Instr.lookup 101 (.map (some hb)) (.agg #[.int .u32 hh.c, .int .u32 hh.n]) false).run Try.prog W' = .ok (.pointer (some ⟨hh.q, 0, none⟩)) W')
    (first | exact HS.out _ (by (with_reducible repeat (first | exact N4.out | exact Mod.refl _ _ | refine Mod.drew ?_)))) (first
    | (go_at_call 42
       (
         refine Calls.mono (right_calls s.f0 s.f1 _) ?_
         rw [hr]
         rintro e V4 ⟨rfl, m4⟩
         have n4 : Mod W1 V4 [] := by
           refine Mod.trans ?_ m4 (fun _ hk => by cases hk)
           (with_reducible repeat (first | exact Mod.refl _ _ | refine Mod.alloc ?_ _ | refine Mod.drewN ?_ _ | refine Mod.drew ?_))
         have N4 := Lib.hid n4
         clear n4 m4)))
  all_goals
    go_wp2
    go_ret
    exact ⟨rfl, HT.out.1.mod0 N4.out, (HT.out.2.trans N4.out (fun _ hk => by cases hk)).mono (fun _ hk => by cases hk)⟩
set_option maxHeartbeats 4000000 in
set_option maxRecDepth 100000 in
theorem raise_t {W : World} {t m : Nat} {L : List S65} {fp : List Nat} (h : Tab W t m L fp) (c n : Int) (s : S35) (hyes : byL L c n ≠ []) (hr : rightB s.f0 s.f1 = true) :
    Calls Try.prog 32 #[.pointer (some ⟨t, 0, none⟩), .agg #[.int .u32 c, .int .u32 n], .agg #[.int .u64 s.f0, .int .u32 s.f1]] W (RaiseP W t m (raiseL L c n s) fp true) := by
  have m1 := ((Mod.refl W []).alloc (.cells #[.int .u32 c, .int .u32 n] 32))
  have m2 := ((Mod.refl (W.alloc (.cells #[.int .u32 c, .int .u32 n] 32)) []).alloc (.cells #[.int .u64 s.f0, .int .u32 s.f1] 35))
  have s1 : (W.alloc (.cells #[.int .u32 c, .int .u32 n] 32)).heap.size = W.heap.size + 1 := by simp
  have b2 : SB ((W.alloc (.cells #[.int .u32 c, .int .u32 n] 32)).alloc (.cells #[.int .u64 s.f0, .int .u32 s.f1] 35)) (W.heap.size + 1) s := s1 ▸ blk_new _ _
  have HT := Lib.hid (And.intro (h.mod0 (m1.trans m2 (fun _ hk => by cases hk))) (m1.trans m2 (fun _ hk => by cases hk)))
  obtain ⟨hb, kb, Hs, fk, h1, lk, rfl⟩ := h
  obtain ⟨hh, hf⟩ : ∃ hh, findH c n Hs = some hh := by
    cases e : findH c n Hs with
    | some hh => exact ⟨hh, rfl⟩
    | none => exact absurd (byL_none lk e) hyes
  obtain ⟨hin, rfl, rfl⟩ := findH_some hf
  have hk : inK hh.c hh.n := h1.rgs hh hin
  have H1 : Hid (Bz W ((W.alloc (.cells #[.int .u32 hh.c, .int .u32 hh.n] 32)).alloc (.cells #[.int .u64 s.f0, .int .u32 s.f1] 35)) W.heap.size t hb m kb Hs (L.map pairOf) fk hh.c hh.n) := Lib.hid ((Bz.made h1 hh.c hh.n).mod m2)
  have HL := Lib.hid lk
  have HI := Lib.hid (And.intro hin (And.intro hk hf))
  have HB2 := Lib.hid b2
  clear m1 m2 h1 lk hyes hin hk hf b2
  go_enter Try.func32, Try.ntmps32
  go_upto_region 1 with fail
  clear s1
  generalize (W.alloc _).alloc _ = W1 at *
  generalize W.heap.size = q at *
  have HS : Hid (∀ W', Mod W1 W' [] → W'.cell? ⟨t, 0, none⟩ = some (.map (some hb)) ∧ W'.cell? ⟨q, 0, none⟩ = some (.int .u32 hh.c) ∧ W'.cell? ⟨q, 1, none⟩ = some (.int .u32 hh.n) ∧ W'.cell? ⟨q + 1, 0, none⟩ = some (.int .u64 s.f0) ∧ W'.cell? ⟨q + 1, 1, none⟩ = some (.int .u32 s.f1) ∧ (Instr.lookup 101 (.map (some hb)) (.agg #[.int .u32 hh.c, .int .u32 hh.n]) false).run Try.prog W' = .ok (.pointer (some ⟨hh.q, 0, none⟩)) W') := Lib.hid fun W' mm => by
    have h := (H1.out.mod mm).look HI.out.2.1
    rw [HI.out.2.2] at h
    obtain ⟨a, b⟩ := (HB2.out.mod mm (by simp)).all
    exact ⟨h.1, h.2.1, h.2.2.1, a, b, h.2.2.2⟩
  go_region_held3 (fun W' => W'.cell? ⟨t, 0, none⟩ = some (.map (some hb)) ∧ W'.cell? ⟨q, 0, none⟩ = some (.int .u32 hh.c) ∧ W'.cell? ⟨q, 1, none⟩ = some (.int .u32 hh.n) ∧ W'.cell? ⟨q + 1, 0, none⟩ = some (.int .u64 s.f0) ∧ W'.cell? ⟨q + 1, 1, none⟩ = some (.int .u32 s.f1) ∧ (Instr.lookup 101 (.map (some hb)) (.agg #[.int .u32 hh.c, .int .u32 hh.n]) false).run Try.prog W' = .ok (.pointer (some ⟨hh.q, 0, none⟩)) W')
    (first | exact HS.out _ (by (with_reducible repeat (first | exact N4.out | exact Mod.refl _ _ | refine Mod.drew ?_)))) (first
    | (go_at_call 42
       (
         refine Calls.mono (right_calls s.f0 s.f1 _) ?_
         rw [hr]
         rintro e V4 ⟨rfl, m4⟩
         have n4 : Mod W1 V4 [] := by
           refine Mod.trans ?_ m4 (fun _ hk => by cases hk)
           (with_reducible repeat (first | exact Mod.refl _ _ | refine Mod.alloc ?_ _ | refine Mod.drewN ?_ _ | refine Mod.drew ?_))
         have N4 := Lib.hid n4
         clear n4 m4)))
  all_goals
    go_upto_region 3 with fail
    have HS3 : Hid (∀ W', Mod V4 W' [] → W'.cell? ⟨t, 0, none⟩ = some (.map (some hb)) ∧ W'.cell? ⟨q, 0, none⟩ = some (.int .u32 hh.c) ∧ W'.cell? ⟨q, 1, none⟩ = some (.int .u32 hh.n) ∧ W'.cell? ⟨q + 1, 0, none⟩ = some (.int .u64 s.f0) ∧ W'.cell? ⟨q + 1, 1, none⟩ = some (.int .u32 s.f1) ∧ (Instr.lookup 101 (.map (some hb)) (.agg #[.int .u32 hh.c, .int .u32 hh.n]) false).run Try.prog W' = .ok (.pointer (some ⟨hh.q, 0, none⟩)) W') := Lib.hid fun W' mm => HS.out W' (N4.out.trans mm (fun _ hk => by cases hk))
    have hk3 := HS3.out V4 (Mod.refl _ _)
    go_region_held3 (fun W' => W'.cell? ⟨t, 0, none⟩ = some (.map (some hb)) ∧ W'.cell? ⟨q, 0, none⟩ = some (.int .u32 hh.c) ∧ W'.cell? ⟨q, 1, none⟩ = some (.int .u32 hh.n) ∧ W'.cell? ⟨q + 1, 0, none⟩ = some (.int .u64 s.f0) ∧ W'.cell? ⟨q + 1, 1, none⟩ = some (.int .u32 s.f1) ∧ (Instr.lookup 101 (.map (some hb)) (.agg #[.int .u32 hh.c, .int .u32 hh.n]) false).run Try.prog W' = .ok (.pointer (some ⟨hh.q, 0, none⟩)) W')
      (first | exact HS3.out _ (by (with_reducible repeat (first | exact Mod.refl _ _ | refine Mod.alloc ?_ _ | refine Mod.drewN ?_ _ | refine Mod.drew ?_)))) (fail)
    have H5 : Hid (Bz W V4.drew q t hb m kb Hs (L.map pairOf) fk hh.c hh.n ∧ Mod W1 V4.drew [] ∧ SB V4.drew (q + 1) s) := Lib.hid ⟨H1.out.mod N4.out.drew, N4.out.drew, HB2.out.mod N4.out.drew (by simp)⟩
    clear HS3 hk3
    generalize V4.drew = V5 at *
    go_upto_region 4 with fail
    obtain ⟨s0, s1⟩ := H5.out.2.2.all
    have hbq := (H5.out.1.hT.hh hh HI.out.1).hq
    have d2 : V5.cell? ⟨hh.q, 2, none⟩ = some (.int .u64 hh.mn.f0) := (blk_cell hbq 2).trans rfl
    have d3 : V5.cell? ⟨hh.q, 3, none⟩ = some (.int .u32 hh.mn.f1) := (blk_cell hbq 3).trans rfl
    have HQ5 := Lib.hid hbq
    clear hbq HS
    go_region_with (first
      | (go_at_call 70
         (
           have mA := (Mod.refl V5.drew []).alloc (.cells #[.int .u64 hh.mn.f0, .int .u32 hh.mn.f1, .int .u64 s.f0, .int .u32 s.f1] 35)
           refine Calls.mono (max_calls hh.mn s (some ⟨V5.drew.heap.size, 0, none⟩) 2 (V5.drew.alloc (.cells #[.int .u64 hh.mn.f0, .int .u32 hh.mn.f1, .int .u64 s.f0, .int .u32 s.f1] 35)) (two35 hh.mn s (blk_new V5.drew _)) (Nat.le_refl _)) ?_
           rintro e V6 ⟨rfl, m6⟩
           have n6 : Mod V5 V6 [] := ((Mod.refl V5 []).drew.trans mA (fun _ hk => by cases hk)).trans m6 (fun _ hk => by cases hk)
           have hb6 := n6.at_ HQ5.out (by simp)
           have e2 : V6.cell? ⟨hh.q, 2, none⟩ = some (.int .u64 hh.mn.f0) := (blk_cell hb6 2).trans rfl
           have e3 : V6.cell? ⟨hh.q, 3, none⟩ = some (.int .u32 hh.mn.f1) := (blk_cell hb6 3).trans rfl
           have f6 := blk_frozen hb6
           have N6 := Lib.hid (And.intro n6 hb6)
           clear mA m6 n6 hb6 s0 s1 d2 d3)))
    all_goals
      go_wp2
      go_ret
      have m7 : Mod V6 ((V6.setCell ⟨hh.q, 2, none⟩ (.int .u64 (mx2 hh.mn s).f0)).setCell ⟨hh.q, 3, none⟩ (.int .u32 (mx2 hh.mn s).f1)) [hh.q] := ((Mod.refl V6 [hh.q]).setCell (p := ⟨hh.q, 2, none⟩) (.inl (by simp)) _).setCell (p := ⟨hh.q, 3, none⟩) (.inl (by simp)) _
      have b7 : ((V6.setCell ⟨hh.q, 2, none⟩ (.int .u64 (mx2 hh.mn s).f0)).setCell ⟨hh.q, 3, none⟩ (.int .u32 (mx2 hh.mn s).f1)).heap[hh.q]? = some (.cells #[.int .u64 hh.st.f0, .int .u32 hh.st.f1, .int .u64 (mx2 hh.mn s).f0, .int .u32 (mx2 hh.mn s).f1, .string hh.pr, .slice hh.A hh.ws.length hh.k] 116 (0, 0)) := by
        refine blk_put (cs := #[.int .u64 hh.st.f0, .int .u32 hh.st.f1, .int .u64 (mx2 hh.mn s).f0, .int .u32 hh.mn.f1, .string hh.pr, .slice hh.A hh.ws.length hh.k]) ?_ 3 _ rfl
        refine blk_put (cs := #[.int .u64 hh.st.f0, .int .u32 hh.st.f1, .int .u64 hh.mn.f0, .int .u32 hh.mn.f1, .string hh.pr, .slice hh.A hh.ws.length hh.k]) ?_ 2 _ rfl
        exact N6.out.2
      have T6 := H5.out.1.hT.mod0 N6.out.1
      have hq : hh.q ∈ blocks t hb fk Hs := in_blocks.2 (.inr (.inr (.inr ⟨hh, HI.out.1, by simp [Hd.bl]⟩)))
      have T7 := T6.raise HI.out.1 s b7 m7
      rw [← raise_pairs L hh.c hh.n s] at T7
      have hfl : (Hs.map (raiseH hh.c hh.n s)).flatMap Hd.bl = Hs.flatMap Hd.bl := by
        rw [List.flatMap_map]
        congr 1
        funext x
        exact (raiseH_f hh.c hh.n s x).2.2.2.2.2.2
      refine ⟨rfl, ⟨hb, kb, _, fk, T7, HL.out.raise hh.c hh.n s, by unfold blocks; rw [hfl]⟩, ?_⟩
      exact (((H5.out.1.hM.trans N6.out.1 (fun _ hk => by cases hk)).mono (fun _ hk => by cases hk)).trans m7 (fun k hk => by simp at hk; subst hk; exact .inl hq))
theorem raise_calls {W : World} {t m : Nat} {L : List S65} {fp : List Nat} (h : Tab W t m L fp) (c n : Int) (hk : inK c n) (s : S35) {r : Bool} {L' : List S65} (hr : (decide (byL L c n ≠ []) && rightB s.f0 s.f1) = r) (hL : (if r = true then raiseL L c n s else L) = L') :
    Calls Try.prog 32 #[.pointer (some ⟨t, 0, none⟩), .agg #[.int .u32 c, .int .u32 n], .agg #[.int .u64 s.f0, .int .u32 s.f1]] W (RaiseP W t m L' fp r) := by
  subst hr hL
  by_cases e : byL L c n = []
  · rw [decide_eq_false (fun h => h e), Bool.false_and, if_neg (by simp)]
    exact raise_no h c n hk s e
  · rw [decide_eq_true e, Bool.true_and]
    cases e2 : rightB s.f0 s.f1
    · rw [if_neg (by simp)]
      exact raise_f h c n s e e2
    · rw [if_pos rfl]
      exact raise_t h c n s e e2
end Go.Proofs.Ytdelbidaclddgaa.Lat
