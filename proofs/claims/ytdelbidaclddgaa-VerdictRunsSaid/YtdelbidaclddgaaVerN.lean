/- The layer 'verdict': VerN; a seat's own text, no law of its own. -/
import Derived.Test.YtdelbidaclddgaaVerM
import Derived.Deep.LoopGhost
import Derived.Deep.Cut
import Derived.Lib.Hide
import Derived.StillTailTactics
import Derived.Deep.QuietTactic
import Derived.BigQuiet
import Derived.Outline
import Derived.Deep.RegionWith
import Derived.Deep.RegionHeld3
import Derived.WalkLawsBesides
namespace Go.Proofs.Ytdelbidaclddgaa.Ver
open Go.RowKit Go.Proofs.YtdelbidaclddgaaW.PrintWords Go.Proofs.Ytdelbidaclddgaa.MVerdictRuns Go.Proofs.YtdelbidaclddgaaW.PrintLast
set_option linter.unusedVariables false
set_option linter.unusedSimpArgs false
/-! VerdictStays, walked -/
attribute [local go_sem high] eqA32 eqA35 eqA37
structure Sy (w V : World) (g p b m : Nat) (u : S37) (L : List S37) : Prop where
  hV : BV V g u
  hB : Book V p b m L
  hM : Mod w V []
  hg : w.heap.size ≤ g
  hb : w.heap.size ≤ b
theorem Sy.ne {w V : World} {g p b m : Nat} {u : S37} {L : List S37} (h : Sy w V g p b m u L) : g ≠ b := by
  intro e
  obtain ⟨es, clock, hb, _⟩ := h.hB.hm
  have := h.hV
  unfold BV at this
  rw [e, hb] at this
  cases this
theorem Sy.step {w V V' : World} {g p b m m' : Nat} {u : S37} {L L' : List S37} (h : Sy w V g p b m u L) (hB : Book V' p b m' L') (m1 : Mod V V' [b]) : Sy w V' g p b m' u L' :=
  ⟨h.hV.mod m1 (by simpa using h.ne), hB, h.hM.trans m1 (fun k hk => by simp at hk; subst hk; exact .inr h.hb), h.hg, h.hb⟩
theorem Sy.mod {w V V' : World} {g p b m : Nat} {u : S37} {L : List S37} (h : Sy w V g p b m u L) (m1 : Mod V V' []) : Sy w V' g p b m u L :=
  ⟨h.hV.mod m1 (by simp), h.hB.mod m1 (by simp) (by simp), h.hM.trans m1 (fun k hk => by cases hk), h.hg, h.hb⟩
theorem add_add (ad : Addr) (n i : Nat) (hi : 0 < i) : ad.add (n + i) = ⟨(ad.add n).block, (ad.add n).off + i, none⟩ := add_field ad n i hi
/-- an act's twelve cells in its row, and its names -/
theorem act_cells {w : World} {A : Option Addr} {l : List S40} (h : Kd.C k40 w A l.length l) (j : Nat) (hj : j < l.length) : ∃ ad A' c', A = some ad ∧ l[j].f3.length ≤ c' ∧ Kd.C k32 w A' l[j].f3.length l[j].f3 ∧ w.cell? (ad.add (j * 12)) = some (.int .i64 l[j].f0) ∧
    w.cell? ⟨(ad.add (j * 12)).block, (ad.add (j * 12)).off + 1, none⟩ = some (.int .u32 l[j].f1.f0.f0) ∧ w.cell? ⟨(ad.add (j * 12)).block, (ad.add (j * 12)).off + 2, none⟩ = some (.int .u32 l[j].f1.f0.f1) ∧
    w.cell? ⟨(ad.add (j * 12)).block, (ad.add (j * 12)).off + 3, none⟩ = some (.int .u64 l[j].f1.f1.f0) ∧ w.cell? ⟨(ad.add (j * 12)).block, (ad.add (j * 12)).off + 4, none⟩ = some (.int .u32 l[j].f1.f1.f1) ∧
    w.cell? ⟨(ad.add (j * 12)).block, (ad.add (j * 12)).off + 5, none⟩ = some (.int .u64 l[j].f1.f2.f0) ∧ w.cell? ⟨(ad.add (j * 12)).block, (ad.add (j * 12)).off + 6, none⟩ = some (.int .u32 l[j].f1.f2.f1) ∧
    w.cell? ⟨(ad.add (j * 12)).block, (ad.add (j * 12)).off + 7, none⟩ = some (.int .u8 l[j].f1.f3) ∧ w.cell? ⟨(ad.add (j * 12)).block, (ad.add (j * 12)).off + 8, none⟩ = some (.bool l[j].f1.f4) ∧
    w.cell? ⟨(ad.add (j * 12)).block, (ad.add (j * 12)).off + 9, none⟩ = some (.int .u64 l[j].f2.f0) ∧ w.cell? ⟨(ad.add (j * 12)).block, (ad.add (j * 12)).off + 10, none⟩ = some (.int .u32 l[j].f2.f1) ∧
    w.cell? ⟨(ad.add (j * 12)).block, (ad.add (j * 12)).off + 11, none⟩ = some (.slice A' l[j].f3.length c') := by
  obtain ⟨ad, hA, hc⟩ := h.2.2 (by omega)
  obtain ⟨c, h1, h2, h3⟩ := hc j _ (List.getElem?_eq_getElem hj)
  obtain ⟨A', c', e, q1, q2⟩ := k40_open h2
  subst e
  have hp : ∀ i (u : Value), 0 < i → [Value.int .i64 l[j].f0, .int .u32 l[j].f1.f0.f0, .int .u32 l[j].f1.f0.f1, .int .u64 l[j].f1.f1.f0, .int .u32 l[j].f1.f1.f1, .int .u64 l[j].f1.f2.f0, .int .u32 l[j].f1.f2.f1, .int .u8 l[j].f1.f3, .bool l[j].f1.f4, .int .u64 l[j].f2.f0, .int .u32 l[j].f2.f1, .slice A' l[j].f3.length c'][i]? = some u → w.cell? ⟨(ad.add (j * 12)).block, (ad.add (j * 12)).off + i, none⟩ = some u := fun i u hi hu => by
    rw [← add_add ad (j * 12) i hi]; exact h3 i _ hu
  exact ⟨ad, A', c', hA, q1, q2, h3 0 _ rfl, hp 1 _ (by omega) rfl, hp 2 _ (by omega) rfl, hp 3 _ (by omega) rfl, hp 4 _ (by omega) rfl, hp 5 _ (by omega) rfl, hp 6 _ (by omega) rfl, hp 7 _ (by omega) rfl, hp 8 _ (by omega) rfl, hp 9 _ (by omega) rfl, hp 10 _ (by omega) rfl, hp 11 _ (by omega) rfl⟩
def okAct (a : S40) : Prop := Rng kcV knV a.f1 ∧ a.f3.length ≤ 17592186043904
theorem set_first (u : S37) : setR [] u = if badB u = true then (1, []) else (0, [u]) := by
  unfold setR
  split
  · rfl
  · rfl
theorem Sy.nep {w V : World} {g p b m : Nat} {u : S37} {L : List S37} (h : Sy w V g p b m u L) : g ≠ p := by
  intro e
  have h1 := h.hV
  unfold BV at h1
  have h2 := h.hB.hp
  rw [← e, h1] at h2
  cases h2
theorem Sy.put {w V : World} {g p b m : Nat} {v : S37} {L : List S37} (h : Sy w V g p b m v L) (x : Bool) : Sy w (V.setCell ⟨g, 7, none⟩ (.bool x)) g p b m { v with f4 := x } L := by
  have m1 : Mod V (V.setCell ⟨g, 7, none⟩ (.bool x)) [g] := (Mod.refl V [g]).setCell (p := ⟨g, 7, none⟩) (.inl (by simp)) _
  exact ⟨blk_put h.hV 7 _ rfl, h.hB.mod m1 (by simpa using h.nep.symm) (by simpa using h.ne.symm), h.hM.trans m1 (fun k hk => by simp at hk; subst hk; exact .inr h.hg), h.hg, h.hb⟩
theorem set_enc {W : World} {p b m : Nat} {L : List S37} (h : Book W p b m L) (hm : m < maxLen) (u : S37) (hr : Rng kcV knV u) :
    Calls Try.prog 14 #[.pointer (some ⟨p, 0, none⟩), .agg #[.int .u32 u.f0.f0, .int .u32 u.f0.f1, .int .u64 u.f1.f0, .int .u32 u.f1.f1, .int .u64 u.f2.f0, .int .u32 u.f2.f1, .int .u8 u.f3, .bool u.f4]] W (SetP W p b m (setR L u)) := set_calls h hm u hr
theorem of_enc {W : World} {p b m : Nat} {L : List S37} (h : Book W p b m L) (c n : Int) (hk : inK c n) (x : S37) (ok : Bool) (hx : (findV c n L).getD z37 = x) (ho : (findV c n L).isSome = ok) :
    Calls Try.prog 20 #[.pointer (some ⟨p, 0, none⟩), .agg #[.int .u32 c, .int .u32 n]] W fun e W' => e = .returned (.tuple #[.agg #[.int .u32 x.f0.f0, .int .u32 x.f0.f1, .int .u64 x.f1.f0, .int .u32 x.f1.f1, .int .u64 x.f2.f0, .int .u32 x.f2.f1, .int .u8 x.f3, .bool x.f4], .bool ok]) ∧ Mod W W' [] := by
  have h1 := of_calls h hk
  rw [hx, ho] at h1
  exact h1
theorem info32 : (Try.prog.info? 32).map (fun i => (i.zero, i.size, i.bytes)) = some (some (.agg #[.int .u32 0, .int .u32 0]), 2, 8) := by kernel_rfl
/-- a row of one name, just built -/
theorem built1 (V : World) (c n : Int) (ok : Nat → Prop) (hok : ok V.heap.size) : k32.R 32 (V.alloc (.cells #[.int .u32 c, .int .u32 n] 32)) 0 ok (.slice (some ⟨V.heap.size, 0, none⟩) 1 1) [⟨c, n⟩] := by
  refine ⟨fun k hk => ?_, [.int .u32 c, .int .u32 n], ⟨rfl, .inr ⟨V.heap.size, 1, _, rfl, Nat.zero_le _, blk_new V _, Nat.le_refl _, by decide, rfl, rfl⟩⟩, rfl, fun j p hj => ?_⟩
  · simp only [Value.ownBlock, Option.some.injEq] at hk
    subst hk
    exact hok
  · match j, hj with
    | 0, hj =>
      obtain rfl := Option.some.inj hj
      exact k32_mkM _ _ _ ⟨c, n⟩
theorem i64w {a : Int} (h1 : -9000000000000 ≤ a) (h2 : a ≤ 9000000000000) : IntKind.i64.wrap a = a := by unfold IntKind.wrap; simp [IntKind.signed, IntKind.bits]; omega
theorem Sy.alloc {w V : World} {g p b m : Nat} {u : S37} {L : List S37} (h : Sy w V g p b m u L) (o : Obj) : Sy w (V.alloc o) g p b m u L := h.mod ((Mod.refl V []).alloc o)
theorem Sy.mono {w V : World} {g p b m m' : Nat} {u : S37} {L : List S37} (h : Sy w V g p b m u L) (hm : m ≤ m') : Sy w V g p b m' u L := ⟨h.hV, h.hB.mono hm, h.hM, h.hg, h.hb⟩
theorem inv_own {L : List S37} {u : S37} {d : Bool} (h : Inv L u d) : Inv (retL ⟨u.f1.f0, u.f1.f1⟩ [] L) u d := inv_ret h _ _ (by
  unfold diesB
  have e : lessB u.f1.f0 u.f1.f1 u.f1.f0 u.f1.f1 = false := by unfold lessB; simp
  show (lessB u.f1.f0 u.f1.f1 u.f1.f0 u.f1.f1 && _ && _) = false
  rw [e]; rfl)
theorem Inv.get {L : List S37} {u : S37} {d : Bool} (h : Inv L u d) : (findV u.f0.f0 u.f0.f1 L).getD z37 = { u with f4 := d } ∧ (findV u.f0.f0 u.f0.f1 L).isSome = true := by rw [h.1]; exact ⟨rfl, rfl⟩
theorem Rng.inK {u : S37} (h : Rng kcV knV u) : inK u.f0.f0 u.f0.f1 := h
end Go.Proofs.Ytdelbidaclddgaa.Ver
