/- The layer 'latch': LatA; a seat's own text, no law of its own. -/
import Derived.Test.YtdelbidaclddgaaLatOrdMaps
import Derived.Laws.Strings
import Derived.Deep.LoopGhost
import Derived.Deep.Cut
import Derived.Lib.Hide
import Derived.StillTailTactics
import Derived.Deep.QuietTactic
import Derived.BigQuiet
import Derived.Outline
import Derived.Deep.RegionWith
import Derived.Deep.RegionHeld3
import Derived.WalkLawsBesides
namespace Go.Proofs.Ytdelbidaclddgaa.Lat
open Go.RowKit Go.Proofs.YtdelbidaclddgaaW.PrintWords Go.Proofs.Ytdelbidaclddgaa.MLatchRuns Go.Proofs.YtdelbidaclddgaaW.PrintLast
set_option linter.unusedVariables false
set_option linter.unusedSimpArgs false
/-! the table: holders by names, owners by keys; as a list of intents in the order of keys -/
theorem Mod.of_below {W W' : World} (h : Below W.heap.size W W') : Mod W W' [] := ⟨h.os, h.tape, h.output, h.size, fun k hk _ => h.block k hk⟩
theorem i64w {a : Int} (h1 : -9000000000000 ≤ a) (h2 : a ≤ 9000000000000) : IntKind.i64.wrap a = a := by unfold IntKind.wrap; simp [IntKind.signed, IntKind.bits]; omega
theorem plain63 : Plain k63 := fun _ _ _ _ _ _ _ _ h => by
  have e := k63_openM h
  subst e
  exact k63_mkM _ _ _ _
theorem plain65 : Plain k65 := fun _ _ _ _ _ _ _ _ h => by
  have e := k65_openM h
  subst e
  exact k65_mkM _ _ _ _
theorem bytes_ext {a b : ByteArray} (h : a.toList = b.toList) : a = b := by
  have e : a.data.toList = b.data.toList := by rw [← ByteArray.toList_eq, ← ByteArray.toList_eq]; exact h
  have e2 := Array.toList_inj.1 e
  cases a; cases b
  exact congrArg ByteArray.mk e2
def NB (W : World) (g : Nat) (x : S32) : Prop := W.heap[g]? = some (.cells #[.int .u32 x.f0, .int .u32 x.f1] 32 (0, 0))
theorem NB.all {W : World} {g : Nat} {x : S32} (h : NB W g x) : W.cell? ⟨g, 0, none⟩ = some (.int .u32 x.f0) ∧ W.cell? ⟨g, 1, none⟩ = some (.int .u32 x.f1) :=
  ⟨(blk_cell h 0).trans rfl, (blk_cell h 1).trans rfl⟩
theorem NB.mod {W W' : World} {g : Nat} {x : S32} {fp : List Nat} (h : NB W g x) (m : Mod W W' fp) (hn : g ∉ fp) : NB W' g x := m.at_ h hn
def putNB (W : World) (g : Nat) (x : S32) : World := ((W.setCell ⟨g, 0, none⟩ (.int .u32 x.f0)).setCell ⟨g, 1, none⟩ (.int .u32 x.f1))
theorem NB.put {W : World} {g : Nat} {u : S32} (h : NB W g u) (x : S32) : NB (putNB W g x) g x := by
  unfold NB at h ⊢
  unfold putNB
  refine blk_put (cs := #[.int .u32 x.f0, .int .u32 u.f1]) ?_ 1 _ rfl
  refine blk_put (cs := #[.int .u32 u.f0, .int .u32 u.f1]) ?_ 0 _ rfl
  exact h
theorem Mod.putNB {W W' : World} {fp : List Nat} (h : Mod W W' fp) {g : Nat} (hp : g ∈ fp ∨ W.heap.size ≤ g) (x : S32) : Mod W (putNB W' g x) fp := by
  unfold Lat.putNB
  exact (h.setCell (p := ⟨g, 0, none⟩) hp _).setCell (p := ⟨g, 1, none⟩) hp _

def SB (W : World) (g : Nat) (x : S35) : Prop := W.heap[g]? = some (.cells #[.int .u64 x.f0, .int .u32 x.f1] 35 (0, 0))
theorem SB.all {W : World} {g : Nat} {x : S35} (h : SB W g x) : W.cell? ⟨g, 0, none⟩ = some (.int .u64 x.f0) ∧ W.cell? ⟨g, 1, none⟩ = some (.int .u32 x.f1) :=
  ⟨(blk_cell h 0).trans rfl, (blk_cell h 1).trans rfl⟩
theorem SB.mod {W W' : World} {g : Nat} {x : S35} {fp : List Nat} (h : SB W g x) (m : Mod W W' fp) (hn : g ∉ fp) : SB W' g x := m.at_ h hn
def putSB (W : World) (g : Nat) (x : S35) : World := ((W.setCell ⟨g, 0, none⟩ (.int .u64 x.f0)).setCell ⟨g, 1, none⟩ (.int .u32 x.f1))
theorem SB.put {W : World} {g : Nat} {u : S35} (h : SB W g u) (x : S35) : SB (putSB W g x) g x := by
  unfold SB at h ⊢
  unfold putSB
  refine blk_put (cs := #[.int .u64 x.f0, .int .u32 u.f1]) ?_ 1 _ rfl
  refine blk_put (cs := #[.int .u64 u.f0, .int .u32 u.f1]) ?_ 0 _ rfl
  exact h
theorem Mod.putSB {W W' : World} {fp : List Nat} (h : Mod W W' fp) {g : Nat} (hp : g ∈ fp ∨ W.heap.size ≤ g) (x : S35) : Mod W (putSB W' g x) fp := by
  unfold Lat.putSB
  exact (h.setCell (p := ⟨g, 0, none⟩) hp _).setCell (p := ⟨g, 1, none⟩) hp _

def WB (W : World) (g : Nat) (x : S63) : Prop := W.heap[g]? = some (.cells #[.string x.f0, .string x.f1, .bool x.f2] 63 (0, 0))
theorem WB.all {W : World} {g : Nat} {x : S63} (h : WB W g x) : W.cell? ⟨g, 0, none⟩ = some (.string x.f0) ∧ W.cell? ⟨g, 1, none⟩ = some (.string x.f1) ∧ W.cell? ⟨g, 2, none⟩ = some (.bool x.f2) :=
  ⟨(blk_cell h 0).trans rfl, (blk_cell h 1).trans rfl, (blk_cell h 2).trans rfl⟩
theorem WB.mod {W W' : World} {g : Nat} {x : S63} {fp : List Nat} (h : WB W g x) (m : Mod W W' fp) (hn : g ∉ fp) : WB W' g x := m.at_ h hn
def putWB (W : World) (g : Nat) (x : S63) : World := (((W.setCell ⟨g, 0, none⟩ (.string x.f0)).setCell ⟨g, 1, none⟩ (.string x.f1)).setCell ⟨g, 2, none⟩ (.bool x.f2))
theorem WB.put {W : World} {g : Nat} {u : S63} (h : WB W g u) (x : S63) : WB (putWB W g x) g x := by
  unfold WB at h ⊢
  unfold putWB
  refine blk_put (cs := #[.string x.f0, .string x.f1, .bool u.f2]) ?_ 2 _ rfl
  refine blk_put (cs := #[.string x.f0, .string u.f1, .bool u.f2]) ?_ 1 _ rfl
  refine blk_put (cs := #[.string u.f0, .string u.f1, .bool u.f2]) ?_ 0 _ rfl
  exact h
theorem Mod.putWB {W W' : World} {fp : List Nat} (h : Mod W W' fp) {g : Nat} (hp : g ∈ fp ∨ W.heap.size ≤ g) (x : S63) : Mod W (putWB W' g x) fp := by
  unfold Lat.putWB
  exact ((h.setCell (p := ⟨g, 0, none⟩) hp _).setCell (p := ⟨g, 1, none⟩) hp _).setCell (p := ⟨g, 2, none⟩) hp _

def IB (W : World) (g : Nat) (x : S65) : Prop := W.heap[g]? = some (.cells #[.int .u32 x.f0.f0, .int .u32 x.f0.f1, .int .u64 x.f1.f0, .int .u32 x.f1.f1, .int .u64 x.f2.f0, .int .u32 x.f2.f1, .string x.f3, .string x.f4.f0, .string x.f4.f1, .bool x.f4.f2] 65 (0, 0))
theorem IB.all {W : World} {g : Nat} {x : S65} (h : IB W g x) : W.cell? ⟨g, 0, none⟩ = some (.int .u32 x.f0.f0) ∧ W.cell? ⟨g, 1, none⟩ = some (.int .u32 x.f0.f1) ∧ W.cell? ⟨g, 2, none⟩ = some (.int .u64 x.f1.f0) ∧ W.cell? ⟨g, 3, none⟩ = some (.int .u32 x.f1.f1) ∧ W.cell? ⟨g, 4, none⟩ = some (.int .u64 x.f2.f0) ∧ W.cell? ⟨g, 5, none⟩ = some (.int .u32 x.f2.f1) ∧ W.cell? ⟨g, 6, none⟩ = some (.string x.f3) ∧ W.cell? ⟨g, 7, none⟩ = some (.string x.f4.f0) ∧ W.cell? ⟨g, 8, none⟩ = some (.string x.f4.f1) ∧ W.cell? ⟨g, 9, none⟩ = some (.bool x.f4.f2) :=
  ⟨(blk_cell h 0).trans rfl, (blk_cell h 1).trans rfl, (blk_cell h 2).trans rfl, (blk_cell h 3).trans rfl, (blk_cell h 4).trans rfl, (blk_cell h 5).trans rfl, (blk_cell h 6).trans rfl, (blk_cell h 7).trans rfl, (blk_cell h 8).trans rfl, (blk_cell h 9).trans rfl⟩
theorem IB.mod {W W' : World} {g : Nat} {x : S65} {fp : List Nat} (h : IB W g x) (m : Mod W W' fp) (hn : g ∉ fp) : IB W' g x := m.at_ h hn
def putIB (W : World) (g : Nat) (x : S65) : World := ((((((((((W.setCell ⟨g, 0, none⟩ (.int .u32 x.f0.f0)).setCell ⟨g, 1, none⟩ (.int .u32 x.f0.f1)).setCell ⟨g, 2, none⟩ (.int .u64 x.f1.f0)).setCell ⟨g, 3, none⟩ (.int .u32 x.f1.f1)).setCell ⟨g, 4, none⟩ (.int .u64 x.f2.f0)).setCell ⟨g, 5, none⟩ (.int .u32 x.f2.f1)).setCell ⟨g, 6, none⟩ (.string x.f3)).setCell ⟨g, 7, none⟩ (.string x.f4.f0)).setCell ⟨g, 8, none⟩ (.string x.f4.f1)).setCell ⟨g, 9, none⟩ (.bool x.f4.f2))
theorem IB.put {W : World} {g : Nat} {u : S65} (h : IB W g u) (x : S65) : IB (putIB W g x) g x := by
  unfold IB at h ⊢
  unfold putIB
  refine blk_put (cs := #[.int .u32 x.f0.f0, .int .u32 x.f0.f1, .int .u64 x.f1.f0, .int .u32 x.f1.f1, .int .u64 x.f2.f0, .int .u32 x.f2.f1, .string x.f3, .string x.f4.f0, .string x.f4.f1, .bool u.f4.f2]) ?_ 9 _ rfl
  refine blk_put (cs := #[.int .u32 x.f0.f0, .int .u32 x.f0.f1, .int .u64 x.f1.f0, .int .u32 x.f1.f1, .int .u64 x.f2.f0, .int .u32 x.f2.f1, .string x.f3, .string x.f4.f0, .string u.f4.f1, .bool u.f4.f2]) ?_ 8 _ rfl
  refine blk_put (cs := #[.int .u32 x.f0.f0, .int .u32 x.f0.f1, .int .u64 x.f1.f0, .int .u32 x.f1.f1, .int .u64 x.f2.f0, .int .u32 x.f2.f1, .string x.f3, .string u.f4.f0, .string u.f4.f1, .bool u.f4.f2]) ?_ 7 _ rfl
  refine blk_put (cs := #[.int .u32 x.f0.f0, .int .u32 x.f0.f1, .int .u64 x.f1.f0, .int .u32 x.f1.f1, .int .u64 x.f2.f0, .int .u32 x.f2.f1, .string u.f3, .string u.f4.f0, .string u.f4.f1, .bool u.f4.f2]) ?_ 6 _ rfl
  refine blk_put (cs := #[.int .u32 x.f0.f0, .int .u32 x.f0.f1, .int .u64 x.f1.f0, .int .u32 x.f1.f1, .int .u64 x.f2.f0, .int .u32 u.f2.f1, .string u.f3, .string u.f4.f0, .string u.f4.f1, .bool u.f4.f2]) ?_ 5 _ rfl
  refine blk_put (cs := #[.int .u32 x.f0.f0, .int .u32 x.f0.f1, .int .u64 x.f1.f0, .int .u32 x.f1.f1, .int .u64 u.f2.f0, .int .u32 u.f2.f1, .string u.f3, .string u.f4.f0, .string u.f4.f1, .bool u.f4.f2]) ?_ 4 _ rfl
  refine blk_put (cs := #[.int .u32 x.f0.f0, .int .u32 x.f0.f1, .int .u64 x.f1.f0, .int .u32 u.f1.f1, .int .u64 u.f2.f0, .int .u32 u.f2.f1, .string u.f3, .string u.f4.f0, .string u.f4.f1, .bool u.f4.f2]) ?_ 3 _ rfl
  refine blk_put (cs := #[.int .u32 x.f0.f0, .int .u32 x.f0.f1, .int .u64 u.f1.f0, .int .u32 u.f1.f1, .int .u64 u.f2.f0, .int .u32 u.f2.f1, .string u.f3, .string u.f4.f0, .string u.f4.f1, .bool u.f4.f2]) ?_ 2 _ rfl
  refine blk_put (cs := #[.int .u32 x.f0.f0, .int .u32 u.f0.f1, .int .u64 u.f1.f0, .int .u32 u.f1.f1, .int .u64 u.f2.f0, .int .u32 u.f2.f1, .string u.f3, .string u.f4.f0, .string u.f4.f1, .bool u.f4.f2]) ?_ 1 _ rfl
  refine blk_put (cs := #[.int .u32 u.f0.f0, .int .u32 u.f0.f1, .int .u64 u.f1.f0, .int .u32 u.f1.f1, .int .u64 u.f2.f0, .int .u32 u.f2.f1, .string u.f3, .string u.f4.f0, .string u.f4.f1, .bool u.f4.f2]) ?_ 0 _ rfl
  exact h
theorem Mod.putIB {W W' : World} {fp : List Nat} (h : Mod W W' fp) {g : Nat} (hp : g ∈ fp ∨ W.heap.size ≤ g) (x : S65) : Mod W (putIB W' g x) fp := by
  unfold Lat.putIB
  exact (((((((((h.setCell (p := ⟨g, 0, none⟩) hp _).setCell (p := ⟨g, 1, none⟩) hp _).setCell (p := ⟨g, 2, none⟩) hp _).setCell (p := ⟨g, 3, none⟩) hp _).setCell (p := ⟨g, 4, none⟩) hp _).setCell (p := ⟨g, 5, none⟩) hp _).setCell (p := ⟨g, 6, none⟩) hp _).setCell (p := ⟨g, 7, none⟩) hp _).setCell (p := ⟨g, 8, none⟩) hp _).setCell (p := ⟨g, 9, none⟩) hp _

structure Hd where
  c : Int
  n : Int
  q : Nat
  st : S35
  mn : S35
  pr : ByteArray
  A : Option Addr
  k : Nat
  ws : List S63
abbrev Hd.v (h : Hd) : Value := .slice h.A h.ws.length h.k
def Hd.bl (h : Hd) : List Nat := h.q :: ownList (.slice h.A h.ws.length h.k)
/-- what an intent of this holder is -/
def Hd.mk' (h : Hd) (w : S63) : S65 := ⟨⟨h.c, h.n⟩, h.st, h.mn, h.pr, w⟩
def gQ (q : Int) : DataW Unit := .lit (.int .u64 q)
theorem gQ_inj {a b : Int} (h : gQ a = gQ b) : a = b := by
  unfold gQ at h
  injection h with h
  injection h
def RPt (v : Value) : Option (DataW Unit × List MemPlace) := match v with
  | .pointer none => some (gQ (-1), [])
  | .pointer (some ⟨b, 0, none⟩) => some (gQ b, [])
  | _ => none
def ptQ (h : Option Hd) : Value := .pointer (h.map fun h => ⟨h.q, 0, none⟩)
theorem RPt_inv {val : Value} {o : Option Hd} {ps : List MemPlace} (h : RPt val = some ((o.map fun h => gQ h.q).getD (gQ (-1)), ps)) : val = ptQ o := by
  unfold RPt at h
  split at h
  · have e := (Prod.mk.inj (Option.some.inj h)).1
    cases o with
    | none => rfl
    | some y => have e2 : (-1 : Int) = (y.q : Int) := gQ_inj e; omega
  · rename_i b
    have e := (Prod.mk.inj (Option.some.inj h)).1
    cases o with
    | none => have e2 : (b : Int) = -1 := gQ_inj e; omega
    | some y =>
      have e2 : (b : Int) = (y.q : Int) := gQ_inj e
      have e3 : b = y.q := by omega
      subst e3
      rfl
  · cases h
abbrev HD (Hs : List Hd) : DataW Unit := mapD Hd.c Hd.n (fun h => gQ h.q) Hs
abbrev OrdH (Hs : List Hd) : Prop := Ord2 Hd.c Hd.n Hs
abbrev RgsH (Hs : List Hd) : Prop := Rgs Hd.c Hd.n Hs
abbrev findH (c n : Int) (Hs : List Hd) : Option Hd := vfind Hd.c Hd.n c n Hs
theorem zero112 (w : World) : (zeroValue 112).run Try.prog w = .ok (.pointer none) w := by kernel_rfl
theorem hlook {W : World} {hb m : Nat} {Hs : List Hd} (h : W.ownsMap Try.prog 32 RPt hb m (HD Hs)) (hr : RgsH Hs) {c n : Int} (hk : inK c n) :
    (Instr.lookup 101 (.map (some hb)) (.agg #[.int .u32 c, .int .u32 n]) false).run Try.prog W = .ok (ptQ (findH c n Hs)) W := by
  obtain ⟨v, ps, hrun, hv⟩ := h.lookup law32 Try.underlying101 (zero112 W) (show RPt (.pointer none) = some (gQ (-1), []) from rfl) (key_of hk)
  obtain ⟨h1, h2, h3, h4⟩ := hk
  rw [map_at h1 h2 h3 h4 Hs hr] at hv
  rw [← RPt_inv hv]
  exact hrun
structure HB (W : World) (h : Hd) : Prop where
  hq : W.heap[h.q]? = some (.cells #[.int .u64 h.st.f0, .int .u32 h.st.f1, .int .u64 h.mn.f0, .int .u32 h.mn.f1, .string h.pr, .slice h.A h.ws.length h.k] 116 (0, 0))
  hr : Row k63 63 W (.slice h.A h.ws.length h.k) h.ws
  nq : h.q ∉ ownList (.slice h.A h.ws.length h.k)
theorem HB.mod {W W' : World} {h : Hd} {fp : List Nat} (b : HB W h) (m : Mod W W' fp) (hd : ∀ x ∈ h.bl, x ∉ fp) : HB W' h :=
  ⟨m.at_ b.hq (hd _ (by simp [Hd.bl])), b.hr.mod plain63 m (fun y hy => hd y (by simp [Hd.bl, hy])), b.nq⟩
theorem HB.lt {W : World} {h : Hd} (b : HB W h) : ∀ x ∈ h.bl, x < W.heap.size := fun x hx => by
  rcases List.mem_cons.1 hx with rfl | hx
  · exact blk_lt b.hq
  · exact b.hr.lt x hx
structure TB (W : World) (t hb m kb : Nat) (Hs : List Hd) (K : List (ByteArray × S105)) (fk : List Nat) : Prop where
  ht : W.heap[t]? = some (.cells #[.map (some hb), .pointer (some ⟨kb, 0, none⟩)] 107 (0, 0))
  hm : W.ownsMap Try.prog 32 RPt hb m (HD Hs)
  ord : OrdH Hs
  rgs : RgsH Hs
  hk : MapF W kb K fk
  hh : ∀ h ∈ Hs, HB W h
  a1 : t ∉ fk
  a2 : hb ∉ fk
  b1 : ∀ h ∈ Hs, t ∉ h.bl ∧ hb ∉ h.bl ∧ ∀ y ∈ h.bl, y ∉ fk
  b2 : Hs.Pairwise fun x y => ∀ z ∈ x.bl, z ∉ y.bl
def blocks (t hb : Nat) (fk : List Nat) (Hs : List Hd) : List Nat := t :: hb :: (fk ++ Hs.flatMap Hd.bl)
theorem in_blocks {t hb : Nat} {fk : List Nat} {Hs : List Hd} {x : Nat} : x ∈ blocks t hb fk Hs ↔ x = t ∨ x = hb ∨ x ∈ fk ∨ ∃ h ∈ Hs, x ∈ h.bl := by
  simp [blocks, List.mem_flatMap]
theorem TB.ne {W : World} {t hb m kb : Nat} {Hs : List Hd} {K : List (ByteArray × S105)} {fk : List Nat} (h : TB W t hb m kb Hs K fk) : t ≠ hb := by
  intro e
  obtain ⟨es, clock, hb, _⟩ := h.hm
  rw [← e, h.ht] at hb
  cases hb
theorem TB.lt {W : World} {t hb m kb : Nat} {Hs : List Hd} {K : List (ByteArray × S105)} {fk : List Nat} (h : TB W t hb m kb Hs K fk) : ∀ x ∈ blocks t hb fk Hs, x < W.heap.size := fun x hx => by
  rcases in_blocks.1 hx with rfl | rfl | hx | ⟨y, hy, hx⟩
  · exact blk_lt h.ht
  · exact h.hm.lt
  · exact h.hk.lt x hx
  · exact (h.hh y hy).lt x hx
theorem owns_mod {W W' : World} {hb m : Nat} {D : DataW Unit} {R : Value → Option (DataW Unit × List MemPlace)} {k : TypeId} {fp : List Nat} (h : W.ownsMap Try.prog k R hb m D) (mm : Mod W W' fp) (hn : hb ∉ fp) : W'.ownsMap Try.prog k R hb m D := by
  obtain ⟨es, clock, hb, F⟩ := h
  exact ⟨es, clock, mm.at_ hb hn, F⟩
theorem TB.mod {W W' : World} {t hb m kb : Nat} {Hs : List Hd} {K : List (ByteArray × S105)} {fk fp : List Nat} (h : TB W t hb m kb Hs K fk) (mm : Mod W W' fp) (hd : ∀ x ∈ blocks t hb fk Hs, x ∉ fp) : TB W' t hb m kb Hs K fk :=
  ⟨mm.at_ h.ht (hd _ (in_blocks.2 (.inl rfl))), owns_mod h.hm mm (hd _ (in_blocks.2 (.inr (.inl rfl)))), h.ord, h.rgs, h.hk.mod mm (fun x hx => hd x (in_blocks.2 (.inr (.inr (.inl hx))))), fun y hy => (h.hh y hy).mod mm (fun x hx => hd x (in_blocks.2 (.inr (.inr (.inr ⟨y, hy, hx⟩))))), h.a1, h.a2, h.b1, h.b2⟩
theorem TB.mod0 {W W' : World} {t hb m kb : Nat} {Hs : List Hd} {K : List (ByteArray × S105)} {fk : List Nat} (h : TB W t hb m kb Hs K fk) (mm : Mod W W' []) : TB W' t hb m kb Hs K fk := h.mod mm (fun _ _ => by simp)
theorem TB.mono {W : World} {t hb m m' kb : Nat} {Hs : List Hd} {K : List (ByteArray × S105)} {fk : List Nat} (h : TB W t hb m kb Hs K fk) (hm : m ≤ m') : TB W t hb m' kb Hs K fk :=
  ⟨h.ht, h.hm.mono hm, h.ord, h.rgs, h.hk, h.hh, h.a1, h.a2, h.b1, h.b2⟩
theorem TB.c0 {W : World} {t hb m kb : Nat} {Hs : List Hd} {K : List (ByteArray × S105)} {fk : List Nat} (h : TB W t hb m kb Hs K fk) : W.cell? ⟨t, 0, none⟩ = some (.map (some hb)) := (blk_cell h.ht 0).trans rfl
theorem TB.c1 {W : World} {t hb m kb : Nat} {Hs : List Hd} {K : List (ByteArray × S105)} {fk : List Nat} (h : TB W t hb m kb Hs K fk) : W.cell? ⟨t, 1, none⟩ = some (.pointer (some ⟨kb, 0, none⟩)) := (blk_cell h.ht 1).trans rfl
/-! the intents -/
def isBy (c n : Int) (x : S65) : Bool := decide (x.f0.f0 = c ∧ x.f0.f1 = n)
def byL (L : List S65) (c n : Int) : List S65 := L.filter (isBy c n)
def pairOf (x : S65) : ByteArray × S105 := (x.f4.f0, ⟨x.f0, x.f4⟩)
structure Lk (Hs : List Hd) (L : List S65) : Prop where
  hd : ∀ x ∈ L, ∃ h ∈ Hs, h.c = x.f0.f0 ∧ h.n = x.f0.f1 ∧ h.st = x.f1 ∧ h.mn = x.f2 ∧ h.pr = x.f3
  ws : ∀ h ∈ Hs, h.ws = (byL L h.c h.n).map (fun x => x.f4) ∧ h.ws ≠ []
def Tab (W : World) (t m : Nat) (L : List S65) (fp : List Nat) : Prop := ∃ hb kb Hs fk, TB W t hb m kb Hs (L.map pairOf) fk ∧ Lk Hs L ∧ fp = blocks t hb fk Hs
theorem Tab.mod {W W' : World} {t m : Nat} {L : List S65} {fp fp2 : List Nat} (h : Tab W t m L fp) (mm : Mod W W' fp2) (hd : ∀ x ∈ fp, x ∉ fp2) : Tab W' t m L fp := by
  obtain ⟨hb, kb, Hs, fk, h1, h2, rfl⟩ := h
  exact ⟨hb, kb, Hs, fk, h1.mod mm hd, h2, rfl⟩
theorem Tab.mod0 {W W' : World} {t m : Nat} {L : List S65} {fp : List Nat} (h : Tab W t m L fp) (mm : Mod W W' []) : Tab W' t m L fp := h.mod mm (fun _ _ => by simp)
theorem Tab.mono {W : World} {t m m' : Nat} {L : List S65} {fp : List Nat} (h : Tab W t m L fp) (hm : m ≤ m') : Tab W t m' L fp := by
  obtain ⟨hb, kb, Hs, fk, h1, h2, rfl⟩ := h
  exact ⟨hb, kb, Hs, fk, h1.mono hm, h2, rfl⟩
theorem Tab.lt {W : World} {t m : Nat} {L : List S65} {fp : List Nat} (h : Tab W t m L fp) : ∀ x ∈ fp, x < W.heap.size := by
  obtain ⟨hb, kb, Hs, fk, h1, h2, rfl⟩ := h
  exact h1.lt
theorem ordH_eq {Hs : List Hd} (ho : OrdH Hs) {h h' : Hd} (i : h ∈ Hs) (j : h' ∈ Hs) (e1 : h.c = h'.c) (e2 : h.n = h'.n) : h = h' := by
  induction Hs with
  | nil => cases i
  | cons y r ih =>
    obtain ⟨o1, o2⟩ := List.pairwise_cons.1 ho
    rcases List.mem_cons.1 i with e | i
    · rcases List.mem_cons.1 j with e' | j
      · rw [e, e']
      · have := o1 _ j; rw [e] at e1 e2; omega
    · rcases List.mem_cons.1 j with e' | j
      · have := o1 _ i; rw [e'] at e1 e2; omega
      · exact ih o2 i j
theorem findH_some {c n : Int} {Hs : List Hd} {h : Hd} (e : findH c n Hs = some h) : h ∈ Hs ∧ h.c = c ∧ h.n = n := by
  have h1 := List.mem_of_find?_eq_some e
  have h2 := List.find?_some e
  exact ⟨h1, of_decide_eq_true h2⟩
theorem findH_none {c n : Int} {Hs : List Hd} (e : findH c n Hs = none) : ∀ h ∈ Hs, ¬ (h.c = c ∧ h.n = n) := fun h hh e2 => by
  have := List.find?_eq_none.1 e h hh
  exact this (decide_eq_true e2)
theorem findH_at {Hs : List Hd} (ho : OrdH Hs) {h : Hd} (i : h ∈ Hs) : findH h.c h.n Hs = some h := by
  cases e : findH h.c h.n Hs with
  | none => exact absurd ⟨rfl, rfl⟩ (findH_none e h i)
  | some h' =>
    obtain ⟨j, e1, e2⟩ := findH_some e
    rw [ordH_eq ho i j e1.symm e2.symm]
/-- a name's intents, out of its holder -/
theorem byL_some {Hs : List Hd} {L : List S65} (lk : Lk Hs L) (ho : OrdH Hs) {h : Hd} (i : h ∈ Hs) : byL L h.c h.n = h.ws.map h.mk' := by
  rw [(lk.ws h i).1, List.map_map]
  refine (List.map_id _).symm.trans (List.map_congr_left fun x hx => ?_)
  obtain ⟨h1, h2⟩ := List.mem_filter.1 hx
  have e := of_decide_eq_true h2
  obtain ⟨h', i', e1, e2, e3, e4, e5⟩ := lk.hd x h1
  obtain rfl := ordH_eq ho i i' (by omega) (by omega)
  show x = h.mk' x.f4
  obtain ⟨⟨a, b⟩, st, mn, pr, w⟩ := x
  simp only at e e1 e2 e3 e4 e5
  subst e3 e4 e5
  show (⟨⟨a, b⟩, h.st, h.mn, h.pr, w⟩ : S65) = ⟨⟨h.c, h.n⟩, h.st, h.mn, h.pr, w⟩
  rw [e1, e2]
theorem byL_none {Hs : List Hd} {L : List S65} (lk : Lk Hs L) {c n : Int} (e : findH c n Hs = none) : byL L c n = [] := by
  unfold byL
  rw [List.filter_eq_nil_iff]
  intro x hx hd
  have h := of_decide_eq_true hd
  obtain ⟨h', i', e1, e2, _⟩ := lk.hd x hx
  exact findH_none e h' i' ⟨e1.trans h.1, e2.trans h.2⟩
end Go.Proofs.Ytdelbidaclddgaa.Lat
