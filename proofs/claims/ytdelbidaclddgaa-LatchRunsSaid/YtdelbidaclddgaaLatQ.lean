/- The layer 'latch': LatQ; a seat's own text, no law of its own. -/
import Derived.Test.YtdelbidaclddgaaLatP
import Derived.Deep.LoopGhost
import Derived.Deep.Cut
import Derived.Lib.Hide
import Derived.StillTailTactics
import Derived.Deep.QuietTactic
import Derived.BigQuiet
import Derived.Outline
import Derived.Deep.RegionWith
import Derived.Deep.RegionHeld3
import Derived.WalkLawsBesides
namespace Go.Proofs.Ytdelbidaclddgaa.Lat
open Go.RowKit Go.Proofs.YtdelbidaclddgaaW.PrintWords Go.Proofs.Ytdelbidaclddgaa.MLatchRuns Go.Proofs.YtdelbidaclddgaaW.PrintLast
set_option linter.unusedVariables false
set_option linter.unusedSimpArgs false
/-! an act, and the table beside it -/
structure S58 where
  f0 : Int
  f1 : S32
  f2 : S35
  f3 : S35
  f4 : ByteArray
  f5 : List S63
  f6 : ByteArray
  f7 : ByteArray
  f8 : List S32
def z58 : S58 := ⟨0, z32, z35, z35, ⟨#[]⟩, [], ⟨#[]⟩, ⟨#[]⟩, []⟩
def k58 : Kd S58 := Kd.iso (Kd.pair (Kd.int .i64) (Kd.pair k32 (Kd.pair k35 (Kd.pair k35 (Kd.pair Kd.string (Kd.pair (Kd.slice 63 k63) (Kd.pair Kd.string (Kd.pair Kd.string (Kd.slice 32 k32))))))))) (fun x : S58 => (x.f0, x.f1, x.f2, x.f3, x.f4, x.f5, x.f6, x.f7, x.f8))
theorem k58_open {w : World} {x : S58} {cs : List Value} (h : k58.K w x cs) : ∃ Aw cw Ab cb, cs = [.int .i64 x.f0, .int .u32 x.f1.f0, .int .u32 x.f1.f1, .int .u64 x.f2.f0, .int .u32 x.f2.f1, .int .u64 x.f3.f0, .int .u32 x.f3.f1, .string x.f4, .slice Aw x.f5.length cw, .string x.f6, .string x.f7, .slice Ab x.f8.length cb] ∧ x.f5.length ≤ cw ∧ Kd.C k63 w Aw x.f5.length x.f5 ∧ x.f8.length ≤ cb ∧ Kd.C k32 w Ab x.f8.length x.f8 := by
  obtain ⟨_, _, rfl, rfl, ⟨_, _, rfl, s1, ⟨_, _, rfl, s2, ⟨_, _, rfl, s3, ⟨_, _, rfl, rfl, ⟨_, _, rfl, ⟨A, c, rfl, h1, h2⟩, ⟨_, _, rfl, rfl, ⟨_, _, rfl, rfl, ⟨B, d, rfl, h3, h4⟩⟩⟩⟩⟩⟩⟩⟩⟩ := h
  obtain rfl := k32_open s1
  obtain rfl := k35_open s2
  obtain rfl := k35_open s3
  exact ⟨A, c, B, d, rfl, h1, h2, h3, h4⟩
def okAct (a : S58) : Prop := inK a.f1.f0 a.f1.f1 ∧ a.f5.length ≤ 1000000000000000 ∧ a.f8.length ≤ 4611686018427387904
theorem add_add (ad : Addr) (n i : Nat) (hi : 0 < i) : ad.add (n + i) = ⟨(ad.add n).block, (ad.add n).off + i, none⟩ := add_field ad n i hi
/-- an act's twelve cells in its row -/
theorem act_cells {w : World} {A : Option Addr} {l : List S58} (h : Kd.C k58 w A l.length l) (j : Nat) (hj : j < l.length) : ∃ ad Aw cw Ab cb, A = some ad ∧ l[j].f5.length ≤ cw ∧ Kd.C k63 w Aw l[j].f5.length l[j].f5 ∧ l[j].f8.length ≤ cb ∧ Kd.C k32 w Ab l[j].f8.length l[j].f8 ∧ w.cell? (ad.add (j * 12)) = some (.int .i64 l[j].f0) ∧ w.cell? ⟨(ad.add (j * 12)).block, (ad.add (j * 12)).off + 1, none⟩ = some (.int .u32 l[j].f1.f0) ∧ w.cell? ⟨(ad.add (j * 12)).block, (ad.add (j * 12)).off + 2, none⟩ = some (.int .u32 l[j].f1.f1) ∧ w.cell? ⟨(ad.add (j * 12)).block, (ad.add (j * 12)).off + 3, none⟩ = some (.int .u64 l[j].f2.f0) ∧ w.cell? ⟨(ad.add (j * 12)).block, (ad.add (j * 12)).off + 4, none⟩ = some (.int .u32 l[j].f2.f1) ∧ w.cell? ⟨(ad.add (j * 12)).block, (ad.add (j * 12)).off + 5, none⟩ = some (.int .u64 l[j].f3.f0) ∧ w.cell? ⟨(ad.add (j * 12)).block, (ad.add (j * 12)).off + 6, none⟩ = some (.int .u32 l[j].f3.f1) ∧ w.cell? ⟨(ad.add (j * 12)).block, (ad.add (j * 12)).off + 7, none⟩ = some (.string l[j].f4) ∧ w.cell? ⟨(ad.add (j * 12)).block, (ad.add (j * 12)).off + 8, none⟩ = some (.slice Aw l[j].f5.length cw) ∧ w.cell? ⟨(ad.add (j * 12)).block, (ad.add (j * 12)).off + 9, none⟩ = some (.string l[j].f6) ∧ w.cell? ⟨(ad.add (j * 12)).block, (ad.add (j * 12)).off + 10, none⟩ = some (.string l[j].f7) ∧ w.cell? ⟨(ad.add (j * 12)).block, (ad.add (j * 12)).off + 11, none⟩ = some (.slice Ab l[j].f8.length cb) := by
  obtain ⟨ad, hA, hc⟩ := h.2.2 (by omega)
  obtain ⟨c, h1, h2, h3⟩ := hc j _ (List.getElem?_eq_getElem hj)
  obtain ⟨Aw, cw, Ab, cb, e, q1, q2, q3, q4⟩ := k58_open h2
  subst e
  have hp : ∀ i (u : Value), 0 < i → [.int .i64 l[j].f0, .int .u32 l[j].f1.f0, .int .u32 l[j].f1.f1, .int .u64 l[j].f2.f0, .int .u32 l[j].f2.f1, .int .u64 l[j].f3.f0, .int .u32 l[j].f3.f1, .string l[j].f4, .slice Aw l[j].f5.length cw, .string l[j].f6, .string l[j].f7, .slice Ab l[j].f8.length cb][i]? = some u → w.cell? ⟨(ad.add (j * 12)).block, (ad.add (j * 12)).off + i, none⟩ = some u := fun i u hi hu => by
    rw [← add_add ad (j * 12) i hi]; exact h3 i _ hu
  exact ⟨ad, Aw, cw, Ab, cb, hA, q1, q2, q3, q4, h3 0 _ rfl, hp 1 _ (by omega) rfl, hp 2 _ (by omega) rfl, hp 3 _ (by omega) rfl, hp 4 _ (by omega) rfl, hp 5 _ (by omega) rfl, hp 6 _ (by omega) rfl, hp 7 _ (by omega) rfl, hp 8 _ (by omega) rfl, hp 9 _ (by omega) rfl, hp 10 _ (by omega) rfl, hp 11 _ (by omega) rfl⟩
theorem act_cells2 {w W' : World} {A : Option Addr} {l : List S58} (h : Kd.C k58 w A l.length l) (m : Mod w W' []) (j : Nat) (hj : j < l.length) : ∃ ad Aw cw Ab cb, A = some ad ∧ l[j].f5.length ≤ cw ∧ Kd.C k63 w Aw l[j].f5.length l[j].f5 ∧ l[j].f8.length ≤ cb ∧ Kd.C k32 w Ab l[j].f8.length l[j].f8 ∧ W'.cell? (ad.add (j * 12)) = some (.int .i64 l[j].f0) ∧ W'.cell? ⟨(ad.add (j * 12)).block, (ad.add (j * 12)).off + 1, none⟩ = some (.int .u32 l[j].f1.f0) ∧ W'.cell? ⟨(ad.add (j * 12)).block, (ad.add (j * 12)).off + 2, none⟩ = some (.int .u32 l[j].f1.f1) ∧ W'.cell? ⟨(ad.add (j * 12)).block, (ad.add (j * 12)).off + 3, none⟩ = some (.int .u64 l[j].f2.f0) ∧ W'.cell? ⟨(ad.add (j * 12)).block, (ad.add (j * 12)).off + 4, none⟩ = some (.int .u32 l[j].f2.f1) ∧ W'.cell? ⟨(ad.add (j * 12)).block, (ad.add (j * 12)).off + 5, none⟩ = some (.int .u64 l[j].f3.f0) ∧ W'.cell? ⟨(ad.add (j * 12)).block, (ad.add (j * 12)).off + 6, none⟩ = some (.int .u32 l[j].f3.f1) ∧ W'.cell? ⟨(ad.add (j * 12)).block, (ad.add (j * 12)).off + 7, none⟩ = some (.string l[j].f4) ∧ W'.cell? ⟨(ad.add (j * 12)).block, (ad.add (j * 12)).off + 8, none⟩ = some (.slice Aw l[j].f5.length cw) ∧ W'.cell? ⟨(ad.add (j * 12)).block, (ad.add (j * 12)).off + 9, none⟩ = some (.string l[j].f6) ∧ W'.cell? ⟨(ad.add (j * 12)).block, (ad.add (j * 12)).off + 10, none⟩ = some (.string l[j].f7) ∧ W'.cell? ⟨(ad.add (j * 12)).block, (ad.add (j * 12)).off + 11, none⟩ = some (.slice Ab l[j].f8.length cb) := by
  obtain ⟨ad, Aw, cw, Ab, cb, e, h1, h2, h3, h4, a0, a1, a2, a3, a4, a5, a6, a7, a8, a9, aa, ab⟩ := act_cells h j hj
  have cm : ∀ {p : Addr} {v : Value}, w.cell? p = some v → W'.cell? p = some v := fun {p v} hp => m.cellA hp (by simp)
  exact ⟨ad, Aw, cw, Ab, cb, e, h1, h2, h3, h4, cm a0, cm a1, cm a2, cm a3, cm a4, cm a5, cm a6, cm a7, cm a8, cm a9, cm aa, cm ab⟩
theorem C63_in {w : World} {A : Option Addr} {l : List S63} (h : Kd.C k63 w A l.length l) (hl : 0 < l.length) : ∀ ad, A = some ad → ad.block < w.heap.size := fun ad e => by
  obtain ⟨ad', e', h1, _⟩ := wr_cells h 0 hl
  rw [e] at e'
  cases e'
  have := World.block_lt_of_cell? _ _ h1
  have hb : ∀ k, (ad.add k).block = ad.block := fun k => by unfold Addr.add; split <;> rfl
  rw [hb] at this
  exact this
/-- the table of a law, a block of the law's own beside it -/
structure Tq (w V : World) (t m : Nat) (L : List S65) (fp : List Nat) (q : Nat) (o : Obj) : Prop where
  hT : Tab V t m L fp
  gf : ∀ y ∈ fp, w.heap.size ≤ y
  hM : Mod w V []
  hx : V.heap[q]? = some o
  hq : q ∉ fp
theorem Tq.mod {w V V' : World} {t m : Nat} {L : List S65} {fp : List Nat} {q : Nat} {o : Obj} (h : Tq w V t m L fp q o) (mm : Mod V V' []) : Tq w V' t m L fp q o :=
  ⟨h.hT.mod0 mm, h.gf, h.hM.trans mm (fun _ hk => by cases hk), mm.at_ h.hx (by simp), h.hq⟩
theorem Tq.mono {w V : World} {t m m' : Nat} {L : List S65} {fp : List Nat} {q : Nat} {o : Obj} (h : Tq w V t m L fp q o) (hm : m ≤ m') : Tq w V t m' L fp q o := ⟨h.hT.mono hm, h.gf, h.hM, h.hx, h.hq⟩
theorem Tq.box {w V : World} {t m : Nat} {L : List S65} {fp : List Nat} {q : Nat} {o : Obj} (h : Tq w V t m L fp q o) (o' : Obj) : Tq w (V.alloc o') t m L fp V.heap.size o' := by
  have m1 : Mod V (V.alloc o') [] := (Mod.refl V []).alloc _
  exact ⟨h.hT.mod0 m1, h.gf, h.hM.trans m1 (fun _ hk => by cases hk), blk_new V _, fun hm => by have := h.hT.lt _ hm; omega⟩
theorem Tq.step {w V V' : World} {t m m' : Nat} {L L' : List S65} {fp fp' : List Nat} {q : Nat} {o : Obj} (h : Tq w V t m L fp q o) (hT : Tab V' t m' L' fp') (hs : ∀ y ∈ fp', y ∈ fp ∨ V.heap.size ≤ y) (mm : Mod V V' fp) : Tq w V' t m' L' fp' q o := by
  have h1 := h.hM.size
  have h2 := blk_lt h.hx
  refine ⟨hT, fun y hy => ?_, h.hM.trans mm (fun k hk => .inr (h.gf k hk)), mm.at_ h.hx h.hq, fun hm => ?_⟩
  · rcases hs y hy with e | e
    · exact h.gf y e
    · omega
  · rcases hs q hm with e | e
    · exact h.hq e
    · omega
section
variable {w V W' : World} {t m : Nat} {L : List S65} {fp : List Nat} {q : Nat} {o : Obj}
theorem tq_lay (h : Tq w V t m L fp q o) (mm : Mod V W' []) (hmx : m ≤ 1000000) (hLl : L.length ≤ 1000000) (c n : Int) (hk : inK c n) (st mn : S35) (pr : ByteArray) {A : Option Addr} {cap : Nat} {l : List S63} (hr : Kd.C k63 w A l.length l) (hc : l.length ≤ cap) (hl : l.length ≤ 1000000) {r : Int} {L' : List S65} (e1 : layB L c n st mn pr l = r) (e2 : layL L c n st mn pr l = L') :
    Calls Try.prog 26 #[.pointer (some ⟨t, 0, none⟩), .agg #[.int .u32 c, .int .u32 n], .agg #[.int .u64 st.f0, .int .u32 st.f1], .agg #[.int .u64 mn.f0, .int .u32 mn.f1], .string pr, .slice A l.length cap] W' fun e W'' => e = .returned (.int .i64 r) ∧ ∃ fp', Tq w W'' t (m + 1) L' fp' q o := by
  have h' := h.mod mm
  refine (layI_calls h'.hT c n st mn pr A cap l (Kd.C_below hr h'.hM.bel) hc hk hl (fun h0 ad e hm => by have := C63_in hr h0 ad e; have := h.gf _ hm; omega) hmx hLl e1 e2).mono ?_
  rintro e W'' ⟨rfl, ⟨fp', hT, hs⟩, m2⟩
  exact ⟨rfl, fp', h'.step hT hs m2⟩
theorem tq_cut (h : Tq w V t m L fp q o) (mm : Mod V W' []) (hLl : L.length ≤ 1000000) (c n : Int) (hk : inK c n) {ys L' : List S65} (hys : byL L c n = ys) (hL' : offL L c n = L') :
    Calls Try.prog 30 #[.pointer (some ⟨t, 0, none⟩), .agg #[.int .u32 c, .int .u32 n]] W' fun e W'' => ∃ A k, e = .returned (.slice A ys.length k) ∧ (ys.length ≤ k ∧ Kd.C k65 W'' A ys.length ys) ∧ ∃ fp', Tq w W'' t m L' fp' q o := by
  have h' := h.mod mm
  refine (cutI_calls h'.hT hLl c n hk hys hL').mono ?_
  rintro e W'' ⟨A, k, rfl, hR, hn, ⟨fp', hT, hs⟩, m2⟩
  obtain ⟨A1, k1, e1, g1, g2⟩ := hR.C
  injection e1 with ea eb ec
  subst ea ec
  exact ⟨A, k, rfl, ⟨g1, g2⟩, fp', h'.step hT (fun y hy => .inl (hs y hy)) m2⟩
theorem tq_raise (h : Tq w V t m L fp q o) (mm : Mod V W' []) (c n : Int) (hk : inK c n) (s : S35) {r : Bool} {L' : List S65} (hr : (decide (byL L c n ≠ []) && rightB s.f0 s.f1) = r) (hL : (if r = true then raiseL L c n s else L) = L') :
    Calls Try.prog 32 #[.pointer (some ⟨t, 0, none⟩), .agg #[.int .u32 c, .int .u32 n], .agg #[.int .u64 s.f0, .int .u32 s.f1]] W' fun e W'' => e = .returned (.bool r) ∧ ∃ fp', Tq w W'' t m L' fp' q o := by
  have h' := h.mod mm
  refine (raise_calls h'.hT c n hk s hr hL).mono ?_
  rintro e W'' ⟨rfl, hT, m2⟩
  exact ⟨rfl, fp, h'.step hT (fun y hy => .inl hy) m2⟩
theorem tq_all (h : Tq w V t m L fp q o) (mm : Mod V W' []) (hLl : L.length ≤ 1000000) :
    Calls Try.prog 27 #[.pointer (some ⟨t, 0, none⟩)] W' fun e W'' => ∃ A k, e = .returned (.slice A L.length k) ∧ (L.length ≤ k ∧ Kd.C k65 W'' A L.length L) ∧ Tq w W'' t m L fp q o ∧ Mod W' W'' [] := by
  have h' := h.mod mm
  refine (all_calls h'.hT hLl).mono ?_
  rintro e W'' ⟨A, k, rfl, hR, m2⟩
  obtain ⟨A1, k1, e1, g1, g2⟩ := (Row.of hR).C
  injection e1 with ea eb ec
  subst ea ec
  exact ⟨A, k, rfl, ⟨g1, g2⟩, h'.mod m2, m2⟩
theorem tq_by (h : Tq w V t m L fp q o) (mm : Mod V W' []) (hLl : L.length ≤ 1000000) (c n : Int) (hk : inK c n) {ys : List S65} (hys : byL L c n = ys) :
    Calls Try.prog 29 #[.pointer (some ⟨t, 0, none⟩), .agg #[.int .u32 c, .int .u32 n]] W' fun e W'' => ∃ A k, e = .returned (.slice A ys.length k) ∧ (ys.length ≤ k ∧ Kd.C k65 W'' A ys.length ys) ∧ Tq w W'' t m L fp q o ∧ Mod W' W'' [] := by
  have h' := h.mod mm
  subst hys
  refine (by_calls h'.hT hLl c n hk).mono ?_
  rintro e W'' ⟨A, k, rfl, hR, m2⟩
  obtain ⟨A1, k1, e1, g1, g2⟩ := (Row.of hR).C
  injection e1 with ea eb ec
  subst ea ec
  exact ⟨A, k, rfl, ⟨g1, g2⟩, h'.mod m2, m2⟩
theorem tq_of (h : Tq w V t m L fp q o) (mm : Mod V W' []) (key : ByteArray) {r : Option S65} (hr : findI key L = r) :
    Calls Try.prog 33 #[.pointer (some ⟨t, 0, none⟩), .string key] W' fun e W'' => e = ofEnd r ∧ Tq w W'' t m L fp q o ∧ Mod W' W'' [] := by
  have h' := h.mod mm
  subst hr
  refine (of_calls h'.hT key).mono ?_
  rintro e W'' ⟨he, m2⟩
  exact ⟨he, h'.mod m2, m2⟩
theorem tq_first (h : Tq w V t m L fp q o) (mm : Mod V W' []) (hLl : L.length ≤ 1000000) (lo hi : ByteArray) (t0 t1 : Int) {A : Option Addr} {k : Nat} {but : List S32} (hr : Kd.C k32 w A but.length but) (hc : but.length ≤ k) (hbl : but.length ≤ 4611686018427387904) {res : Option S65} (hf : firstI lo hi t0 t1 but L = res) :
    Calls Try.prog 28 #[.pointer (some ⟨t, 0, none⟩), .string lo, .string hi, .agg #[.int .u64 t0, .int .u32 t1], .slice A but.length k] W' fun e W'' => e = ofEnd res ∧ Tq w W'' t m L fp q o ∧ Mod W' W'' [] := by
  have h' := h.mod mm
  refine (firstI_calls h'.hT hLl lo hi t0 t1 A k but (Kd.C_below hr h'.hM.bel) hc hbl hf).mono ?_
  rintro e W'' ⟨he, m2⟩
  exact ⟨he, h'.mod m2, m2⟩
end
theorem Tq.start {w V1 : World} {t : Nat} {fp : List Nat} (hT : Tab V1 t 0 [] fp) (m1 : Mod w V1 []) (hn : ∀ y ∈ fp, w.heap.size ≤ y) (o : Obj) : Tq w (V1.alloc o) t 0 [] fp V1.heap.size o := by
  have m2 : Mod V1 (V1.alloc o) [] := (Mod.refl V1 []).alloc _
  exact ⟨hT.mod0 m2, hn, m1.trans m2 (fun _ hk => by cases hk), blk_new V1 _, fun hm => by have := hT.lt _ hm; omega⟩
end Go.Proofs.Ytdelbidaclddgaa.Lat
