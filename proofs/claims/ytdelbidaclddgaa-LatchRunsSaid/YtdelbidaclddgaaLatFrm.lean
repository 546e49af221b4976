/- The layer 'latch': LatFrm; a seat's own text, no law of its own. -/
import Derived.Test.YtdelbidaclddgaaMLatchRunsx5
import Derived.DeepKeys4
import Derived.Lib.SlMapFilter
import Derived.Maps.RangeWalk
import Derived.Maps.OwnSet
import Derived.Maps.OwnOps
import Derived.Deep.LoopGhost
import Derived.Deep.Cut
import Derived.Lib.Hide
import Derived.StillTailTactics
import Derived.Deep.QuietTactic
import Derived.BigQuiet
import Derived.Outline
import Derived.Deep.RegionWith
import Derived.Deep.RegionHeld3
import Derived.WalkLawsBesides
namespace Go.Proofs.Ytdelbidaclddgaa.Lat
open Go.RowKit Go.Proofs.YtdelbidaclddgaaW.PrintWords Go.Proofs.Ytdelbidaclddgaa.MLatchRuns Go.Proofs.YtdelbidaclddgaaW.PrintLast
set_option linter.unusedVariables false
set_option linter.unusedSimpArgs false
/-! the types of the layer 'latch' -/
structure S105 where
  f0 : S32
  f1 : S63
def z105 : S105 := ⟨z32, z63⟩
/-- What a call has turned: the blocks of fp, and new ones, alone. -/
structure Mod (W W' : World) (fp : List Nat) : Prop where
  os : W'.os = W.os
  tape : W'.tape = W.tape
  output : W'.output = W.output
  size : W.heap.size ≤ W'.heap.size
  block : ∀ k, k < W.heap.size → k ∉ fp → W'.heap[k]? = W.heap[k]?
theorem Mod.refl (W : World) (fp : List Nat) : Mod W W fp := ⟨rfl, rfl, rfl, Nat.le_refl _, fun _ _ _ => rfl⟩
theorem Mod.trans {W W1 W2 : World} {fp fp' : List Nat} (h : Mod W W1 fp) (h' : Mod W1 W2 fp') (hs : ∀ k ∈ fp', k ∈ fp ∨ W.heap.size ≤ k) : Mod W W2 fp :=
  ⟨h'.os.trans h.os, h'.tape.trans h.tape, h'.output.trans h.output, Nat.le_trans h.size h'.size, fun k hk hn => by
    refine (h'.block k (Nat.lt_of_lt_of_le hk h.size) (fun hm => ?_)).trans (h.block k hk hn)
    rcases hs k hm with h1 | h1
    · exact hn h1
    · omega⟩
theorem Mod.drew {W W' : World} {fp : List Nat} (h : Mod W W' fp) : Mod W W'.drew fp := ⟨h.os, h.tape, h.output, h.size, h.block⟩
theorem Mod.drewN {W W' : World} {fp : List Nat} (h : Mod W W' fp) (n : Nat) : Mod W (W'.drewN n) fp := ⟨h.os, h.tape, h.output, h.size, h.block⟩
theorem Mod.alloc {W W' : World} {fp : List Nat} (h : Mod W W' fp) (o : Obj) : Mod W (W'.alloc o) fp :=
  ⟨h.os, h.tape, h.output, by have := h.size; simp; omega, fun k hk hn => (Below.heap_alloc W' o k (Nat.lt_of_lt_of_le hk h.size)).trans (h.block k hk hn)⟩
theorem Mod.setCell {W W' : World} {fp : List Nat} (h : Mod W W' fp) {p : Addr} (hp : p.block ∈ fp ∨ W.heap.size ≤ p.block) (u : Value) : Mod W (W'.setCell p u) fp :=
  ⟨h.os, h.tape, h.output, by simpa [World.setCell] using h.size, fun k hk hn => (Below.heap_setCell W' p u k (fun e => by
    subst e
    rcases hp with h1 | h1
    · exact hn h1
    · omega)).trans (h.block k hk hn)⟩
theorem Mod.mono {W W' : World} {fp fp' : List Nat} (h : Mod W W' fp) (hs : ∀ k ∈ fp, k ∈ fp' ∨ W.heap.size ≤ k) : Mod W W' fp' := (Mod.refl W fp').trans h hs
theorem Mod.at_ {W W' : World} {fp : List Nat} (h : Mod W W' fp) {b : Nat} {o : Obj} (hb : W.heap[b]? = some o) (hn : b ∉ fp) : W'.heap[b]? = some o := (h.block b (blk_lt hb) hn).trans hb
theorem Mod.below {W W' : World} {fp : List Nat} (h : Mod W W' fp) {B : Nat} (hB : ∀ k ∈ fp, B ≤ k) (hs : B ≤ W.heap.size) : Below B W W' :=
  ⟨h.os, h.tape, h.output, h.size, fun k hk => h.block k (by omega) (fun hm => by have := hB k hm; omega)⟩

theorem Mod.bel {W W' : World} (h : Mod W W' []) : Below W.heap.size W W' := h.below (fun k hk => by simp at hk) (Nat.le_refl _)
theorem Mod.of_drawn {W W' : World} (h : Drawn0 W W') : Mod W W' [] := by
  obtain ⟨⟨n, rfl⟩⟩ := h
  exact (Mod.refl _ _).drewN n
def ownList (v : Value) : List Nat := match v with
  | .slice (some a) _ _ => [a.block]
  | _ => []
theorem own_own' (v : Value) : ∀ y, v.ownBlock = some y → y ∈ ownList v := by
  intro y hy
  unfold Value.ownBlock at hy
  split at hy
  · simp only [Option.some.injEq] at hy
    simp [ownList, hy]
  · cases hy
theorem own_mem (v : Value) : ∀ y ∈ ownList v, v.ownBlock = some y := by
  intro y hy
  unfold ownList at hy
  split at hy
  · simp only [List.mem_singleton] at hy; subst hy; rfl
  · simp at hy
theorem mod_grown {W W1 W2 : World} {fp : List Nat} {row : Option Nat} (h : Mod W W1 fp) (hg : W1.grownBy W2 row) (hr : ∀ y, row = some y → y ∈ fp) : Mod W W2 fp :=
  ⟨hg.os.trans h.os, hg.tape.trans h.tape, hg.output.trans h.output, Nat.le_trans h.size hg.size, fun k hk hn => (hg.block k (Nat.lt_of_lt_of_le hk h.size) (fun e => hn (hr k e.symm))).trans (h.block k hk hn)⟩
theorem mod_own {W1 W2 : World} {v : Value} (hg : W1.grownBy W2 v.ownBlock) : Mod W1 W2 (ownList v) := mod_grown (Mod.refl W1 _) hg (own_own' v)
theorem own_new {W : World} {v v' : Value} {H : Nat} (hs : W.heap.size ≤ H) (hat : ∀ y, v'.ownBlock = some y → v.ownBlock = some y ∨ H ≤ y) :
    ∀ y ∈ ownList v', y ∈ ownList v ∨ W.heap.size ≤ y := by
  intro y hy
  rcases hat y (own_mem _ y hy) with h | h
  · exact .inl (own_own' _ y h)
  · exact .inr (by omega)
theorem chain_new {W W1 : World} {f1 f2 f3 : List Nat} (h1 : ∀ y ∈ f2, y ∈ f1 ∨ W.heap.size ≤ y) (hs : W.heap.size ≤ W1.heap.size) (h2 : ∀ y ∈ f3, y ∈ f2 ∨ W1.heap.size ≤ y) : ∀ y ∈ f3, y ∈ f1 ∨ W.heap.size ≤ y := by
  intro y hy
  rcases h2 y hy with h | h
  · exact h1 y h
  · exact .inr (Nat.le_trans hs h)
/-- A kind whose elements lead to no memory. -/
def Plain {α : Type} (d : Kd α) : Prop := ∀ (w w' : World) (b b' : Nat) (ok ok' : Nat → Prop) (x : α) (cs : List Value), d.M w b ok x cs → d.M w' b' ok' x cs
/-- A row of the call's own. -/
def Row {α : Type} (d : Kd α) (e : Nat) (W : World) (v : Value) (l : List α) : Prop := d.R e W 0 (fun _ => True) v l
theorem Row.nil {α : Type} (d : Kd α) (e : Nat) (W : World) : Row d e W (.slice none 0 0) [] := Kd.R_nil _ _ _ _ _
theorem Row.of {α : Type} {d : Kd α} {e base : Nat} {W : World} {ok : Nat → Prop} {v : Value} {l : List α} (h : d.R e W base ok v l) : Row d e W v l := Kd.R_mono (Kd.R_lower h (Nat.zero_le _)) (fun _ _ => trivial)
theorem Row.lt {α : Type} {d : Kd α} {e : Nat} {W : World} {v : Value} {l : List α} (h : Row d e W v l) : ∀ y ∈ ownList v, y < W.heap.size := fun y hy => Kd.R_lt h y (own_mem v y hy)
theorem Row.C {α : Type} {d : Kd α} {e : Nat} {W : World} {v : Value} {l : List α} (h : Row d e W v l) : ∃ A c, v = .slice A l.length c ∧ l.length ≤ c ∧ Kd.C d W A l.length l := Kd.R_reads h
theorem Row.mod {α : Type} {d : Kd α} {e : Nat} {W W' : World} {v : Value} {l : List α} {fp : List Nat} (hp : Plain d) (h : Row d e W v l) (m : Mod W W' fp) (hd : ∀ y ∈ ownList v, y ∉ fp) : Row d e W' v l :=
  Kd.R_mono (Kd.R_step (Kd.R_flat (fun hx => hp _ _ _ _ _ _ _ _ hx) h (ok' := fun k => k ∈ ownList v) (fun k hk _ => own_own' v k hk)) (fun k hk hlt => m.block k hlt (hd k hk))) (fun _ _ => trivial)
/-- A struct of one slice. -/
def BoxF {α : Type} (d : Kd α) (e T : Nat) (W : World) (g : Nat) (l : List α) (fp : List Nat) : Prop := ∃ v, W.heap[g]? = some (.cells #[v] T (0, 0)) ∧ Row d e W v l ∧ g ∉ ownList v ∧ fp = g :: ownList v
theorem BoxF.mod {α : Type} {d : Kd α} {e T : Nat} {W W' : World} {g : Nat} {l : List α} {fp fp2 : List Nat} (hp : Plain d) (h : BoxF d e T W g l fp) (m : Mod W W' fp2) (hd : ∀ x ∈ fp, x ∉ fp2) : BoxF d e T W' g l fp := by
  obtain ⟨v, h1, h2, h3, rfl⟩ := h
  exact ⟨v, m.at_ h1 (hd g (by simp)), h2.mod hp m (fun y hy => hd y (by simp [hy])), h3, rfl⟩
theorem BoxF.lt {α : Type} {d : Kd α} {e T : Nat} {W : World} {g : Nat} {l : List α} {fp : List Nat} (h : BoxF d e T W g l fp) : ∀ x ∈ fp, x < W.heap.size := by
  obtain ⟨v, h1, h2, h3, rfl⟩ := h
  intro x hx
  rcases List.mem_cons.1 hx with rfl | hx
  · exact blk_lt h1
  · exact h2.lt x hx
theorem plain_scalar {α : Type} (enc : α → Value) (h1 : ∀ x, (enc x).oneCell' = true) : Plain (Kd.scalar enc h1) := fun _ _ _ _ _ _ _ _ h => h
theorem plain_string : Plain Kd.string := plain_scalar _ _
theorem plain_int (k : IntKind) : Plain (Kd.int k) := plain_scalar _ _
theorem plain_bool : Plain Kd.bool := plain_scalar _ _
theorem own_at {v v1 : Value} {H : Nat} (h : v1.ownBlock = v.ownBlock ∨ ∃ b, v1.ownBlock = some b ∧ H ≤ b) : ∀ y ∈ ownList v1, y ∈ ownList v ∨ H ≤ y := by
  intro y hy
  have e := own_mem _ y hy
  rcases h with h | ⟨b, h, hb⟩
  · exact .inl (own_own' _ y (h ▸ e))
  · rw [h] at e
    injection e with e
    exact .inr (e ▸ hb)
theorem BoxF.put {α : Type} {d : Kd α} {e T : Nat} (hp : Plain d) {W W1 : World} {g : Nat} {v v1 : Value} {l1 : List α} (h1 : W.heap[g]? = some (.cells #[v] T (0, 0))) (h3 : g ∉ ownList v) (r1 : Row d e W1 v1 l1) (m : Mod W W1 (ownList v)) (hat : ∀ y ∈ ownList v1, y ∈ ownList v ∨ W.heap.size ≤ y) :
    BoxF d e T (W1.setCell ⟨g, 0, none⟩ v1) g l1 (g :: ownList v1) ∧ Mod W (W1.setCell ⟨g, 0, none⟩ v1) (g :: ownList v) ∧ ∀ y ∈ g :: ownList v1, y ∈ g :: ownList v ∨ W.heap.size ≤ y := by
  have hg1 : g ∉ ownList v1 := fun hy => by
    rcases hat g hy with h | h
    · exact h3 h
    · have := blk_lt h1; omega
  refine ⟨⟨v1, blk_put (m.at_ h1 h3) 0 v1 rfl, r1.mod hp ((Mod.refl W1 [g]).setCell (p := ⟨g, 0, none⟩) (.inl (by simp)) v1) (fun y hy hz => ?_), hg1, rfl⟩, (m.mono (fun k hk => .inl (List.mem_cons_of_mem _ hk))).setCell (p := ⟨g, 0, none⟩) (.inl (by simp)) v1, fun y hy => ?_⟩
  · rw [List.mem_singleton] at hz
    subst hz
    exact hg1 hy
  · rcases List.mem_cons.1 hy with rfl | hy
    · exact .inl (by simp)
    · rcases hat y hy with h | h
      · exact .inl (List.mem_cons_of_mem _ h)
      · exact .inr h
theorem Row.form {α : Type} {d : Kd α} {e : Nat} {W : World} {v : Value} {l : List α} (h : Row d e W v l) : ∃ A n c, v = .slice A n c := by
  obtain ⟨A, c, rfl, _⟩ := h.C
  exact ⟨A, _, c, rfl⟩
/-! a name of a transaction as one text of eight bytes: the order of the texts is the order of the numbers -/
theorem bb_app : ∀ (a b : List UInt8) (x y : List UInt8), a.length = b.length → bytesBefore (a ++ x) (b ++ y) = (bytesBefore a b || (a == b && bytesBefore x y))
  | [], [], x, y, _ => by simp [bytesBefore]
  | [], _ :: _, _, _, h => by simp at h
  | _ :: _, [], _, _, h => by simp at h
  | a :: r, b :: s, x, y, h => by
    have ih := bb_app r s x y (by simpa using h)
    simp only [List.cons_append, bytesBefore, ih]
    by_cases e : a = b
    · subst e; simp
    · have e' : (a == b) = false := by simpa using e
      have e2 : (a :: r == b :: s) = false := by
        rw [beq_eq_false_iff_ne]; intro h; injection h with h1; exact e h1
      rw [e', e2]; simp
theorem le_len : ∀ w n, (bytesLE w n).length = w
  | 0, _ => rfl
  | w + 1, n => by simp [bytesLE, le_len w]
theorem be_len (w n : Nat) : (bytesBE w n).length = w := by simp [bytesBE, le_len]
theorem be_succ (w n : Nat) : bytesBE (w + 1) n = bytesBE w (n / 256) ++ [UInt8.ofNat (n % 256)] := by simp [bytesBE, bytesLE]
theorem of_lt (a b : Nat) (ha : a < 256) (hb : b < 256) : (UInt8.ofNat a < UInt8.ofNat b) ↔ a < b := by
  rw [UInt8.lt_iff_toNat_lt, UInt8.toNat_ofNat_of_lt' ha, UInt8.toNat_ofNat_of_lt' hb]
theorem of_inj (a b : Nat) (ha : a < 256) (hb : b < 256) (h : UInt8.ofNat a = UInt8.ofNat b) : a = b := by
  have := congrArg UInt8.toNat h
  rwa [UInt8.toNat_ofNat_of_lt' ha, UInt8.toNat_ofNat_of_lt' hb] at this
theorem be_inj : ∀ (w a b : Nat), a < 256 ^ w → b < 256 ^ w → bytesBE w a = bytesBE w b → a = b
  | 0, a, b, ha, hb, _ => by simp at ha hb; omega
  | w + 1, a, b, ha, hb, h => by
    rw [be_succ, be_succ] at h
    rw [Nat.pow_succ] at ha hb
    obtain ⟨h1, h2⟩ := List.append_inj h (by simp [be_len])
    have i1 := be_inj w _ _ (Nat.div_lt_of_lt_mul (by rw [Nat.mul_comm]; exact ha)) (Nat.div_lt_of_lt_mul (by rw [Nat.mul_comm]; exact hb)) h1
    injection h2 with h2
    have i2 := of_inj _ _ (Nat.mod_lt _ (by decide)) (Nat.mod_lt _ (by decide)) h2
    omega
theorem be_before : ∀ (w a b : Nat), a < 256 ^ w → b < 256 ^ w → (bytesBefore (bytesBE w a) (bytesBE w b) = true ↔ a < b)
  | 0, a, b, ha, hb => by simp at ha hb; subst ha; subst hb; simp [bytesBE, bytesLE, bytesBefore]
  | w + 1, a, b, ha, hb => by
    rw [Nat.pow_succ] at ha hb
    have da := (Nat.div_lt_of_lt_mul (by rw [Nat.mul_comm]; exact ha) : a / 256 < 256 ^ w)
    have db := (Nat.div_lt_of_lt_mul (by rw [Nat.mul_comm]; exact hb) : b / 256 < 256 ^ w)
    rw [be_succ, be_succ, bb_app _ _ _ _ (by simp [be_len])]
    rw [Bool.or_eq_true, Bool.and_eq_true, be_before w _ _ da db]
    have e : (bytesBE w (a / 256) == bytesBE w (b / 256)) = true ↔ a / 256 = b / 256 := by
      rw [beq_iff_eq]; exact ⟨be_inj w _ _ da db, fun h => by rw [h]⟩
    have f : bytesBefore [UInt8.ofNat (a % 256)] [UInt8.ofNat (b % 256)] = true ↔ a % 256 < b % 256 := by
      have g : bytesBefore [UInt8.ofNat (a % 256)] [UInt8.ofNat (b % 256)] = decide (UInt8.ofNat (a % 256) < UInt8.ofNat (b % 256)) := by simp [bytesBefore]
      rw [g, decide_eq_true_iff, of_lt _ _ (Nat.mod_lt _ (by decide)) (Nat.mod_lt _ (by decide))]
    rw [e, f]; omega
/-- the key of a transaction's name -/
def klit (c n : Int) : Lit := .string (keyBytes [.int .u32 c, .int .u32 n])
theorem klit_eq (c n : Int) : klit c n = .string (bytesBE 4 (c % 2 ^ 32).toNat ++ bytesBE 4 (n % 2 ^ 32).toNat) := by
  simp [klit, keyBytes, Lit.keyBytes, IntKind.bits]
theorem klit_before {c n c' n' : Int} (h1 : 0 ≤ c) (h2 : c < 2 ^ 32) (h3 : 0 ≤ n) (h4 : n < 2 ^ 32) (g1 : 0 ≤ c') (g2 : c' < 2 ^ 32) (g3 : 0 ≤ n') (g4 : n' < 2 ^ 32) :
    (klit c n).before (klit c' n') = decide (c < c' ∨ c = c' ∧ n < n') := by
  rw [klit_eq, klit_eq]
  show bytesBefore _ _ = _
  rw [bb_app _ _ _ _ (by simp [be_len])]
  have p : (256 : Nat) ^ 4 = 4294967296 := by decide
  rw [Bool.eq_iff_iff, Bool.or_eq_true, Bool.and_eq_true, be_before 4 _ _ (by omega) (by omega), be_before 4 _ _ (by omega) (by omega), beq_iff_eq, decide_eq_true_iff]
  have e : bytesBE 4 (c % 2 ^ 32).toNat = bytesBE 4 (c' % 2 ^ 32).toNat ↔ (c % 2 ^ 32).toNat = (c' % 2 ^ 32).toNat := ⟨be_inj 4 _ _ (by omega) (by omega), fun h => by rw [h]⟩
  rw [e]; omega
theorem klit_same {c n c' n' : Int} (h1 : 0 ≤ c) (h2 : c < 2 ^ 32) (h3 : 0 ≤ n) (h4 : n < 2 ^ 32) (g1 : 0 ≤ c') (g2 : c' < 2 ^ 32) (g3 : 0 ≤ n') (g4 : n' < 2 ^ 32) :
    (klit c n).sameKey (klit c' n') = decide (c = c' ∧ n = n') := by
  rw [klit_eq, klit_eq]
  show (_ == _) = _
  have p : (256 : Nat) ^ 4 = 4294967296 := by decide
  rw [Bool.eq_iff_iff, beq_iff_eq, decide_eq_true_iff]
  constructor
  · intro h
    obtain ⟨e1, e2⟩ := List.append_inj h (by simp [be_len])
    have i1 := be_inj 4 _ _ (by omega) (by omega) e1
    have i2 := be_inj 4 _ _ (by omega) (by omega) e2
    omega
  · rintro ⟨rfl, rfl⟩; rfl
section
variable {α : Type} (kc kn : α → Int) (g : α → DataW Unit)
/-- a map of entries in order, each under its own name -/
def mapD (L : List α) : DataW Unit := .map (L.map fun v => (klit (kc v) (kn v), g v))
def Rng (v : α) : Prop := 0 ≤ kc v ∧ kc v < 2 ^ 32 ∧ 0 ≤ kn v ∧ kn v < 2 ^ 32
def Rgs (L : List α) : Prop := ∀ v ∈ L, Rng kc kn v
def Ord2 (L : List α) : Prop := L.Pairwise fun x y => kc x < kc y ∨ kc x = kc y ∧ kn x < kn y
def vfind (c n : Int) (L : List α) : Option α := L.find? fun v => decide (kc v = c ∧ kn v = n)
def vset (x : α) : List α → List α
  | [] => [x]
  | y :: r => if kc x < kc y ∨ kc x = kc y ∧ kn x < kn y then x :: y :: r else if kc x = kc y ∧ kn x = kn y then x :: r else y :: vset x r
variable {kc kn g}
theorem map_at {c n : Int} (h1 : 0 ≤ c) (h2 : c < 2 ^ 32) (h3 : 0 ≤ n) (h4 : n < 2 ^ 32) : ∀ (L : List α), Rgs kc kn L → ∀ z, (mapD kc kn g L).atKey (klit c n) z = ((vfind kc kn c n L).map g).getD z
  | [], _, z => rfl
  | v :: r, hr, z => by
    obtain ⟨r1, r2, r3, r4⟩ := hr v (by simp)
    have ih := map_at h1 h2 h3 h4 r (fun x hx => hr x (by simp [hx])) z
    unfold mapD DataW.atKey vfind at ih ⊢
    simp only [List.map_cons, List.find?_cons, klit_same r1 r2 r3 r4 h1 h2 h3 h4]
    by_cases e : kc v = c ∧ kn v = n
    · simp [e]
    · simp only [e, decide_false]
      exact ih
theorem map_has {c n : Int} (h1 : 0 ≤ c) (h2 : c < 2 ^ 32) (h3 : 0 ≤ n) (h4 : n < 2 ^ 32) : ∀ (L : List α), Rgs kc kn L → Maps.has (mapD kc kn g L) (klit c n) = (vfind kc kn c n L).isSome
  | [], _ => rfl
  | v :: r, hr => by
    obtain ⟨r1, r2, r3, r4⟩ := hr v (by simp)
    have ih := map_has h1 h2 h3 h4 r (fun x hx => hr x (by simp [hx]))
    unfold mapD Maps.has vfind at ih ⊢
    simp only [List.map_cons, List.find?_cons, List.any_cons, klit_same r1 r2 r3 r4 h1 h2 h3 h4]
    by_cases e : kc v = c ∧ kn v = n
    · simp [e]
    · simp only [e, decide_false, Bool.false_or]
      exact ih
theorem map_size (L : List α) : Maps.size (mapD kc kn g L) = L.length := by simp [mapD, Maps.size]
theorem insert_all (k : Lit) (d : DataW Unit) : ∀ (L : List (Lit × DataW Unit)), (∀ p ∈ L, k.before p.1 = true) → DataW.insert (k, d) L = (k, d) :: L
  | [], _ => rfl
  | y :: r, h => by unfold DataW.insert; rw [if_pos (h y (by simp))]
theorem map_put (x : α) (hx : Rng kc kn x) : ∀ (L : List α), Rgs kc kn L → Ord2 kc kn L → (mapD kc kn g L).put (klit (kc x) (kn x)) (g x) = mapD kc kn g (vset kc kn x L)
  | [], _, _ => rfl
  | v :: r, hr, ho => by
    obtain ⟨r1, r2, r3, r4⟩ := hr v (by simp)
    obtain ⟨x1, x2, x3, x4⟩ := hx
    obtain ⟨o1, o2⟩ := List.pairwise_cons.1 ho
    have hr' : Rgs kc kn r := fun y hy => hr y (by simp [hy])
    have ih := map_put x ⟨x1, x2, x3, x4⟩ r hr' o2
    unfold mapD DataW.put at ih ⊢
    rw [vset]
    simp only [List.map_cons, List.filter_cons, klit_same r1 r2 r3 r4 x1 x2 x3 x4]
    have hf : (∀ y ∈ r, kc x < kc y ∨ kc x = kc y ∧ kn x < kn y) → List.filter (fun p => !p.1.sameKey (klit (kc x) (kn x))) (r.map fun v => (klit (kc v) (kn v), g v)) = r.map fun v => (klit (kc v) (kn v), g v) := by
      intro h
      rw [List.filter_eq_self]
      intro p hp
      obtain ⟨y, hy, rfl⟩ := List.mem_map.1 hp
      obtain ⟨y1, y2, y3, y4⟩ := hr' y hy
      have := h y hy
      simp only [klit_same y1 y2 y3 y4 x1 x2 x3 x4, Bool.not_eq_true', decide_eq_false_iff_not]
      omega
    have hb : (∀ y ∈ r, kc x < kc y ∨ kc x = kc y ∧ kn x < kn y) → ∀ p ∈ r.map (fun v => (klit (kc v) (kn v), g v)), (klit (kc x) (kn x)).before p.1 = true := by
      intro h p hp
      obtain ⟨y, hy, rfl⟩ := List.mem_map.1 hp
      obtain ⟨y1, y2, y3, y4⟩ := hr' y hy
      rw [klit_before x1 x2 x3 x4 y1 y2 y3 y4]
      exact decide_eq_true (h y hy)
    by_cases e : kc x < kc v ∨ kc x = kc v ∧ kn x < kn v
    · have hall : ∀ y ∈ r, kc x < kc y ∨ kc x = kc y ∧ kn x < kn y := fun y hy => by have := o1 y hy; omega
      rw [if_pos e]
      rw [show (!decide (kc v = kc x ∧ kn v = kn x)) = true from by simp; omega, if_pos rfl, hf hall]
      rw [insert_all _ _ _ (fun p hp => by
        rcases List.mem_cons.1 hp with rfl | hp
        · show (klit (kc x) (kn x)).before (klit (kc v) (kn v)) = true
          rw [klit_before x1 x2 x3 x4 r1 r2 r3 r4]; exact decide_eq_true e
        · exact hb hall p hp)]
      rfl
    · rw [if_neg e]
      by_cases e2 : kc x = kc v ∧ kn x = kn v
      · have hall : ∀ y ∈ r, kc x < kc y ∨ kc x = kc y ∧ kn x < kn y := fun y hy => by have := o1 y hy; omega
        rw [if_pos e2, show (!decide (kc v = kc x ∧ kn v = kn x)) = false from by simp; omega, if_neg (by decide), hf hall, insert_all _ _ _ (hb hall)]
        rfl
      · rw [if_neg e2, show (!decide (kc v = kc x ∧ kn v = kn x)) = true from by simp; omega, if_pos rfl]
        unfold DataW.insert
        rw [if_neg (by rw [klit_before x1 x2 x3 x4 r1 r2 r3 r4]; simp; omega)]
        injection ih with ih
        rw [ih]
        rfl
theorem map_filter (pd : Lit → DataW Unit → Bool) (L : List α) : Lib.deleteFuncD pd (mapD kc kn g L) = mapD kc kn g (L.filter fun v => !pd (klit (kc v) (kn v)) (g v)) := by
  unfold Lib.deleteFuncD mapD
  show DataW.map (List.filter _ (List.map _ L)) = _
  rw [List.filter_map]
  rfl
theorem vset_mem {x : α} : ∀ {L : List α} {y : α}, y ∈ vset kc kn x L → y = x ∨ y ∈ L
  | [], y, h => by simp [vset] at h; exact .inl h
  | v :: r, y, h => by
    unfold vset at h
    split at h
    · simpa using h
    · split at h
      · rcases List.mem_cons.1 h with rfl | h
        · exact .inl rfl
        · exact .inr (by simp [h])
      · rcases List.mem_cons.1 h with rfl | h
        · exact .inr (by simp)
        · rcases vset_mem h with rfl | h
          · exact .inl rfl
          · exact .inr (by simp [h])
theorem vset_ord (x : α) : ∀ {L : List α}, Ord2 kc kn L → Ord2 kc kn (vset kc kn x L)
  | [], _ => by simp [vset, Ord2]
  | v :: r, h => by
    obtain ⟨o1, o2⟩ := List.pairwise_cons.1 h
    unfold vset
    split
    · rename_i e
      refine List.pairwise_cons.2 ⟨fun y hy => ?_, h⟩
      rcases List.mem_cons.1 hy with rfl | hy
      · exact e
      · have := o1 y hy; omega
    · rename_i e
      split
      · rename_i e2
        exact List.pairwise_cons.2 ⟨fun y hy => by have := o1 y hy; omega, o2⟩
      · rename_i e2
        refine List.pairwise_cons.2 ⟨fun y hy => ?_, vset_ord x o2⟩
        rcases vset_mem hy with rfl | hy
        · omega
        · exact o1 y hy
theorem vset_rgs {x : α} (hx : Rng kc kn x) {L : List α} (h : Rgs kc kn L) : Rgs kc kn (vset kc kn x L) := fun y hy => by
  rcases vset_mem hy with rfl | hy
  · exact hx
  · exact h y hy
theorem vset_len (x : α) : ∀ {L : List α}, Ord2 kc kn L → (vset kc kn x L).length = if (vfind kc kn (kc x) (kn x) L).isSome then L.length else L.length + 1
  | [], _ => rfl
  | v :: r, h => by
    obtain ⟨o1, o2⟩ := List.pairwise_cons.1 h
    have ih := vset_len x o2
    have hn : (∀ y ∈ r, kc x < kc y ∨ kc x = kc y ∧ kn x < kn y) → vfind kc kn (kc x) (kn x) r = none := by
      intro h
      unfold vfind
      rw [List.find?_eq_none]
      intro y hy
      have := h y hy
      simp; omega
    have hc : vfind kc kn (kc x) (kn x) (v :: r) = if kc v = kc x ∧ kn v = kn x then some v else vfind kc kn (kc x) (kn x) r := by
      unfold vfind
      rw [List.find?_cons]
      split <;> rename_i e
      · rw [if_pos (of_decide_eq_true e)]
      · rw [if_neg (of_decide_eq_false e)]
    rw [vset]
    by_cases e : kc x < kc v ∨ kc x = kc v ∧ kn x < kn v
    · have e2 : ¬ (kc v = kc x ∧ kn v = kn x) := by omega
      rw [if_pos e, hc, if_neg e2, hn (fun y hy => by have := o1 y hy; omega)]
      rfl
    · rw [if_neg e]
      by_cases e2 : kc x = kc v ∧ kn x = kn v
      · have e3 : kc v = kc x ∧ kn v = kn x := ⟨e2.1.symm, e2.2.symm⟩
        rw [if_pos e2, hc, if_pos e3]
        rfl
      · have e3 : ¬ (kc v = kc x ∧ kn v = kn x) := fun h => e2 ⟨h.1.symm, h.2.symm⟩
        rw [if_neg e2, hc, if_neg e3, List.length_cons, ih, List.length_cons]
        cases vfind kc kn (kc x) (kn x) r <;> rfl
end
/-! the book: a map from names to verdicts, as a list in order -/
set_option maxRecDepth 100000
theorem laidOut : laidOutB Try.prog = true := by kernel_rfl
theorem row32 : (32 : TypeId) < Try.prog.types.size := of_decide_eq_true (by kernel_rfl)
theorem wide32 : (match Try.prog.underlying 32 with | some (.array _ _) | some (.struct _) => true | _ => false) = true := by rw [Try.underlying32]
theorem law32 : Maps.Keyed Try.prog 32 := Maps.Keyed.of_law (deep_law_laid laidOut (m := 3) (by omega) row32 (by kernel_rfl) wide32)
def inK (c n : Int) : Prop := 0 ≤ c ∧ c < 4294967296 ∧ 0 ≤ n ∧ n < 4294967296
def keyV (c n : Int) : Value := .agg #[.int .u32 c, .int .u32 n]
theorem formed32 (a b : Value) : (Value.agg #[a, b]).formed Try.prog 32 = true := by
  have hc : Try.prog.cellsOf 32 = 2 := by kernel_rfl
  simp [Value.formed, Try.underlying32, hc]
theorem wf_u32 {n : Int} (h0 : 0 ≤ n) (h1 : n < 4294967296) : (Lit.int .u32 n).wf = true := by
  have h2 : n ≤ 4294967295 := by omega
  simp [Lit.wf, IntKind.min, IntKind.max, IntKind.signed, IntKind.bits, h0, h2]
theorem lits32' (d : Nat) (c n : Int) (h : inK c n) : Try.prog.keyLits (d + 2) 32 [.int .u32 c, .int .u32 n] = some [.int .u32 c, .int .u32 n] := by
  obtain ⟨h1, h2, h3, h4⟩ := h
  have hc : Try.prog.cellsOf 32 = 2 := by kernel_rfl
  have hc30 : Try.prog.cellsOf 30 = 1 := by kernel_rfl
  have w1 := wf_u32 h1 h2
  have w2 := wf_u32 h3 h4
  unfold Program.keyLits
  rw [Try.underlying32]
  simp [List.mapM_cons, Program.keyLits, Try.underlying30, hc, hc30, w1, w2]
theorem key_of {c n : Int} (h : inK c n) : keyOf Try.prog 32 (keyV c n) = some (klit c n) := by
  have hk : Try.prog.keyType 32 = true := by kernel_rfl
  unfold keyOf keyV
  rw [Try.underlying32]
  simp only [hk, formed32, Bool.and_self, if_true]
  have hs : Try.prog.types.size = (Try.prog.types.size - 1) + 1 := by have h0 : (32 : Nat) < Try.prog.types.size := row32; omega
  rw [show (Value.agg #[Value.int .u32 c, Value.int .u32 n]).cells.toList = [.int .u32 c, .int .u32 n] from rfl, hs, lits32' _ c n h]
  rfl
end Go.Proofs.Ytdelbidaclddgaa.Lat
