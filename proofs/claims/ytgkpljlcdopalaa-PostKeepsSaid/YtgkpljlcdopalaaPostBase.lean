/- The post (layer 16) and the document's, walked function by function; a seat's own text. -/
import Derived.Test.YtgkpljlcdopalaaPPostRunsx1
import Derived.Deep.LoopGhost
import Derived.Deep.Cut
import Derived.Lib.Hide
import Derived.StillTailTactics
import Derived.Deep.QuietTactic
import Derived.BigQuiet
import Derived.Outline
import Derived.Deep.RegionWith
import Derived.Deep.RegionHeld3
import Derived.WalkLawsBesides
import Derived.Deep.DeepAppendWide
import Derived.Ground.Names2Prog
import Derived.Shelf.Slices.Clone
import Derived.Shelf.Slices.Delete
import Derived.Shelf.Slices.Cells
import Derived.Shelf.Slices.Empties
namespace Go.Proofs.Ytgkpljlcdopalaa.Post
open Go.RowKit Go.Proofs.YtgkpljlcdopalaaW.PrintWords
set_option linter.unusedVariables false
set_option linter.unusedSimpArgs false
open Go.Shelf
def laysNm216_ren : Go.Shelf.Ren := ⟨fun | 16 => 44 | n => n, fun | 24 => 33 | 9 => 9 | 4 => 4 | n => n, fun | n => n⟩
theorem laysNm216 : Go.Proofs.Lays2.n16 Try.prog laysNm216_ren := {
  mixed := by kernel_rfl
  f16 := Try.func44.trans (congrArg some (by kernel_rfl))
  t4 := Try.underlying4
  a4 := Try.isAgg4
  z4 := Try.sizeOf4
  v4 := Try.zeroValue4
  t9 := Try.underlying9
  a9 := Try.isAgg9
  z9 := Try.sizeOf9
  v9 := Try.zeroValue9
  t24 := Try.underlying33
  a24 := Try.isAgg33
  z24 := Try.sizeOf33
  v24 := Try.zeroValue33
  i9 := by kernel_rfl }
open Go.RowKit Go.Lib in
theorem slices_Clone_string (b off n c : Nat) (zs : List ByteArray) (w : World) (hz : n ≤ zs.length) (hbig : n * 16 ≤ 140737488355328) (hc : ∀ j, j < zs.length → w.cell? ⟨b, off + j, none⟩ = some (.string (zs.getD j ByteArray.empty))) :
    Calls Try.prog 44 #[.slice (some ⟨b, off, none⟩) n c] w fun e w' => ∃ v', e = .returned v' ∧ w'.ownsRow w.heap.size 9 1 v' n ((zs.take n).map (Value.string)) ∧ v' ≠ .slice none 0 0 ∧ Below w.heap.size w w' := Any.slices_Clone_string laysNm216 b off n c zs w hz hbig hc
open Go.RowKit Go.Lib in
theorem slices_Clone_string_nil (n c : Nat) (w : World) :
    Calls Try.prog 44 #[.slice none n c] w fun e w' => e = .returned (.slice none 0 0) ∧ w' = w := Any.slices_Clone_string_nil laysNm216 n c w
open Go.RowKit Go.Lib in
theorem slices_Clone_string_zero (a : Addr) (c : Nat) (w : World) :
    Calls Try.prog 44 #[.slice (some a) 0 c] w fun e w' => ∃ v', e = .returned v' ∧ w'.ownsRow w.heap.size 9 1 v' 0 [] ∧ v' ≠ .slice none 0 0 ∧ Below w.heap.size w w' := Any.slices_Clone_string_zero laysNm216 a c w
def laysNm224_ren : Go.Shelf.Ren := ⟨fun | 24 => 42 | n => n, fun | 24 => 33 | 9 => 9 | 3 => 3 | 4 => 4 | 0 => 0 | n => n, fun | n => n⟩
theorem laysNm224 : Go.Proofs.Lays2.n24 Try.prog laysNm224_ren := {
  mixed := by kernel_rfl
  f24 := Try.func42.trans (congrArg some (by kernel_rfl))
  t0 := Try.underlying0
  a0 := Try.isAgg0
  z0 := Try.sizeOf0
  v0 := Try.zeroValue0
  t3 := Try.underlying3
  a3 := Try.isAgg3
  z3 := Try.sizeOf3
  v3 := Try.zeroValue3
  t4 := Try.underlying4
  a4 := Try.isAgg4
  z4 := Try.sizeOf4
  v4 := Try.zeroValue4
  t9 := Try.underlying9
  a9 := Try.isAgg9
  z9 := Try.sizeOf9
  v9 := Try.zeroValue9
  t24 := Try.underlying33
  a24 := Try.isAgg33
  z24 := Try.sizeOf33
  v24 := Try.zeroValue33
  i9 := by kernel_rfl }
open Go.RowKit Go.Lib Go.Sort in
theorem slices_Delete_string_arr (blk off cap i j : Nat) (d : Array (List UInt8)) (w : World) (hH : Holds encStr w blk off d) (hcap : d.size ≤ cap) (hm : cap ≤ 9223372036854775807) (hij : i ≤ j) (hj : j ≤ d.size) :
    Calls Try.prog 42 #[.slice (some ⟨blk, off, none⟩) d.size cap, .int .i64 i, .int .i64 j] w fun e w' => e = .returned (.slice (some ⟨blk, off, none⟩) (d.size - (j - i)) cap) ∧ ∃ q, w' = putRow encStr (Sort.ahead w q) blk off (d.toList.take i ++ d.toList.drop j ++ List.replicate (j - i) []).toArray := Any.slices_Delete_string_arr laysNm224 blk off cap i j d w hH hcap hm hij hj
open Go.RowKit Go.Lib Go.Sort in
theorem slices_Delete_string (blk off cap i j : Nat) (zs : List (List UInt8)) (w : World) (hH : Holds encStr w blk off zs.toArray) (hcap : zs.length ≤ cap) (hm : cap ≤ 9223372036854775807) (hij : i ≤ j) (hj : j ≤ zs.length) :
    Calls Try.prog 42 #[.slice (some ⟨blk, off, none⟩) zs.length cap, .int .i64 i, .int .i64 j] w fun e w' => e = .returned (.slice (some ⟨blk, off, none⟩) (zs.length - (j - i)) cap) ∧ ∃ q, w' = putRow encStr (Sort.ahead w q) blk off (zs.take i ++ zs.drop j ++ List.replicate (j - i) []).toArray := Any.slices_Delete_string laysNm224 blk off cap i j zs w hH hcap hm hij hj
open Go.RowKit Go.Lib Go.Sort in
theorem slices_Delete_string_cells (b off n c i j : Nat) (Sx : Nat → ByteArray) (w : World) (hcap : n ≤ c) (hm : c ≤ 9223372036854775807) (hij : i ≤ j) (hj : j ≤ n) (hc : ∀ i, i < n → w.cell? ⟨b, off + i, none⟩ = some (.string (Sx i))) (hf : ∀ j, j < n → w.frozen? ⟨b, off + j, none⟩ = false) :
    Calls Try.prog 42 #[.slice (some ⟨b, off, none⟩) n c, .int .i64 i, .int .i64 j] w fun e w' => e = .returned (.slice (some ⟨b, off, none⟩) (n - (j - i)) c) ∧ ∃ q, w' = (w.drewN q).setCells b off (((Lib.strsOf Sx n).take i ++ (Lib.strsOf Sx n).drop j ++ List.replicate (j - i) []).map encStr) := Any.slices_Delete_string_cells laysNm224 b off n c i j Sx w hcap hm hij hj hc hf
open Go.RowKit Go.Lib in
theorem slices_Delete_string_empty (a : Option Addr) (c : Nat) (w : World) :
    Calls Try.prog 42 #[.slice a 0 c, .int .i64 0, .int .i64 0] w fun e w' => e = .returned (.slice a 0 c) ∧ w' = w := Any.slices_Delete_string_empty laysNm224 a c w
/-- What a call has turned: the blocks of fp, and new ones, alone. -/
structure Mod (W W' : World) (fp : List Nat) : Prop where
  os : W'.os = W.os
  tape : W'.tape = W.tape
  output : W'.output = W.output
  size : W.heap.size ≤ W'.heap.size
  block : ∀ k, k < W.heap.size → k ∉ fp → W'.heap[k]? = W.heap[k]?
theorem Mod.refl (W : World) (fp : List Nat) : Mod W W fp := ⟨rfl, rfl, rfl, Nat.le_refl _, fun _ _ _ => rfl⟩
theorem Mod.trans {W W1 W2 : World} {fp fp' : List Nat} (h : Mod W W1 fp) (h' : Mod W1 W2 fp') (hs : ∀ k ∈ fp', k ∈ fp ∨ W.heap.size ≤ k) : Mod W W2 fp :=
  ⟨h'.os.trans h.os, h'.tape.trans h.tape, h'.output.trans h.output, Nat.le_trans h.size h'.size, fun k hk hn => by
    refine (h'.block k (Nat.lt_of_lt_of_le hk h.size) (fun hm => ?_)).trans (h.block k hk hn)
    rcases hs k hm with h1 | h1
    · exact hn h1
    · omega⟩
theorem Mod.drew {W W' : World} {fp : List Nat} (h : Mod W W' fp) : Mod W W'.drew fp := ⟨h.os, h.tape, h.output, h.size, h.block⟩
theorem Mod.drewN {W W' : World} {fp : List Nat} (h : Mod W W' fp) (n : Nat) : Mod W (W'.drewN n) fp := ⟨h.os, h.tape, h.output, h.size, h.block⟩
theorem Mod.alloc {W W' : World} {fp : List Nat} (h : Mod W W' fp) (o : Obj) : Mod W (W'.alloc o) fp :=
  ⟨h.os, h.tape, h.output, by have := h.size; simp; omega, fun k hk hn => (Below.heap_alloc W' o k (Nat.lt_of_lt_of_le hk h.size)).trans (h.block k hk hn)⟩
theorem Mod.setCell {W W' : World} {fp : List Nat} (h : Mod W W' fp) {p : Addr} (hp : p.block ∈ fp ∨ W.heap.size ≤ p.block) (u : Value) : Mod W (W'.setCell p u) fp :=
  ⟨h.os, h.tape, h.output, by simpa [World.setCell] using h.size, fun k hk hn => (Below.heap_setCell W' p u k (fun e => by
    subst e
    rcases hp with h1 | h1
    · exact hn h1
    · omega)).trans (h.block k hk hn)⟩
theorem Mod.mono {W W' : World} {fp fp' : List Nat} (h : Mod W W' fp) (hs : ∀ k ∈ fp, k ∈ fp' ∨ W.heap.size ≤ k) : Mod W W' fp' := (Mod.refl W fp').trans h hs
theorem Mod.at_ {W W' : World} {fp : List Nat} (h : Mod W W' fp) {b : Nat} {o : Obj} (hb : W.heap[b]? = some o) (hn : b ∉ fp) : W'.heap[b]? = some o := (h.block b (blk_lt hb) hn).trans hb
theorem Mod.below {W W' : World} {fp : List Nat} (h : Mod W W' fp) {B : Nat} (hB : ∀ k ∈ fp, B ≤ k) (hs : B ≤ W.heap.size) : Below B W W' :=
  ⟨h.os, h.tape, h.output, h.size, fun k hk => h.block k (by omega) (fun hm => by have := hB k hm; omega)⟩

theorem Mod.bel {W W' : World} (h : Mod W W' []) : Below W.heap.size W W' := h.below (fun k hk => by simp at hk) (Nat.le_refl _)
theorem Mod.of_drawn {W W' : World} (h : Drawn0 W W') : Mod W W' [] := by
  obtain ⟨⟨n, rfl⟩⟩ := h
  exact (Mod.refl _ _).drewN n
def ownList (v : Value) : List Nat := match v with
  | .slice (some a) _ _ => [a.block]
  | _ => []
theorem own_own' (v : Value) : ∀ y, v.ownBlock = some y → y ∈ ownList v := by
  intro y hy
  unfold Value.ownBlock at hy
  split at hy
  · simp only [Option.some.injEq] at hy
    simp [ownList, hy]
  · cases hy
theorem own_mem (v : Value) : ∀ y ∈ ownList v, v.ownBlock = some y := by
  intro y hy
  unfold ownList at hy
  split at hy
  · simp only [List.mem_singleton] at hy; subst hy; rfl
  · simp at hy
theorem mod_grown {W W1 W2 : World} {fp : List Nat} {row : Option Nat} (h : Mod W W1 fp) (hg : W1.grownBy W2 row) (hr : ∀ y, row = some y → y ∈ fp) : Mod W W2 fp :=
  ⟨hg.os.trans h.os, hg.tape.trans h.tape, hg.output.trans h.output, Nat.le_trans h.size hg.size, fun k hk hn => (hg.block k (Nat.lt_of_lt_of_le hk h.size) (fun e => hn (hr k e.symm))).trans (h.block k hk hn)⟩
theorem mod_own {W1 W2 : World} {v : Value} (hg : W1.grownBy W2 v.ownBlock) : Mod W1 W2 (ownList v) := mod_grown (Mod.refl W1 _) hg (own_own' v)
theorem own_new {W : World} {v v' : Value} {H : Nat} (hs : W.heap.size ≤ H) (hat : ∀ y, v'.ownBlock = some y → v.ownBlock = some y ∨ H ≤ y) :
    ∀ y ∈ ownList v', y ∈ ownList v ∨ W.heap.size ≤ y := by
  intro y hy
  rcases hat y (own_mem _ y hy) with h | h
  · exact .inl (own_own' _ y h)
  · exact .inr (by omega)
theorem chain_new {W W1 : World} {f1 f2 f3 : List Nat} (h1 : ∀ y ∈ f2, y ∈ f1 ∨ W.heap.size ≤ y) (hs : W.heap.size ≤ W1.heap.size) (h2 : ∀ y ∈ f3, y ∈ f2 ∨ W1.heap.size ≤ y) : ∀ y ∈ f3, y ∈ f1 ∨ W.heap.size ≤ y := by
  intro y hy
  rcases h2 y hy with h | h
  · exact h1 y h
  · exact .inr (Nat.le_trans hs h)
/-- A kind whose elements lead to no memory. -/
def Plain {α : Type} (d : Kd α) : Prop := ∀ (w w' : World) (b b' : Nat) (ok ok' : Nat → Prop) (x : α) (cs : List Value), d.M w b ok x cs → d.M w' b' ok' x cs
/-- A row of the call's own. -/
def Row {α : Type} (d : Kd α) (e : Nat) (W : World) (v : Value) (l : List α) : Prop := d.R e W 0 (fun _ => True) v l
theorem Row.nil {α : Type} (d : Kd α) (e : Nat) (W : World) : Row d e W (.slice none 0 0) [] := Kd.R_nil _ _ _ _ _
theorem Row.of {α : Type} {d : Kd α} {e base : Nat} {W : World} {ok : Nat → Prop} {v : Value} {l : List α} (h : d.R e W base ok v l) : Row d e W v l := Kd.R_mono (Kd.R_lower h (Nat.zero_le _)) (fun _ _ => trivial)
theorem Row.lt {α : Type} {d : Kd α} {e : Nat} {W : World} {v : Value} {l : List α} (h : Row d e W v l) : ∀ y ∈ ownList v, y < W.heap.size := fun y hy => Kd.R_lt h y (own_mem v y hy)
theorem Row.C {α : Type} {d : Kd α} {e : Nat} {W : World} {v : Value} {l : List α} (h : Row d e W v l) : ∃ A c, v = .slice A l.length c ∧ l.length ≤ c ∧ Kd.C d W A l.length l := Kd.R_reads h
theorem Row.mod {α : Type} {d : Kd α} {e : Nat} {W W' : World} {v : Value} {l : List α} {fp : List Nat} (hp : Plain d) (h : Row d e W v l) (m : Mod W W' fp) (hd : ∀ y ∈ ownList v, y ∉ fp) : Row d e W' v l :=
  Kd.R_mono (Kd.R_step (Kd.R_flat (fun hx => hp _ _ _ _ _ _ _ _ hx) h (ok' := fun k => k ∈ ownList v) (fun k hk _ => own_own' v k hk)) (fun k hk hlt => m.block k hlt (hd k hk))) (fun _ _ => trivial)
/-- A struct of one slice. -/
def BoxF {α : Type} (d : Kd α) (e T : Nat) (W : World) (g : Nat) (l : List α) (fp : List Nat) : Prop := ∃ v, W.heap[g]? = some (.cells #[v] T (0, 0)) ∧ Row d e W v l ∧ g ∉ ownList v ∧ fp = g :: ownList v
theorem BoxF.mod {α : Type} {d : Kd α} {e T : Nat} {W W' : World} {g : Nat} {l : List α} {fp fp2 : List Nat} (hp : Plain d) (h : BoxF d e T W g l fp) (m : Mod W W' fp2) (hd : ∀ x ∈ fp, x ∉ fp2) : BoxF d e T W' g l fp := by
  obtain ⟨v, h1, h2, h3, rfl⟩ := h
  exact ⟨v, m.at_ h1 (hd g (by simp)), h2.mod hp m (fun y hy => hd y (by simp [hy])), h3, rfl⟩
theorem BoxF.lt {α : Type} {d : Kd α} {e T : Nat} {W : World} {g : Nat} {l : List α} {fp : List Nat} (h : BoxF d e T W g l fp) : ∀ x ∈ fp, x < W.heap.size := by
  obtain ⟨v, h1, h2, h3, rfl⟩ := h
  intro x hx
  rcases List.mem_cons.1 hx with rfl | hx
  · exact blk_lt h1
  · exact h2.lt x hx
theorem plain_scalar {α : Type} (enc : α → Value) (h1 : ∀ x, (enc x).oneCell' = true) : Plain (Kd.scalar enc h1) := fun _ _ _ _ _ _ _ _ h => h
theorem plain_string : Plain Kd.string := plain_scalar _ _
theorem plain_int (k : IntKind) : Plain (Kd.int k) := plain_scalar _ _
theorem plain_bool : Plain Kd.bool := plain_scalar _ _
theorem own_at {v v1 : Value} {H : Nat} (h : v1.ownBlock = v.ownBlock ∨ ∃ b, v1.ownBlock = some b ∧ H ≤ b) : ∀ y ∈ ownList v1, y ∈ ownList v ∨ H ≤ y := by
  intro y hy
  have e := own_mem _ y hy
  rcases h with h | ⟨b, h, hb⟩
  · exact .inl (own_own' _ y (h ▸ e))
  · rw [h] at e
    injection e with e
    exact .inr (e ▸ hb)
theorem BoxF.put {α : Type} {d : Kd α} {e T : Nat} (hp : Plain d) {W W1 : World} {g : Nat} {v v1 : Value} {l1 : List α} (h1 : W.heap[g]? = some (.cells #[v] T (0, 0))) (h3 : g ∉ ownList v) (r1 : Row d e W1 v1 l1) (m : Mod W W1 (ownList v)) (hat : ∀ y ∈ ownList v1, y ∈ ownList v ∨ W.heap.size ≤ y) :
    BoxF d e T (W1.setCell ⟨g, 0, none⟩ v1) g l1 (g :: ownList v1) ∧ Mod W (W1.setCell ⟨g, 0, none⟩ v1) (g :: ownList v) ∧ ∀ y ∈ g :: ownList v1, y ∈ g :: ownList v ∨ W.heap.size ≤ y := by
  have hg1 : g ∉ ownList v1 := fun hy => by
    rcases hat g hy with h | h
    · exact h3 h
    · have := blk_lt h1; omega
  refine ⟨⟨v1, blk_put (m.at_ h1 h3) 0 v1 rfl, r1.mod hp ((Mod.refl W1 [g]).setCell (p := ⟨g, 0, none⟩) (.inl (by simp)) v1) (fun y hy hz => ?_), hg1, rfl⟩, (m.mono (fun k hk => .inl (List.mem_cons_of_mem _ hk))).setCell (p := ⟨g, 0, none⟩) (.inl (by simp)) v1, fun y hy => ?_⟩
  · rw [List.mem_singleton] at hz
    subst hz
    exact hg1 hy
  · rcases List.mem_cons.1 hy with rfl | hy
    · exact .inl (by simp)
    · rcases hat y hy with h | h
      · exact .inl (List.mem_cons_of_mem _ h)
      · exact .inr h
theorem Row.form {α : Type} {d : Kd α} {e : Nat} {W : World} {v : Value} {l : List α} (h : Row d e W v l) : ∃ A n c, v = .slice A n c := by
  obtain ⟨A, c, rfl, _⟩ := h.C
  exact ⟨A, _, c, rfl⟩
/-! a row of texts that is cut in place -/
theorem setCells_blk {T : TypeId} {b : Nat} : ∀ (vs : List Value) (o : Nat) (w : World) (cur : Array Value), o + vs.length ≤ cur.size → w.heap[b]? = some (.cells cur T (0, 0)) →
    ∃ cur' : Array Value, (w.setCells b o vs).heap[b]? = some (.cells cur' T (0, 0)) ∧ cur'.size = cur.size ∧ cur'.toList = cur.toList.take o ++ vs ++ cur.toList.drop (o + vs.length)
  | [], o, w, cur, _, h => ⟨cur, h, rfl, by simp⟩
  | v :: r, o, w, cur, hs, h => by
    simp only [List.length_cons] at hs
    obtain ⟨cur', h1, h2, h3⟩ := setCells_blk r (o + 1) (w.setCell ⟨b, o, none⟩ v) (cur.setIfInBounds o v) (by rw [Array.size_setIfInBounds]; omega) (blk_put h o v rfl)
    refine ⟨cur', h1, by simpa using h2, ?_⟩
    have hlen : o < cur.toList.length := by rw [Array.length_toList]; omega
    rw [h3, Array.toList_setIfInBounds, List.set_eq_take_append_cons_drop, if_pos hlen]
    have ht : (cur.toList.take o).length = o := by rw [List.length_take]; omega
    have e1 : (cur.toList.take o ++ v :: cur.toList.drop (o + 1)).take (o + 1) = cur.toList.take o ++ [v] := by
      rw [List.take_append, ht, List.take_of_length_le (by omega), show o + 1 - o = 1 by omega]; rfl
    have e2 : (cur.toList.take o ++ v :: cur.toList.drop (o + 1)).drop (o + 1 + r.length) = cur.toList.drop (o + (r.length + 1)) := by
      rw [List.drop_append, ht, List.drop_eq_nil_of_le (by rw [ht]; omega), show o + 1 + r.length - o = r.length + 1 by omega]
      simp only [List.drop_succ_cons, List.nil_append, List.drop_drop]
      congr 1; omega
    rw [e1, e2]
    simp
theorem setCells_mod {b : Nat} : ∀ (vs : List Value) (o : Nat) (w : World), Mod w (w.setCells b o vs) [b]
  | [], _, w => Mod.refl w _
  | v :: r, o, w => ((Mod.refl w [b]).setCell (p := ⟨b, o, none⟩) (.inl (by simp)) v).trans (setCells_mod r (o + 1) _) (fun k hk => .inl hk)
theorem take_len_append {α : Type} (a b : List α) (n : Nat) (h : n = a.length) : (a ++ b).take n = a := by subst h; simp
theorem delete_calls {W : World} {g c : Nat} {l : List ByteArray} (h : Row Kd.string 9 W (.slice (some ⟨g, 0, none⟩) l.length c) l) (i : Nat) (hi : i < l.length) :
    Calls Try.prog 42 #[.slice (some ⟨g, 0, none⟩) l.length c, .int .i64 i, .int .i64 (i + 1 : Nat)] W fun e W' => e = .returned (.slice (some ⟨g, 0, none⟩) (l.eraseIdx i).length c) ∧ Row Kd.string 9 W' (.slice (some ⟨g, 0, none⟩) (l.eraseIdx i).length c) (l.eraseIdx i) ∧ Mod W W' [g] := by
  have ho := Kd.own_of_R h
  rcases ho with ⟨h1, ⟨hv, h2⟩ | ⟨g', cap, cur, hv, h3, h4, h5, h6, h7, h8⟩⟩
  · omega
  injection hv with e1 e2 e3
  injection e1 with e1
  injection e1 with e1
  subst e1
  subst e3
  have hcur : cur.toList.take l.length = l.map Value.string := by simpa [encs] using h8
  have hcs : cur.size = c := by omega
  have hcell : ∀ k, k < l.length → W.cell? ⟨g, 0 + k, none⟩ = some (.string (l.getD k ByteArray.empty)) := by
    intro k hk
    rw [Nat.zero_add, blk_cell h4 k, ← Array.getElem?_toList, ← List.getElem?_take_of_lt hk, hcur, List.getElem?_map, List.getElem?_eq_getElem hk, List.getD_eq_getElem?_getD, List.getElem?_eq_getElem hk]
    rfl
  refine (slices_Delete_string_cells g 0 l.length c i (i + 1) (fun k => l.getD k ByteArray.empty) W h5 h6 (by omega) (by omega) hcell (fun k _ => blk_frozen h4 _)).mono ?_
  rintro e W' ⟨rfl, q, rfl⟩
  have hs : Lib.strsOf (fun k => l.getD k ByteArray.empty) l.length = l.map fun s => s.data.toList := by
    apply List.ext_getElem?
    intro k
    unfold Lib.strsOf
    by_cases hk : k < l.length
    · rw [List.getElem?_map, List.getElem?_range hk, List.getElem?_map, List.getElem?_eq_getElem hk]
      simp [List.getD_eq_getElem?_getD, List.getElem?_eq_getElem hk]
    · rw [List.getElem?_eq_none (by simp; omega), List.getElem?_eq_none (by simp; omega)]
  have hnews : (((Lib.strsOf (fun k => l.getD k ByteArray.empty) l.length).take i ++ (Lib.strsOf (fun k => l.getD k ByteArray.empty) l.length).drop (i + 1) ++ List.replicate (i + 1 - i) []).map (fun x : List UInt8 => Value.string ⟨x.toArray⟩)) = (l.eraseIdx i).map Value.string ++ [Value.string ⟨#[]⟩] := by
    rw [hs, List.eraseIdx_eq_take_drop_succ, show i + 1 - i = 1 by omega]
    simp only [List.map_append, ← List.map_take, ← List.map_drop, List.map_map, List.replicate_one, List.map_cons, List.map_nil]
    rfl
  have hel : (l.eraseIdx i).length = l.length - 1 := List.length_eraseIdx_of_lt hi
  have hnl : ((l.eraseIdx i).map Value.string ++ [Value.string ⟨#[]⟩]).length = l.length := by simp [hel]; omega
  rw [hnews]
  obtain ⟨cur', k1, k2, k3⟩ := setCells_blk ((l.eraseIdx i).map Value.string ++ [Value.string ⟨#[]⟩]) 0 (W.drewN q) cur (by rw [hnl]; omega) h4
  have hm : Mod W ((W.drewN q).setCells g 0 ((l.eraseIdx i).map Value.string ++ [Value.string ⟨#[]⟩])) [g] := ((Mod.refl W [g]).drewN q).trans (setCells_mod _ _ _) (fun k hk => .inl hk)
  refine ⟨by rw [hel]; congr 2; omega, ?_, hm⟩
  refine Kd.R_of_own ⟨by simp [encs], .inr ⟨g, c, cur', rfl, Nat.zero_le _, k1, by omega, h6, by omega, ?_⟩⟩ (fun _ _ => trivial)
  rw [k3]
  simp only [List.take_zero, List.nil_append, List.append_assoc, Nat.mul_one]
  exact take_len_append _ _ _ (by simp)
theorem info9 : (Try.prog.info? 9).map (fun i => (i.zero, i.size, i.bytes)) = some (some (.string ByteArray.empty), 1, 16) := by kernel_rfl
def PF (T : Nat) (W : World) (g : Nat) (l : List ByteArray) (fp : List Nat) : Prop := BoxF Kd.string 9 T W g l fp
theorem PF.mod {T : Nat} {W W' : World} {g : Nat} {l : List ByteArray} {fp fp2 : List Nat} (h : PF T W g l fp) (m : Mod W W' fp2) (hd : ∀ x ∈ fp, x ∉ fp2) : PF T W' g l fp := BoxF.mod plain_string h m hd
theorem PF.lt {T : Nat} {W : World} {g : Nat} {l : List ByteArray} {fp : List Nat} (h : PF T W g l fp) : ∀ x ∈ fp, x < W.heap.size := BoxF.lt h
theorem PF.cell {T : Nat} {W : World} {g : Nat} {l : List ByteArray} {fp : List Nat} (h : PF T W g l fp) : ∃ A c, W.heap[g]? = some (.cells #[.slice A l.length c] T (0, 0)) ∧ Row Kd.string 9 W (.slice A l.length c) l ∧ g ∉ ownList (.slice A l.length c) ∧ fp = g :: ownList (.slice A l.length c) ∧ l.length ≤ c := by
  obtain ⟨v, h1, h2, h3, h4⟩ := h
  obtain ⟨A, c, rfl, h5, _⟩ := h2.C
  exact ⟨A, c, h1, h2, h3, h4, h5⟩
/-! a raw number's place -/
def pidx (raw : Int) (n : Nat) : Nat := ((raw.tmod n + n).tmod n).toNat
theorem pidx_int {n : Nat} (raw : Int) (h : 0 < n) : ((pidx raw n : Nat) : Int) = (raw.tmod n + n).tmod n := by
  unfold pidx
  have h1 : -(n : Int) < raw.tmod n := by have := Int.lt_tmod_of_pos raw (b := (n : Int)) (by omega); omega
  exact Int.toNat_of_nonneg (Int.tmod_nonneg _ (by omega))
theorem pidx_mod {n : Nat} (raw : Int) (h : 0 < n) : ((pidx raw n : Nat) : Int) = (raw.tmod n + n) % n := by
  rw [pidx_int raw h]
  have h1 : -(n : Int) < raw.tmod n := by have := Int.lt_tmod_of_pos raw (b := (n : Int)) (by omega); omega
  exact Int.tmod_eq_emod_of_nonneg (by omega)
theorem pidx_lt {n : Nat} (raw : Int) (h : 0 < n) : pidx raw n < n := by
  have h1 := pidx_int raw h
  have h2 := Int.tmod_lt_of_pos (raw.tmod n + n) (b := (n : Int)) (by omega)
  omega
theorem pidx_if {n : Nat} (raw : Int) (h : 0 < n) : ((pidx raw n : Nat) : Int) = if raw.tmod n < 0 then raw.tmod n + n else raw.tmod n := by
  rw [pidx_int raw h]
  have h1 : -(n : Int) < raw.tmod n := by have := Int.lt_tmod_of_pos raw (b := (n : Int)) (by omega); omega
  have h2 := Int.tmod_lt_of_pos raw (b := (n : Int)) (by omega)
  split
  · exact Int.tmod_eq_of_lt (by omega) (by omega)
  · rw [Int.tmod_eq_emod_of_nonneg (by omega), Int.add_emod_right, Int.emod_eq_of_lt (by omega) (by omega)]
theorem new_calls {W : World} : Calls Try.prog 18 #[] W fun e W' => e = .returned (.pointer (some ⟨W.heap.size, 0, none⟩)) ∧ PF 70 W' W.heap.size [] [W.heap.size] ∧ Mod W W' [] := by
  go_enter Try.func18, Try.ntmps18
  go_wp2
  go_ret
  exact ⟨rfl, ⟨_, blk_new _ _, Row.nil _ _ _, by simp [ownList], by simp [ownList]⟩, (Mod.refl W []).alloc _⟩
theorem place_nil {W : World} (raw : Int) : Calls Try.prog 41 #[.pointer none, .int .i64 raw] W fun e W' => e = .returned (.tuple #[.int .i64 0, .bool false]) ∧ W' = W := by
  go_enter Try.func41, Try.ntmps41
  go_wp2
  go_ret2
  exact ⟨rfl, rfl⟩
theorem place_zero {W : World} {g : Nat} {fp : List Nat} (raw : Int) (h : PF 70 W g [] fp) : Calls Try.prog 41 #[.pointer (some ⟨g, 0, none⟩), .int .i64 raw] W fun e W' => e = .returned (.tuple #[.int .i64 0, .bool false]) ∧ W' = W := by
  obtain ⟨A, c, h1, _⟩ := h.cell
  have hc : W.cell? ⟨g, 0, none⟩ = some (.slice A 0 c) := (blk_cell h1 0).trans rfl
  clear h h1
  go_enter Try.func41, Try.ntmps41
  go_wp2
  go_ret2
  exact ⟨rfl, rfl⟩
theorem place_some {W : World} {g : Nat} {l : List ByteArray} {fp : List Nat} (raw : Int) (h : PF 70 W g l fp) (hl : 0 < l.length) (hs : l.length ≤ 1000000000) : Calls Try.prog 41 #[.pointer (some ⟨g, 0, none⟩), .int .i64 raw] W fun e W' => e = .returned (.tuple #[.int .i64 (pidx raw l.length), .bool true]) ∧ W' = W := by
  obtain ⟨A, c, h1, _⟩ := h.cell
  have hc : W.cell? ⟨g, 0, none⟩ = some (.slice A l.length c) := (blk_cell h1 0).trans rfl
  have HP := Lib.hid (pidx_mod raw hl)
  have hz : ¬ ((l.length : Int) = 0) := by omega
  have hn : -(l.length : Int) < raw.tmod l.length := by have := Int.lt_tmod_of_pos raw (b := (l.length : Int)) (by omega); omega
  have hp := Int.tmod_lt_of_pos raw (b := (l.length : Int)) (by omega)
  have hw : IntKind.i64.wrap (raw.tmod l.length + l.length) = raw.tmod l.length + l.length := by unfold IntKind.wrap; simp [IntKind.signed, IntKind.bits]; omega
  clear h h1
  go_enter Try.func41, Try.ntmps41
  go_wp2
  go_ret2
  exact ⟨by rw [HP.out]; rfl, rfl⟩
theorem send_nil {W : World} (s : ByteArray) : Calls Try.prog 19 #[.pointer none, .string s] W fun e W' => e = .returned (.bool false) ∧ W' = W := by
  go_enter Try.func19, Try.ntmps19
  go_wp2
  go_ret
  exact ⟨rfl, rfl⟩
/-- Send: behind all others, while there is room. -/
def SendP (T : Nat) (W : World) (g : Nat) (l : List ByteArray) (fp : List Nat) (s : ByteArray) (e : Ending) (W' : World) : Prop :=
  e = .returned (.bool (decide (l.length < 200))) ∧ ∃ fp', PF T W' g (if l.length < 200 then l ++ [s] else l) fp' ∧ Mod W W' fp ∧ ∀ y ∈ fp', y ∈ fp ∨ W.heap.size ≤ y
set_option maxHeartbeats 1000000 in
theorem send_calls {W : World} {g : Nat} {l : List ByteArray} {fp : List Nat} (s : ByteArray) (h : PF 70 W g l fp) (hs : l.length ≤ 1000000000) : Calls Try.prog 19 #[.pointer (some ⟨g, 0, none⟩), .string s] W (SendP 70 W g l fp s) := by
  obtain ⟨A, c, h1, h2, h3, h4, h5⟩ := h.cell
  have hc : W.cell? ⟨g, 0, none⟩ = some (.slice A l.length c) := (blk_cell h1 0).trans rfl
  by_cases hr : l.length < 200
  · have hz : ¬ (200 ≤ (l.length : Int)) := by omega
    have hz' : (l.length : Int) < 200 := by omega
    have HX := Lib.hid (And.intro h1 (And.intro h2 (And.intro h3 (And.intro h4 hr))))
    clear h h1 h2 h3 h4
    go_enter Try.func19, Try.ntmps19
    go_wp2_with (first | (at_builtin; refine Kd.R_append Kd.string (w0 := W) (W := W) 0 rfl _ _ 33 9 (.string ByteArray.empty) 16 rfl Try.underlying33 info9 rfl (by decide) (by decide) (.slice A l.length c) l s [.string s] (fun _ => True) (fun _ => False) rfl rfl rfl (fun k h => h.elim) (fun _ _ => trivial) HX.out.2.1 ?d1 (Nat.zero_le _) ?d2 ?_) | fail)
    case d1 => exact Below.refl _ _
    case d2 => omega
    intro v1 W1 o1 _ g1 hat1
    obtain ⟨A1, n1, c1, rfl⟩ := Row.form (Row.of o1)
    have H1 := Lib.hid (And.intro (Row.of o1) (And.intro (mod_own g1) (own_at hat1)))
    have hc1 : W1.cell? ⟨g, 0, none⟩ = some (.slice A l.length c) := (blk_cell (H1.out.2.1.at_ HX.out.1 HX.out.2.2.1) 0).trans rfl
    have hf1 : W1.frozen? ⟨g, 0, none⟩ = false := blk_frozen (H1.out.2.1.at_ HX.out.1 HX.out.2.2.1) 0
    clear o1 g1 hat1
    go_wp2
    go_ret
    obtain ⟨b1, b2, b3⟩ := BoxF.put plain_string HX.out.1 HX.out.2.2.1 H1.out.1 H1.out.2.1 H1.out.2.2
    obtain rfl := HX.out.2.2.2.1
    exact ⟨by rw [decide_eq_true hr]; rfl, _, by rw [if_pos hr]; exact b1, b2, b3⟩
  · have hz : 200 ≤ (l.length : Int) := by omega
    have HR := Lib.hid (And.intro h hr)
    clear h h1 h2 h3 h4 hr
    go_enter Try.func19, Try.ntmps19
    go_wp2
    go_ret
    refine ⟨?_, fp, ?_, Mod.refl _ _, fun y hy => .inl hy⟩
    · rw [decide_eq_false HR.out.2]; rfl
    · rw [if_neg HR.out.2]; exact HR.out.1
set_option maxHeartbeats 1000000 in
theorem rsend_calls {W : World} {g : Nat} {l : List ByteArray} {fp : List Nat} (s : ByteArray) (h : PF 43 W g l fp) (hs : l.length ≤ 1000000000) : Calls Try.prog 21 #[.pointer (some ⟨g, 0, none⟩), .string s] W (SendP 43 W g l fp s) := by
  obtain ⟨A, c, h1, h2, h3, h4, h5⟩ := h.cell
  have hc : W.cell? ⟨g, 0, none⟩ = some (.slice A l.length c) := (blk_cell h1 0).trans rfl
  by_cases hr : l.length < 200
  · have hz : ¬ (200 ≤ (l.length : Int)) := by omega
    have hz' : (l.length : Int) < 200 := by omega
    have HX := Lib.hid (And.intro h1 (And.intro h2 (And.intro h3 (And.intro h4 hr))))
    clear h h1 h2 h3 h4
    go_enter Try.func21, Try.ntmps21
    go_wp2_with (first | (at_builtin; refine Kd.R_append Kd.string (w0 := W) (W := W) 0 rfl _ _ 33 9 (.string ByteArray.empty) 16 rfl Try.underlying33 info9 rfl (by decide) (by decide) (.slice A l.length c) l s [.string s] (fun _ => True) (fun _ => False) rfl rfl rfl (fun k h => h.elim) (fun _ _ => trivial) HX.out.2.1 ?d1 (Nat.zero_le _) ?d2 ?_) | fail)
    case d1 => exact Below.refl _ _
    case d2 => omega
    intro v1 W1 o1 _ g1 hat1
    obtain ⟨A1, n1, c1, rfl⟩ := Row.form (Row.of o1)
    have H1 := Lib.hid (And.intro (Row.of o1) (And.intro (mod_own g1) (own_at hat1)))
    have hc1 : W1.cell? ⟨g, 0, none⟩ = some (.slice A l.length c) := (blk_cell (H1.out.2.1.at_ HX.out.1 HX.out.2.2.1) 0).trans rfl
    have hf1 : W1.frozen? ⟨g, 0, none⟩ = false := blk_frozen (H1.out.2.1.at_ HX.out.1 HX.out.2.2.1) 0
    clear o1 g1 hat1
    go_wp2
    go_ret
    obtain ⟨b1, b2, b3⟩ := BoxF.put plain_string HX.out.1 HX.out.2.2.1 H1.out.1 H1.out.2.1 H1.out.2.2
    obtain rfl := HX.out.2.2.2.1
    exact ⟨by rw [decide_eq_true hr]; rfl, _, by rw [if_pos hr]; exact b1, b2, b3⟩
  · have hz : 200 ≤ (l.length : Int) := by omega
    have HR := Lib.hid (And.intro h hr)
    clear h h1 h2 h3 h4 hr
    go_enter Try.func21, Try.ntmps21
    go_wp2
    go_ret
    refine ⟨?_, fp, ?_, Mod.refl _ _, fun y hy => .inl hy⟩
    · rw [decide_eq_false HR.out.2]; rfl
    · rw [if_neg HR.out.2]; exact HR.out.1
/-! Take -/
def pat (raw : Int) (l : List ByteArray) : ByteArray := l.getD (pidx raw l.length) ByteArray.empty
def pcut (raw : Int) (l : List ByteArray) : List ByteArray := l.eraseIdx (pidx raw l.length)
theorem pat_get {raw : Int} {l : List ByteArray} (h : 0 < l.length) : l[pidx raw l.length]'(pidx_lt raw h) = pat raw l := by
  unfold pat
  rw [List.getD_eq_getElem?_getD, List.getElem?_eq_getElem (pidx_lt raw h)]; rfl
theorem pcut_len {raw : Int} {l : List ByteArray} (h : 0 < l.length) : (pcut raw l).length = l.length - 1 := List.length_eraseIdx_of_lt (pidx_lt raw h)
theorem pcut_le {raw : Int} {l : List ByteArray} : (pcut raw l).length ≤ l.length := by unfold pcut; rw [List.length_eraseIdx]; split <;> omega
theorem string_cell {W : World} {A : Option Addr} {c : Nat} {l : List ByteArray} (h : Row Kd.string 9 W (.slice A l.length c) l) (hn : 0 < l.length) : ∃ q, A = some ⟨q, 0, none⟩ ∧ ∀ i (hi : i < l.length), W.cell? ⟨q, i, none⟩ = some (.string l[i]) := by
  rcases Kd.own_of_R h with ⟨h1, ⟨hv, h2⟩ | ⟨g', cap, cur, hv, h3, h4, h5, h6, h7, h8⟩⟩
  · omega
  injection hv with e1 e2 e3
  subst e1
  refine ⟨g', rfl, fun i hi => ?_⟩
  have hcur : cur.toList.take l.length = l.map Value.string := by simpa [encs] using h8
  rw [blk_cell h4 i, ← Array.getElem?_toList, ← List.getElem?_take_of_lt hi, hcur, List.getElem?_map, List.getElem?_eq_getElem hi]
  rfl
def TakeP (T : Nat) (W : World) (g : Nat) (l : List ByteArray) (fp : List Nat) (raw : Int) (e : Ending) (W' : World) : Prop :=
  e = .returned (.tuple #[.string (pat raw l), .bool (decide (0 < l.length))]) ∧ ∃ fp', PF T W' g (pcut raw l) fp' ∧ Mod W W' fp ∧ ∀ y ∈ fp', y ∈ fp ∨ W.heap.size ≤ y
theorem take_nil {W : World} (raw : Int) : Calls Try.prog 20 #[.pointer none, .int .i64 raw] W fun e W' => e = .returned (.tuple #[.string ByteArray.empty, .bool false]) ∧ W' = W := by
  go_enter Try.func20, Try.ntmps20
  go_wp2_with fail
  refine (place_nil raw).mono ?_
  rintro e W1 ⟨rfl, rfl⟩
  go_wp2
  go_ret2
  exact ⟨rfl, rfl⟩
set_option maxHeartbeats 1000000 in
theorem take_calls {W : World} {g : Nat} {l : List ByteArray} {fp : List Nat} (raw : Int) (h : PF 70 W g l fp) (hs : l.length ≤ 1000000000) : Calls Try.prog 20 #[.pointer (some ⟨g, 0, none⟩), .int .i64 raw] W (TakeP 70 W g l fp raw) := by
  by_cases hl : 0 < l.length
  · obtain ⟨A, c, h1, h2, h3, h4, h5⟩ := h.cell
    obtain ⟨q, rfl, hq⟩ := string_cell h2 hl
    have hc : W.cell? ⟨g, 0, none⟩ = some (.slice (some ⟨q, 0, none⟩) l.length c) := (blk_cell h1 0).trans rfl
    have hp := pidx_lt raw hl
    have hci := hq _ hp
    rw [pat_get hl] at hci
    have HX := Lib.hid (And.intro h1 (And.intro h2 (And.intro h3 (And.intro h4 (And.intro h hl)))))
    have HZ := Lib.hid (And.intro hs hp)
    clear hq h1 h2 h3 h4 h5 h
    go_enter Try.func20, Try.ntmps20
    go_wp2_with fail
    refine (place_some raw HX.out.2.2.2.2.1 HX.out.2.2.2.2.2 HZ.out.1).mono ?_
    rintro e W1 ⟨rfl, rfl⟩
    have HC : Hid (pcut raw l = l.eraseIdx (pidx raw l.length)) := Lib.hid rfl
    have hw : IntKind.i64.wrap (((pidx raw l.length : Nat) : Int) + 1) = ((pidx raw l.length + 1 : Nat) : Int) := by have := HZ.out; unfold IntKind.wrap; simp [IntKind.signed, IntKind.bits]; omega
    have hz : ((pidx raw l.length : Nat) : Int) < (l.length : Int) := by omega
    generalize hpi : pidx raw l.length = p at *
    have HP := Lib.hid hpi
    clear hpi
    go_wp2_with fail
    refine (delete_calls HX.out.2.1 p hp).mono ?_
    rw [← HC.out]
    rintro e W2 ⟨rfl, r2, m2⟩
    have hc2 : W2.cell? ⟨g, 0, none⟩ = some (.slice (some ⟨q, 0, none⟩) l.length c) := (blk_cell (m2.at_ HX.out.1 HX.out.2.2.1) 0).trans rfl
    have hf2 : W2.frozen? ⟨g, 0, none⟩ = false := blk_frozen (m2.at_ HX.out.1 HX.out.2.2.1) 0
    have H2 := Lib.hid (And.intro r2 m2)
    clear r2 m2 hci
    generalize (pcut raw l).length = n2 at *
    go_wp2
    go_ret2
    obtain ⟨b1, b2, b3⟩ := BoxF.put plain_string HX.out.1 HX.out.2.2.1 H2.out.1 H2.out.2 (fun y hy => .inl hy)
    obtain rfl := HX.out.2.2.2.1
    exact ⟨by rw [decide_eq_true HX.out.2.2.2.2.2]; rfl, _, b1, b2, b3⟩
  · obtain rfl : l = [] := List.eq_nil_of_length_eq_zero (by omega)
    have HR := Lib.hid h
    clear h
    go_enter Try.func20, Try.ntmps20
    go_wp2_with fail
    refine (place_zero raw HR.out).mono ?_
    rintro e W1 ⟨rfl, rfl⟩
    go_wp2
    go_ret2
    exact ⟨rfl, fp, HR.out, Mod.refl _ _, fun y hy => .inl hy⟩
theorem lose_nil {W : World} (raw : Int) : Calls Try.prog 23 #[.pointer none, .int .i64 raw] W fun e W' => e = .returned (.bool false) ∧ W' = W := by
  go_enter Try.func23, Try.ntmps23
  go_wp2_with fail
  refine (take_nil raw).mono ?_
  rintro e W1 ⟨rfl, rfl⟩
  go_wp2
  go_ret
  exact ⟨rfl, rfl⟩
def LoseP (W : World) (g : Nat) (l : List ByteArray) (fp : List Nat) (raw : Int) (e : Ending) (W' : World) : Prop :=
  e = .returned (.bool (decide (0 < l.length))) ∧ ∃ fp', PF 70 W' g (pcut raw l) fp' ∧ Mod W W' fp ∧ ∀ y ∈ fp', y ∈ fp ∨ W.heap.size ≤ y
theorem lose_calls {W : World} {g : Nat} {l : List ByteArray} {fp : List Nat} (raw : Int) (h : PF 70 W g l fp) (hs : l.length ≤ 1000000000) : Calls Try.prog 23 #[.pointer (some ⟨g, 0, none⟩), .int .i64 raw] W (LoseP W g l fp raw) := by
  have HR := Lib.hid (And.intro h hs)
  clear h hs
  go_enter Try.func23, Try.ntmps23
  go_wp2_with fail
  refine (take_calls raw HR.out.1 HR.out.2).mono ?_
  rintro e W1 ⟨rfl, fp', f, m, b⟩
  have H1 := Lib.hid (And.intro f (And.intro m b))
  clear f m b
  generalize hd : decide (0 < l.length) = d at *
  have HD := Lib.hid hd
  clear hd
  go_wp2
  go_ret
  exact ⟨by rw [HD.out]; rfl, fp', H1.out⟩
/-! Double, All, and the document's Take and Double -/
theorem double_nil {W : World} (raw : Int) : Calls Try.prog 24 #[.pointer none, .int .i64 raw] W fun e W' => e = .returned (.bool false) ∧ W' = W := by
  go_enter Try.func24, Try.ntmps24
  go_wp2_with fail
  refine (place_nil raw).mono ?_
  rintro e W1 ⟨rfl, rfl⟩
  go_wp2
  go_ret
  exact ⟨rfl, rfl⟩
def ldouble (raw : Int) (l : List ByteArray) : List ByteArray := if 0 < l.length ∧ l.length < 200 then l ++ [pat raw l] else l
def DoubleP (T : Nat) (W : World) (g : Nat) (l : List ByteArray) (fp : List Nat) (raw : Int) (e : Ending) (W' : World) : Prop :=
  e = .returned (.bool (decide (0 < l.length ∧ l.length < 200))) ∧ ∃ fp', PF T W' g (ldouble raw l) fp' ∧ Mod W W' fp ∧ ∀ y ∈ fp', y ∈ fp ∨ W.heap.size ≤ y
theorem DoubleP.of_send {T : Nat} {W W' : World} {g : Nat} {l : List ByteArray} {fp : List Nat} {raw : Int} {e : Ending} (hl : 0 < l.length) (h : SendP T W g l fp (pat raw l) e W') : DoubleP T W g l fp raw e W' := by
  obtain ⟨h1, h2⟩ := h
  by_cases hr : l.length < 200
  · refine ⟨by rw [h1, decide_eq_true hr, decide_eq_true ⟨hl, hr⟩], ?_⟩
    rw [if_pos hr] at h2
    unfold ldouble
    rw [if_pos ⟨hl, hr⟩]
    exact h2
  · refine ⟨by rw [h1, decide_eq_false hr, decide_eq_false (fun z => hr z.2)], ?_⟩
    rw [if_neg hr] at h2
    unfold ldouble
    rw [if_neg (fun z => hr z.2)]
    exact h2
set_option maxHeartbeats 1000000 in
theorem double_calls {W : World} {g : Nat} {l : List ByteArray} {fp : List Nat} (raw : Int) (h : PF 70 W g l fp) (hs : l.length ≤ 1000000000) : Calls Try.prog 24 #[.pointer (some ⟨g, 0, none⟩), .int .i64 raw] W (DoubleP 70 W g l fp raw) := by
  by_cases hl : 0 < l.length
  · obtain ⟨A, c, h1, h2, h3, h4, h5⟩ := h.cell
    obtain ⟨q, rfl, hq⟩ := string_cell h2 hl
    have hc : W.cell? ⟨g, 0, none⟩ = some (.slice (some ⟨q, 0, none⟩) l.length c) := (blk_cell h1 0).trans rfl
    have hp := pidx_lt raw hl
    have hci := hq _ hp
    rw [pat_get hl] at hci
    have HX := Lib.hid (And.intro h (And.intro hs hl))
    clear hq h1 h2 h3 h4 h5 h hs hl
    go_enter Try.func24, Try.ntmps24
    go_wp2_with fail
    refine (place_some raw HX.out.1 HX.out.2.2 HX.out.2.1).mono ?_
    rintro e W1 ⟨rfl, rfl⟩
    have hz : ((pidx raw l.length : Nat) : Int) < (l.length : Int) := by omega
    generalize pidx raw l.length = p at *
    go_wp2_with fail
    refine (send_calls (pat raw l) HX.out.1 HX.out.2.1).mono ?_
    intro e W2 hP
    have hD := DoubleP.of_send HX.out.2.2 hP
    obtain ⟨rfl, hD2⟩ := hD
    have HD := Lib.hid hD2
    clear hD2 hP
    generalize hd : decide (0 < l.length ∧ l.length < 200) = d at *
    have HE := Lib.hid hd
    clear hd
    go_wp2
    go_ret
    exact ⟨by rw [HE.out]; rfl, HD.out⟩
  · obtain rfl : l = [] := List.eq_nil_of_length_eq_zero (by omega)
    have HR := Lib.hid h
    clear h
    go_enter Try.func24, Try.ntmps24
    go_wp2_with fail
    refine (place_zero raw HR.out).mono ?_
    rintro e W1 ⟨rfl, rfl⟩
    go_wp2
    go_ret
    exact ⟨rfl, fp, HR.out, Mod.refl _ _, fun y hy => .inl hy⟩
theorem Mod.of_below {W W' : World} (h : Below W.heap.size W W') : Mod W W' [] := ⟨h.os, h.tape, h.output, h.size, fun k hk _ => h.block k hk⟩
def AllP (W : World) (l : List ByteArray) (e : Ending) (W' : World) : Prop := ∃ A n c, e = .returned (.slice A n c) ∧ n = l.length ∧ l.length ≤ c ∧ Kd.C Kd.string W' A l.length l ∧ Mod W W' []
theorem clone_calls {W : World} {A : Option Addr} {c : Nat} {l : List ByteArray} (h : Row Kd.string 9 W (.slice A l.length c) l) (hs : l.length ≤ 1000000000) : Calls Try.prog 44 #[.slice A l.length c] W (AllP W l) := by
  by_cases hl : 0 < l.length
  · obtain ⟨q, rfl, hq⟩ := string_cell h hl
    have hcell : ∀ j, j < l.length → W.cell? ⟨q, 0 + j, none⟩ = some (.string (l.getD j ByteArray.empty)) := by
      intro j hj
      rw [Nat.zero_add, hq j hj, List.getD_eq_getElem?_getD, List.getElem?_eq_getElem hj]; rfl
    refine (slices_Clone_string q 0 l.length c l W (Nat.le_refl _) (by omega) hcell).mono ?_
    rintro e W' ⟨v', rfl, ho, _, hb⟩
    rw [List.take_length] at ho
    have hR : Row Kd.string 9 W' v' l := Row.of (ok := fun _ => True) (Kd.R_of_own ho (fun _ _ => trivial))
    obtain ⟨A1, c1, rfl, h1, h2⟩ := hR.C
    exact ⟨A1, _, c1, rfl, rfl, h1, h2, Mod.of_below hb⟩
  · obtain rfl : l = [] := List.eq_nil_of_length_eq_zero (by omega)
    cases A with
    | none =>
      refine (slices_Clone_string_nil 0 c W).mono ?_
      rintro e W' ⟨rfl, rfl⟩
      exact ⟨none, 0, 0, rfl, rfl, Nat.le_refl _, Kd.C_nil _ _, Mod.refl _ _⟩
    | some a =>
      refine (slices_Clone_string_zero a c W).mono ?_
      rintro e W' ⟨v', rfl, ho, _, hb⟩
      have hR : Row Kd.string 9 W' v' ([] : List ByteArray) := Row.of (ok := fun _ => True) (Kd.R_of_own ho (fun _ _ => trivial))
      obtain ⟨A1, c1, rfl, h1, h2⟩ := hR.C
      exact ⟨A1, 0, c1, rfl, rfl, h1, h2, Mod.of_below hb⟩
theorem all_nil {W : World} : Calls Try.prog 27 #[.pointer none] W fun e W' => e = .returned (.slice none 0 0) ∧ W' = W := by
  go_enter Try.func27, Try.ntmps27
  go_wp2
  go_ret
  exact ⟨rfl, rfl⟩
theorem all_calls {W : World} {g : Nat} {l : List ByteArray} {fp : List Nat} (h : PF 70 W g l fp) (hs : l.length ≤ 1000000000) : Calls Try.prog 27 #[.pointer (some ⟨g, 0, none⟩)] W (AllP W l) := by
  obtain ⟨A, c, h1, h2, h3, h4, h5⟩ := h.cell
  have hc : W.cell? ⟨g, 0, none⟩ = some (.slice A l.length c) := (blk_cell h1 0).trans rfl
  have H2 := Lib.hid (And.intro h2 hs)
  clear h h1 h2 h3 h4 h5 hs
  go_enter Try.func27, Try.ntmps27
  go_wp2_with fail
  refine (clone_calls H2.out.1 H2.out.2).mono ?_
  rintro e W1 ⟨A1, n1, c1, rfl, hA⟩
  have HA := Lib.hid hA
  clear hA
  go_wp2
  go_ret
  exact ⟨A1, n1, c1, rfl, HA.out⟩
/-! the document's -/
theorem rplace_zero {W : World} {g : Nat} {fp : List Nat} (raw : Int) (h : PF 43 W g [] fp) : Calls Try.prog 43 #[.pointer (some ⟨g, 0, none⟩), .int .i64 raw] W fun e W' => e = .returned (.int .i64 (-1)) ∧ W' = W := by
  obtain ⟨A, c, h1, _⟩ := h.cell
  have hc : W.cell? ⟨g, 0, none⟩ = some (.slice A 0 c) := (blk_cell h1 0).trans rfl
  clear h h1
  go_enter Try.func43, Try.ntmps43
  go_wp2
  go_ret
  exact ⟨rfl, rfl⟩
theorem rplace_some {W : World} {g : Nat} {l : List ByteArray} {fp : List Nat} (raw : Int) (h : PF 43 W g l fp) (hl : 0 < l.length) (hs : l.length ≤ 1000000000) : Calls Try.prog 43 #[.pointer (some ⟨g, 0, none⟩), .int .i64 raw] W fun e W' => e = .returned (.int .i64 (pidx raw l.length)) ∧ W' = W := by
  obtain ⟨A, c, h1, _⟩ := h.cell
  have hc : W.cell? ⟨g, 0, none⟩ = some (.slice A l.length c) := (blk_cell h1 0).trans rfl
  have hP := pidx_if raw hl
  have hz : ¬ ((l.length : Int) = 0) := by omega
  have hn : -(l.length : Int) < raw.tmod l.length := by have := Int.lt_tmod_of_pos raw (b := (l.length : Int)) (by omega); omega
  have hp := Int.tmod_lt_of_pos raw (b := (l.length : Int)) (by omega)
  have hw : IntKind.i64.wrap (raw.tmod l.length + l.length) = raw.tmod l.length + l.length := by unfold IntKind.wrap; simp [IntKind.signed, IntKind.bits]; omega
  by_cases hr : raw.tmod l.length < 0
  · rw [if_pos hr] at hP
    have HP := Lib.hid hP
    clear h h1 hP
    go_enter Try.func43, Try.ntmps43
    go_wp2
    go_ret
    exact ⟨by rw [HP.out]; rfl, rfl⟩
  · rw [if_neg hr] at hP
    have HP := Lib.hid hP
    clear h h1 hP
    go_enter Try.func43, Try.ntmps43
    go_wp2
    go_ret
    exact ⟨by rw [HP.out]; rfl, rfl⟩
set_option maxHeartbeats 1000000 in
theorem rdouble_calls {W : World} {g : Nat} {l : List ByteArray} {fp : List Nat} (raw : Int) (h : PF 43 W g l fp) (hs : l.length ≤ 1000000000) : Calls Try.prog 25 #[.pointer (some ⟨g, 0, none⟩), .int .i64 raw] W (DoubleP 43 W g l fp raw) := by
  by_cases hl : 0 < l.length
  · obtain ⟨A, c, h1, h2, h3, h4, h5⟩ := h.cell
    obtain ⟨q, rfl, hq⟩ := string_cell h2 hl
    have hc : W.cell? ⟨g, 0, none⟩ = some (.slice (some ⟨q, 0, none⟩) l.length c) := (blk_cell h1 0).trans rfl
    have hp := pidx_lt raw hl
    have hci := hq _ hp
    rw [pat_get hl] at hci
    have HX := Lib.hid (And.intro h (And.intro hs hl))
    clear hq h1 h2 h3 h4 h5 h hs hl
    go_enter Try.func25, Try.ntmps25
    go_wp2_with fail
    refine (rplace_some raw HX.out.1 HX.out.2.2 HX.out.2.1).mono ?_
    rintro e W1 ⟨rfl, rfl⟩
    have hz : ((pidx raw l.length : Nat) : Int) < (l.length : Int) := by omega
    generalize pidx raw l.length = p at *
    go_wp2_with fail
    refine (rsend_calls (pat raw l) HX.out.1 HX.out.2.1).mono ?_
    intro e W2 hP
    have hD := DoubleP.of_send HX.out.2.2 hP
    obtain ⟨rfl, hD2⟩ := hD
    have HD := Lib.hid hD2
    clear hD2 hP
    generalize hd : decide (0 < l.length ∧ l.length < 200) = d at *
    have HE := Lib.hid hd
    clear hd
    go_wp2
    go_ret
    exact ⟨by rw [HE.out]; rfl, HD.out⟩
  · obtain rfl : l = [] := List.eq_nil_of_length_eq_zero (by omega)
    have HR := Lib.hid h
    clear h
    go_enter Try.func25, Try.ntmps25
    go_wp2_with fail
    refine (rplace_zero raw HR.out).mono ?_
    rintro e W1 ⟨rfl, rfl⟩
    go_wp2
    go_ret
    exact ⟨rfl, fp, HR.out, Mod.refl _ _, fun y hy => .inl hy⟩
set_option maxHeartbeats 1000000 in
theorem rtake_calls {W : World} {g : Nat} {l : List ByteArray} {fp : List Nat} (raw : Int) (h : PF 43 W g l fp) (hs : l.length ≤ 1000000000) : Calls Try.prog 22 #[.pointer (some ⟨g, 0, none⟩), .int .i64 raw] W (TakeP 43 W g l fp raw) := by
  by_cases hl : 0 < l.length
  · obtain ⟨A, c, h1, h2, h3, h4, h5⟩ := h.cell
    have hC : Kd.C Kd.string W A l.length l := by
      obtain ⟨A', c', e, _, hC⟩ := h2.C
      injection e with e1 _ _
      rw [e1]; exact hC
    obtain ⟨q, rfl, hq⟩ := string_cell h2 hl
    have hc : W.cell? ⟨g, 0, none⟩ = some (.slice (some ⟨q, 0, none⟩) l.length c) := (blk_cell h1 0).trans rfl
    have hp := pidx_lt raw hl
    have hci := hq _ hp
    rw [pat_get hl] at hci
    have HX := Lib.hid (And.intro h1 (And.intro h2 (And.intro h3 (And.intro h4 (And.intro h hl)))))
    have HZ := Lib.hid (And.intro hs hp)
    have HL := Lib.hid (And.intro hp (And.intro h5 hC))
    clear hq h1 h2 h3 h4 h hC
    go_enter Try.func22, Try.ntmps22
    go_wp2_with fail
    refine (rplace_some raw HX.out.2.2.2.2.1 HX.out.2.2.2.2.2 HZ.out.1).mono ?_
    rintro e W1 ⟨rfl, rfl⟩
    have HC : Hid (pcut raw l = l.take (pidx raw l.length) ++ l.drop (pidx raw l.length + 1)) := Lib.hid (by unfold pcut; rw [List.eraseIdx_eq_take_drop_succ])
    have hw : IntKind.i64.wrap (((pidx raw l.length : Nat) : Int) + 1) = ((pidx raw l.length + 1 : Nat) : Int) := by have := HZ.out; unfold IntKind.wrap; simp [IntKind.signed, IntKind.bits]; omega
    have hz0 : ¬ (((pidx raw l.length : Nat) : Int) < 0) := by omega
    have hz : ((pidx raw l.length : Nat) : Int) < (l.length : Int) := by omega
    have hz' : ((pidx raw l.length : Nat) : Int) ≤ (l.length : Int) := by omega
    have hzc : ((pidx raw l.length : Nat) : Int) ≤ (c : Int) := by omega
    have hz1 : ((pidx raw l.length + 1 : Nat) : Int) ≤ (l.length : Int) := by omega
    have hz1c : ((pidx raw l.length + 1 : Nat) : Int) ≤ (c : Int) := by omega
    generalize hpi : pidx raw l.length = p at *
    have HP := Lib.hid hpi
    clear hpi
    go_wp2_with (first | (at_builtin; refine Kd.R_append_rows Kd.string (w0 := W1) 0 rfl _ _ 33 9 (.string ByteArray.empty) 16 rfl Try.underlying33 info9 rfl (by decide) (by decide) (.slice none 0 0) [] (l.take p) (some ⟨q, 0, none⟩) p c (fun k => W1.heap.size ≤ k) (fun _ => False) rfl rfl (Kd.R_nil _ _ _ _ _) ?b0 (fun x cs h => h) (fun k h => h.elim) (fun k h => h) ?b1 (Nat.zero_le _) ?b2 ?_) | fail)
    case b0 =>
      have e := Kd.C_take HL.out.2.2 (Nat.le_of_lt HL.out.1)
      have hl : (l.take p).length = p := by rw [List.length_take]; have := HL.out.1; omega
      rw [hl] at e
      exact e
    case b1 => exact Below.refl _ _
    case b2 => have := HL.out.1; have := HZ.out; simp; omega
    intro v3 W3 o3 _ g3 _
    have m3 : Mod W1 W3 [] := mod_own g3
    have H3 := Lib.hid (And.intro o3 m3)
    clear o3 g3 m3
    have hc3 : W3.cell? ⟨g, 0, none⟩ = some (.slice (some ⟨q, 0, none⟩) l.length c) := (blk_cell (H3.out.2.at_ HX.out.1 (by simp)) 0).trans rfl
    by_cases hcp : c = p + 1
    · have e : Kd.C Kd.string W3 (some ⟨q, 0, none⟩) (l.length - (p + 1)) (l.drop (p + 1)) := by
        have e := Kd.C_drop (Kd.C_below HL.out.2.2 H3.out.2.bel) (show p + 1 ≤ l.length from HL.out.1) HL.out.2.1
        rw [List.length_drop, if_pos hcp] at e
        simpa [Addr.add, Kd.string, Kd.scalar] using e
      have HD := Lib.hid e
      clear e
      go_wp2_with (first | (at_builtin; go_loud (refine Kd.R_append_rows Kd.string (w0 := W3) (W := W3) 0 rfl _ _ 33 9 (.string ByteArray.empty) 16 rfl Try.underlying33 info9 rfl (by decide) (by decide) v3 ([] ++ l.take p) (l.drop (p + 1)) (some ⟨q, 0, none⟩) _ _ (fun k => W1.heap.size ≤ k) (fun _ => False) rfl rfl H3.out.1 ?b0 (fun x cs h => h) (fun k h => h.elim) ?b3 ?b1 (Nat.zero_le _) ?b2 ?_)) | fail)
      case b0 => exact HD.out
      case b1 => exact Below.refl _ _
      case b2 => have := HL.out.1; have := HZ.out; simp; omega
      case b3 => exact fun k h => Nat.le_trans H3.out.2.size h
      intro v4 W4 o4 _ g4 _
      obtain ⟨A4, n4, c4, rfl⟩ := Row.form (Row.of o4)
      rw [← HC.out] at o4
      have ok3 : ∀ y ∈ ownList v3, W1.heap.size ≤ y := fun y hy => H3.out.1.1 y (own_mem _ y hy)
      have m4 : Mod W1 W4 [] := H3.out.2.trans (mod_own g4) (fun y hy => .inr (ok3 y hy))
      have H4 := Lib.hid (And.intro o4 m4)
      have hf4 : W4.frozen? ⟨g, 0, none⟩ = false := blk_frozen (m4.at_ HX.out.1 (by simp)) 0
      have hc4 : W4.cell? ⟨g, 0, none⟩ = some (.slice (some ⟨q, 0, none⟩) l.length c) := (blk_cell (m4.at_ HX.out.1 (by simp)) 0).trans rfl
      clear o4 g4 m4 ok3
      go_wp2
      go_ret2
      obtain ⟨b1, b2, b3⟩ := BoxF.put plain_string HX.out.1 HX.out.2.2.1 (Row.of H4.out.1) (H4.out.2.mono (by simp)) (fun y hy => .inr (H4.out.1.1 y (own_mem _ y hy)))
      obtain rfl := HX.out.2.2.2.1
      exact ⟨by rw [decide_eq_true HX.out.2.2.2.2.2]; rfl, _, b1, b2, b3⟩
    · have e : Kd.C Kd.string W3 (some ⟨q, p + 1, none⟩) (l.length - (p + 1)) (l.drop (p + 1)) := by
        have e := Kd.C_drop (Kd.C_below HL.out.2.2 H3.out.2.bel) (show p + 1 ≤ l.length from HL.out.1) HL.out.2.1
        rw [List.length_drop, if_neg hcp] at e
        simpa [Addr.add, Kd.string, Kd.scalar] using e
      have HD := Lib.hid e
      clear e
      go_wp2_with (first | (at_builtin; go_loud (refine Kd.R_append_rows Kd.string (w0 := W3) (W := W3) 0 rfl _ _ 33 9 (.string ByteArray.empty) 16 rfl Try.underlying33 info9 rfl (by decide) (by decide) v3 ([] ++ l.take p) (l.drop (p + 1)) (some ⟨q, p + 1, none⟩) _ _ (fun k => W1.heap.size ≤ k) (fun _ => False) rfl rfl H3.out.1 ?b0 (fun x cs h => h) (fun k h => h.elim) ?b3 ?b1 (Nat.zero_le _) ?b2 ?_)) | fail)
      case b0 => exact HD.out
      case b1 => exact Below.refl _ _
      case b2 => have := HL.out.1; have := HZ.out; simp; omega
      case b3 => exact fun k h => Nat.le_trans H3.out.2.size h
      intro v4 W4 o4 _ g4 _
      obtain ⟨A4, n4, c4, rfl⟩ := Row.form (Row.of o4)
      rw [← HC.out] at o4
      have ok3 : ∀ y ∈ ownList v3, W1.heap.size ≤ y := fun y hy => H3.out.1.1 y (own_mem _ y hy)
      have m4 : Mod W1 W4 [] := H3.out.2.trans (mod_own g4) (fun y hy => .inr (ok3 y hy))
      have H4 := Lib.hid (And.intro o4 m4)
      have hf4 : W4.frozen? ⟨g, 0, none⟩ = false := blk_frozen (m4.at_ HX.out.1 (by simp)) 0
      have hc4 : W4.cell? ⟨g, 0, none⟩ = some (.slice (some ⟨q, 0, none⟩) l.length c) := (blk_cell (m4.at_ HX.out.1 (by simp)) 0).trans rfl
      clear o4 g4 m4 ok3
      go_wp2
      go_ret2
      obtain ⟨b1, b2, b3⟩ := BoxF.put plain_string HX.out.1 HX.out.2.2.1 (Row.of H4.out.1) (H4.out.2.mono (by simp)) (fun y hy => .inr (H4.out.1.1 y (own_mem _ y hy)))
      obtain rfl := HX.out.2.2.2.1
      exact ⟨by rw [decide_eq_true HX.out.2.2.2.2.2]; rfl, _, b1, b2, b3⟩
  · obtain rfl : l = [] := List.eq_nil_of_length_eq_zero (by omega)
    have HR := Lib.hid h
    clear h
    go_enter Try.func22, Try.ntmps22
    go_wp2_with fail
    refine (rplace_zero raw HR.out).mono ?_
    rintro e W1 ⟨rfl, rfl⟩
    go_wp2
    go_ret2
    exact ⟨rfl, fp, HR.out, Mod.refl _ _, fun y hy => .inl hy⟩
end Go.Proofs.Ytgkpljlcdopalaa.Post
