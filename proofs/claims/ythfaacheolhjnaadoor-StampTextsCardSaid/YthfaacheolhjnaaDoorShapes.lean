/- How the arguments of a law read: whole numbers, bools, texts, structs of these, slices of these (and slices in structs), each opened once for every type; a seat's own text, no law of its own. -/
import Derived.Test.YthfaacheolhjnaaDoorWWords
import Derived.OpenShut
import Derived.ShutString
import Derived.SizedLaws
import Derived.Deep.Slices
import Derived.ProofKit
import Derived.WalkKit
import Derived.ChangeOld
import Derived.Below
namespace Go.Proofs.YthfaacheolhjnaaDoor.Shapes
open Go.ChangeShapes Go.WideShapes Go.ChangeAt Go.RowKit Go.Deep Go.Proofs.YthfaacheolhjnaaDoorW.PrintWords
set_option linter.unusedVariables false

/-- A type's cells read as a value of kind d, which is ok; no text or slice in it takes more than B bytes. -/
def Opens {α : Type} (P : Program) (B : Nat) (t : TypeId) (d : Kd α) (ok : α → Prop) : Prop :=
  P.cellsOf t = d.sz ∧ ∀ {H : Type} (enc : TypeId × Value → H) (w : World) (base : Nat) (spare : Nat → Bool) (held : Bool) (fuel : Nat) (cs : List Value) (x : DataW H × List MemPlace),
    DataW.trod enc P w base spare held fuel t cs = some x → (∀ n ∈ x.1.weights P t, n ≤ B) → ∃ a, d.K w a cs ∧ ok a

/-- Two things in line, each ok. -/
def okPair {α β : Type} (p : α → Prop) (q : β → Prop) (x : α × β) : Prop := p x.1 ∧ q x.2
def okAny {α : Type} (_ : α) : Prop := True
def okText (B : Nat) (s : ByteArray) : Prop := s.size ≤ B
def okRow {α : Type} (n B : Nat) (p : α → Prop) (xs : List α) : Prop := xs.length * n ≤ B ∧ ∀ a ∈ xs, p a
def inU64 (n : Int) : Prop := 0 ≤ n ∧ n ≤ 18446744073709551615
def inU32 (n : Int) : Prop := 0 ≤ n ∧ n ≤ 4294967295
def inU16 (n : Int) : Prop := 0 ≤ n ∧ n ≤ 65535
def inU8 (n : Int) : Prop := 0 ≤ n ∧ n ≤ 255
def inI64 (n : Int) : Prop := -9223372036854775808 ≤ n ∧ n ≤ 9223372036854775807
structure OpensF {α : Type} (P : Program) (B : Nat) (fs : List Field) (off : Nat) (d : Kd α) (ok : α → Prop) : Prop where
  out : ∀ {H : Type} (enc : TypeId × Value → H) (w : World) (base : Nat) (spare : Nat → Bool) (held : Bool) (fuel : Nat) (cs : List Value) (xs : List (DataW H × List MemPlace)),
    cs.length = off + d.sz → xs.length = fs.length → (∀ (i : Nat) (f : Field), fs[i]? = some f → DataW.trod enc P w base spare held fuel f.type ((cs.drop f.offset).take (P.cellsOf f.type)) = xs[i]?) →
    (∀ n ∈ DataW.weightsEach P (fs.map (·.type)) (xs.map (·.1)), n ≤ B) → ∃ a, d.K w a (cs.drop off) ∧ ok a

section
variable {P : Program} {B : Nat} {t : TypeId}

theorem opens_int {k : IntKind} (ht : P.underlying t = some (.int k)) (hc : P.cellsOf t = 1) : Opens P B t (Kd.int k) (fun n => (Lit.int k n).wf = true) := by
  refine ⟨hc, fun enc w base spare held fuel cs x h _ => ?_⟩
  obtain ⟨n, rfl, rfl, hw⟩ := DataW.trod_int ht h
  exact ⟨n, rfl, hw⟩
theorem opens_bool (ht : P.underlying t = some .bool) (hc : P.cellsOf t = 1) : Opens P B t Kd.bool okAny := by
  refine ⟨hc, fun enc w base spare held fuel cs x h _ => ?_⟩
  obtain ⟨b, rfl, rfl⟩ := DataW.trod_bool ht h
  exact ⟨b, rfl, trivial⟩
theorem opens_string (ht : P.underlying t = some .string) (hc : P.cellsOf t = 1) : Opens P B t Kd.string (okText B) := by
  refine ⟨hc, fun enc w base spare held fuel cs x h hw => ?_⟩
  obtain ⟨s, rfl, rfl, _⟩ := DataW.trod_string ht h
  exact ⟨s, rfl, by have := hw s.data.toList.length (by simp [DataW.weights]); simpa [okText] using this⟩

theorem opensF_one {α : Type} {f : Field} {off : Nat} {d : Kd α} {ok : α → Prop} (ho : f.offset = off) (h : Opens P B f.type d ok) : OpensF P B [f] off d ok := by
  constructor
  intro H enc w base spare held fuel cs xs hl hx hf hw
  match xs, hx with
  | [x], _ =>
    have h0 := hf 0 f rfl
    rw [ho, h.1, List.take_of_length_le (by simp; omega)] at h0
    refine h.2 enc w base spare held fuel _ x (by simpa using h0) (fun n hn => hw n ?_)
    simp [DataW.weightsEach, hn]
theorem opensF_cons {α β : Type} {f : Field} {fs : List Field} {off : Nat} {d : Kd α} {ok : α → Prop} {d' : Kd β} {ok' : β → Prop} (ho : f.offset = off) (h : Opens P B f.type d ok) (hs : OpensF P B fs (off + d.sz) d' ok') :
    OpensF P B (f :: fs) off (Kd.pair d d') (okPair ok ok') := by
  constructor
  intro H enc w base spare held fuel cs xs hl hx hf hw
  have hl' : cs.length = off + (d.sz + d'.sz) := hl
  match xs, hx with
  | x :: xs, hx =>
    have h0 := hf 0 f rfl
    rw [ho, h.1] at h0
    obtain ⟨a, ka, oa⟩ := h.2 enc w base spare held fuel _ x (by simpa using h0) (fun n hn => hw n (by simp [DataW.weightsEach, hn]))
    obtain ⟨b, kb, ob⟩ := hs.out enc w base spare held fuel cs xs (by omega) (by simpa using hx) (fun i g hg => by simpa using hf (i + 1) g (by simpa using hg)) (fun n hn => hw n (by simp [DataW.weightsEach, hn]))
    refine ⟨(a, b), ⟨(cs.drop off).take d.sz, cs.drop (off + d.sz), ?_, ka, kb⟩, oa, ob⟩
    rw [← List.drop_drop, List.take_append_drop]
theorem opens_struct {α : Type} {fs : Array Field} {d : Kd α} {ok : α → Prop} (ht : P.underlying t = some (.struct fs)) (hc : P.cellsOf t = d.sz) (h : OpensF P B fs.toList 0 d ok) : Opens P B t d ok := by
  refine ⟨hc, fun enc w base spare held fuel cs x hx hw => ?_⟩
  obtain ⟨xs, n, _, rfl, hl, hlen, hf⟩ := DataW.trod_struct ht hx
  obtain ⟨a, ka, oa⟩ := h.out enc w base spare held n cs xs (by omega) (by simpa using hlen) (fun i f hi => hf i f (by simpa using hi)) (fun n hn => hw n (by simpa [DataW.weights, ht] using hn))
  exact ⟨a, by simpa using ka, oa⟩
theorem opens_iso {α β : Type} {d : Kd α} {ok : α → Prop} {ok' : β → Prop} (f : β → α) (g : α → β) (hfg : ∀ x, f (g x) = x) (h : Opens P B t d ok) (hok : ∀ x, ok x → ok' (g x)) : Opens P B t (Kd.iso d f) ok' := by
  refine ⟨h.1, fun enc w base spare held fuel cs x hx hw => ?_⟩
  obtain ⟨a, ka, oa⟩ := h.2 enc w base spare held fuel cs x hx hw
  exact ⟨g a, by show d.K w (f (g a)) cs; rw [hfg]; exact ka, hok a oa⟩
theorem weightsAll_mem {H : Type} {e : TypeId} {l : List (DataW H)} {d : DataW H} (h : d ∈ l) {n : Nat} (hn : n ∈ d.weights P e) : n ∈ DataW.weightsAll P e l := by
  induction l with
  | nil => cases h
  | cons x l ih =>
    simp only [DataW.weightsAll, List.mem_append]
    rcases List.mem_cons.1 h with rfl | h
    · exact .inl hn
    · exact .inr (ih h)
theorem choose_list {α : Type} (Q : Nat → α → Prop) : ∀ n, (∀ i, i < n → ∃ a, Q i a) → ∃ l : List α, l.length = n ∧ ∀ i a, l[i]? = some a → Q i a
  | 0, _ => ⟨[], rfl, by simp⟩
  | n + 1, h => by
    obtain ⟨l, hl, hq⟩ := choose_list Q n (fun i hi => h i (by omega))
    obtain ⟨a, ha⟩ := h n (by omega)
    refine ⟨l ++ [a], by simp [hl], fun i b hb => ?_⟩
    rcases Nat.lt_trichotomy i n with hi | rfl | hi
    · rw [List.getElem?_append_left (by omega)] at hb
      exact hq i b hb
    · rw [← hl, List.getElem?_append_right (Nat.le_refl _)] at hb
      simp at hb
      subst hb
      exact hl ▸ ha
    · rw [List.getElem?_eq_none (by simp; omega)] at hb
      cases hb
theorem add_add_ (a : Addr) (i j : Nat) : (a.add i).add j = a.add (i + j) := Go.Deep.add_add a i j
/-- A slice: the elements up to its length; what is kept of a row's size: B bytes at most. -/
theorem slice_reads {α : Type} {e : TypeId} {d : Kd α} {ok : α → Prop} (ht : P.underlying t = some (.slice e)) (he : Opens P B e d ok) {H : Type} {enc : TypeId × Value → H} {w : World} {base : Nat} {spare : Nat → Bool} {held : Bool} {fuel : Nat} {cs : List Value} {x : DataW H × List MemPlace}
    (h : DataW.trod enc P w base spare held fuel t cs = some x) (hw : ∀ n ∈ x.1.weights P t, n ≤ B) :
    ∃ A xs c, cs = [.slice A xs.length c] ∧ xs.length ≤ c ∧ d.C w A xs.length xs ∧ xs.length * P.bytesOf e ≤ B ∧ ∀ a ∈ xs, ok a := by
  rcases DataW.trod_slice ht h with ⟨rfl, rfl⟩ | ⟨a, len, cap, elems, rest, n, _, rfl, rfl, hb, hl, hm, hlen, hel, hsp, hns⟩
  · exact ⟨none, [], 0, rfl, by simp, ⟨rfl, by simp, by simp⟩, by simp, by simp⟩
  · simp only [DataW.weights, ht, List.mem_cons, List.mem_append] at hw
    have key : ∀ i, i < len → ∃ v, ok v ∧ ∃ c, c.length = d.sz ∧ d.K w v c ∧ ∀ j u, c[j]? = some u → w.cell? (a.add (i * d.sz + j)) = some u := by
      intro i hi
      have h1 := hel i hi
      have h2 : elems[i]? = some (elems[i]'(by omega)) := List.getElem?_eq_getElem (by omega)
      rw [h2, he.1] at h1
      obtain ⟨c, hc, ht'⟩ := Option.bind_eq_some_iff.1 h1
      obtain ⟨v, kv, ov⟩ := he.2 enc w base spare held n c _ ht' (fun m hm' => hw m (.inr (.inl (weightsAll_mem (List.mem_map.2 ⟨_, List.getElem_mem _, rfl⟩) hm'))))
      obtain ⟨_, hcl, hat⟩ := World.cells?_some hc
      refine ⟨v, ov, c, hcl, kv, fun j u hu => ?_⟩
      have hj : j < c.length := (List.getElem?_eq_some_iff.1 hu).1
      have := hat j (by omega)
      rw [add_add_, hu] at this
      exact this
    obtain ⟨xs, hxl, hxs⟩ := choose_list _ len key
    refine ⟨some a, xs, cap, by rw [hxl], by omega, ⟨rfl, ?_, fun _ => ⟨a, rfl, fun j p hj => (hxs j p hj).2⟩⟩, ?_, fun v hv => ?_⟩
    · have : maxLen = 9223372036854775807 := rfl
      omega
    · have := hw _ (.inl rfl)
      refine Nat.le_trans (Nat.mul_le_mul_right _ ?_) this
      simp
      omega
    · obtain ⟨i, hi⟩ := List.getElem?_of_mem hv
      exact (hxs i v hi).1
theorem opens_slice {α : Type} {e : TypeId} {d : Kd α} {ok : α → Prop} (ht : P.underlying t = some (.slice e)) (hc : P.cellsOf t = 1) (he : Opens P B e d ok) : Opens P B t (Kd.slice e d) (okRow (P.bytesOf e) B ok) := by
  refine ⟨hc, fun enc w base spare held fuel cs x h hw => ?_⟩
  obtain ⟨A, xs, c, rfl, hl, hC, h1, h2⟩ := slice_reads ht he h hw
  exact ⟨xs, ⟨A, c, rfl, hl, hC⟩, h1, h2⟩

/-! what a row hands over -/
theorem weights_part {H : Type} {ts : List TypeId} {ds : List (DataW H)} {j : Nat} {d : DataW H} (h : (DataW.weightsEach P ts ds).all (· ≤ reachBytes) = true) (ht : ts[j]? = some t) (hd : ds[j]? = some d) : ∀ n ∈ d.weights P t, n ≤ 140737488351232 := by
  intro n hn
  have := List.all_eq_true.1 h n (DataW.weights_mem_each ht hd n hn)
  have e : reachBytes = 140737488351232 := rfl
  rw [e] at this
  simpa using this
theorem arg_opens {α : Type} {d : Kd α} {ok : α → Prop} (ho : Opens P B t d ok) {H : Type} {enc : TypeId × Value → H} {w : World} {base : Nat} {spare : Nat → Bool} {held : Bool} {v : Value} {dd : DataW H} {ps : List MemPlace}
    (h : DataW.Trod enc P w base spare held t v dd ps) (hw : ∀ n ∈ dd.weights P t, n ≤ B) : ∃ a, d.K w a v.cells.toList ∧ ok a := by
  obtain ⟨fuel, hf⟩ := h
  exact ho.2 enc w base spare held fuel _ _ hf hw
end

/-! the whole numbers' bounds -/
theorem opens_mono {α : Type} {P : Program} {B : Nat} {t : TypeId} {d : Kd α} {ok ok' : α → Prop} (h : Opens P B t d ok) (hk : ∀ x, ok x → ok' x) : Opens P B t d ok' :=
  ⟨h.1, fun enc w base spare held fuel cs x hx hw => by
    obtain ⟨a, k, o⟩ := h.2 enc w base spare held fuel cs x hx hw
    exact ⟨a, k, hk a o⟩⟩
theorem opens_u64 {P : Program} {B : Nat} {t : TypeId} (ht : P.underlying t = some (.int .u64)) (hc : P.cellsOf t = 1) : Opens P B t (Kd.int .u64) inU64 :=
  opens_mono (opens_int ht hc) (fun n h => by simpa [inU64, inU32, inU16, inU8, inI64, Lit.wf, IntKind.min, IntKind.max, IntKind.signed, IntKind.bits] using h)
theorem opens_u32 {P : Program} {B : Nat} {t : TypeId} (ht : P.underlying t = some (.int .u32)) (hc : P.cellsOf t = 1) : Opens P B t (Kd.int .u32) inU32 :=
  opens_mono (opens_int ht hc) (fun n h => by simpa [inU64, inU32, inU16, inU8, inI64, Lit.wf, IntKind.min, IntKind.max, IntKind.signed, IntKind.bits] using h)
theorem opens_u16 {P : Program} {B : Nat} {t : TypeId} (ht : P.underlying t = some (.int .u16)) (hc : P.cellsOf t = 1) : Opens P B t (Kd.int .u16) inU16 :=
  opens_mono (opens_int ht hc) (fun n h => by simpa [inU64, inU32, inU16, inU8, inI64, Lit.wf, IntKind.min, IntKind.max, IntKind.signed, IntKind.bits] using h)
theorem opens_u8 {P : Program} {B : Nat} {t : TypeId} (ht : P.underlying t = some (.int .u8)) (hc : P.cellsOf t = 1) : Opens P B t (Kd.int .u8) inU8 :=
  opens_mono (opens_int ht hc) (fun n h => by simpa [inU64, inU32, inU16, inU8, inI64, Lit.wf, IntKind.min, IntKind.max, IntKind.signed, IntKind.bits] using h)
theorem opens_i64 {P : Program} {B : Nat} {t : TypeId} (ht : P.underlying t = some (.int .i64)) (hc : P.cellsOf t = 1) : Opens P B t (Kd.int .i64) inI64 :=
  opens_mono (opens_int ht hc) (fun n h => by simpa [inU64, inU32, inU16, inU8, inI64, Lit.wf, IntKind.min, IntKind.max, IntKind.signed, IntKind.bits] using h)
/-- One cell by value. -/
theorem one_cell {v : Value} {u : Value} (h : v.cells.toList = [u]) (hv : ∀ cs, v ≠ .agg cs) (ht : ∀ cs, v ≠ .tuple cs) : v = u := by
  cases v <;> simp_all [Value.cells]
theorem agg_cells {cs : Array Value} {l : List Value} (h : (Value.agg cs).cells.toList = l) : cs = l.toArray := by
  have : cs.toList = l := h
  rw [← this]
theorem opens_slices {P : Program} {B : Nat} {t e : TypeId} {α : Type} {d : Kd α} {ok : α → Prop} (ht : P.underlying t = some (.slice e)) (hc : P.cellsOf t = 1) (he : Opens P B e d ok) : Opens P B t (Kd.slice e d) (okRow (P.bytesOf e) B ok) := opens_slice ht hc he
end Go.Proofs.YthfaacheolhjnaaDoor.Shapes
