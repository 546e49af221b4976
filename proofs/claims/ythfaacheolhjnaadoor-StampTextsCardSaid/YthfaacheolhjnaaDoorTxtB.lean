/- The texts of stamps: TxtB; a seat's own text, no law of its own. -/
import Derived.Test.YthfaacheolhjnaaDoorTxtA
import Derived.Shelf.Strconv.Itoa1
import Derived.Shelf.Strconv.Itoa2
import Derived.Shelf.Pu.ErrVarParseUint
import Derived.Shelf.Strings.Search2
import Derived.Ground.MpProg
import Derived.Ground.NamesProg
import Derived.Lib.AppendIntMem
import Derived.Lib.ItoaMem
import Derived.Lib.ItoaLen
import Derived.Lib.ItoaWalk
import Derived.Lib.ParseIntB
import Derived.Lib.SmallJoins
import Derived.Lib.LaidTab
import Derived.Deep.LoopGhost
import Derived.Deep.Cut
import Derived.Deep.CutRange
import Derived.Deep.CutBlock
import Derived.Lib.Hide
import Derived.StillTailTactics
import Derived.Deep.QuietTactic
import Derived.BigQuiet
import Derived.Outline
import Derived.Deep.RegionWith
import Derived.Deep.RegionHeld3
import Derived.WalkLawsBesides
namespace Go.Proofs.YthfaacheolhjnaaDoor.Txt
open Go.Shelf Go.RowKit Go.Proofs.YthfaacheolhjnaaDoorW.PrintWords Go.Joins Go.Proofs.YthfaacheolhjnaaDoor.MStampOrders Go.Proofs.YthfaacheolhjnaaDoorW.PrintLast Go.Lib Go.Sort
set_option linter.unusedVariables false
set_option linter.unusedSimpArgs false
/-! Read: the program's and the document's -/
def TI (w : World) (g : Nat) (x y : Int) : Prop := w.heap[g]? = some (.cells #[.int .u64 x, .int .u32 y] 25 (0, 0))
theorem TI.all {w : World} {g : Nat} {x y : Int} (h : TI w g x y) : w.cell? ⟨g, 0, none⟩ = some (.int .u64 x) ∧ w.cell? ⟨g, 1, none⟩ = some (.int .u32 y) := ⟨(blk_cell h 0).trans rfl, (blk_cell h 1).trans rfl⟩
theorem TI.below {w w' : World} {g : Nat} {x y : Int} (h : TI w g x y) (hb : Below w.heap.size w w') : TI w' g x y := (hb.block g (blk_lt h)).trans h
theorem TI.new (w : World) (x y : Int) : TI (w.alloc (.cells #[.int .u64 x, .int .u32 y] 25)) w.heap.size x y := blk_new w _
theorem TI.put {w : World} {g : Nat} {x y : Int} (h : TI w g x y) (a b : Int) : TI ((w.setCell ⟨g, 0, none⟩ (.int .u64 a)).setCell ⟨g, 1, none⟩ (.int .u32 b)) g a b := by
  unfold TI at h ⊢
  refine blk_put (cs := #[.int .u64 a, .int .u32 y]) ?_ 1 _ rfl
  refine blk_put (cs := #[.int .u64 x, .int .u32 y]) ?_ 0 _ rfl
  exact h
theorem below_put {w w' : World} (h : Below w.heap.size w w') {g : Nat} (hg : w.heap.size ≤ g) (a b : Value) : Below w.heap.size w ((w'.setCell ⟨g, 0, none⟩ a).setCell ⟨g, 1, none⟩ b) := (h.setCell hg _).setCell hg _
theorem below_q {w w1 w2 : World} {q : Nat} (hq : w.heap.size = q) (h1 : Below q w w1) (h2 : Below w1.heap.size w1 w2) : Below q w w2 := by subst hq; exact below_tr h1 h2
theorem below_putq {w w' : World} {q : Nat} (hq : w.heap.size = q) (h : Below q w w') (a b : Value) : Below q w ((w'.setCell ⟨q, 0, none⟩ a).setCell ⟨q, 1, none⟩ b) := by subst hq; exact below_put h (Nat.le_refl _) a b
def rdEnd (r : (Nat × Nat) × Bool) : Ending := .returned (.tuple #[.agg #[.int .u64 (r.1.1 : Int), .int .u32 (r.1.2 : Int)], .int .i64 (if r.2 = true then 0 else 2)])
def rightN (a b : Nat) : Bool := decide (a ≤ 281474976710656) && decide (b ≤ 4095)
theorem sright_calls (a b : Nat) (w : World) : Calls Tryd.prog 8 #[.agg #[.int .u64 (a : Int), .int .u32 (b : Int)]] w fun e w' => e = .returned (.bool (rightN a b)) ∧ Below w.heap.size w w' :=
  stamp_Right.calls a b _ w (by
    unfold stamp_Right.f rightN
    by_cases h : a ≤ 281474976710656
    · rw [if_pos (by omega), decide_eq_true h, Bool.true_and]
      congr 1
      exact decide_eq_decide.2 (by omega)
    · rw [if_neg (by omega), decide_eq_false h, Bool.false_and])
theorem eq_bytes (a b : ByteArray) : (a.toList == b.toList) = decide (a.data.toList = b.data.toList) := by
  rw [ByteArray.toList_eq, ByteArray.toList_eq]
  by_cases h : a.data.toList = b.data.toList
  · rw [decide_eq_true h]; simpa using h
  · rw [decide_eq_false h]; simpa using h
theorem split_len {s : By} : ((splitDot s).getD (s, [])).1.length ≤ s.length ∧ ((splitDot s).getD (s, [])).2.length ≤ s.length := by
  cases h : splitDot s with
  | none => simp
  | some x =>
    have e := (split_some h).1
    simp only [Option.getD_some]
    have h2 : s.length = x.1.length + (x.2.length + 1) := by rw [e]; simp
    omega
set_option maxHeartbeats 8000000 in
set_option maxRecDepth 10000 in
theorem sread_calls (s : ByteArray) (hs : s.size ≤ 140737488351232) (w : World) (hv : Vars w) {r : (Nat × Nat) × Bool} (hr : goRead s.data.toList = r) :
    Calls Tryd.prog 18 #[.string s] w fun e w' => e = rdEnd r ∧ Below w.heap.size w w' := by
  have hb := below_al (Below.refl w.heap.size w) (.cells #[.int .u64 0, .int .u32 0] 25)
  have H1 := Lib.hid (And.intro (TI.new w 0 0) (And.intro hb (hv.below hb)))
  have hsl := split_len (s := s.data.toList)
  have HCut := Lib.hid (cutP_calls s (by omega))
  unfold goRead at hr
  simp only at hr
  obtain ⟨A, hA⟩ : ∃ A, ((splitDot s.data.toList).getD (s.data.toList, [])).1 = A := ⟨_, rfl⟩
  obtain ⟨B, hB⟩ : ∃ B, ((splitDot s.data.toList).getD (s.data.toList, [])).2 = B := ⟨_, rfl⟩
  rw [hA, hB] at hr hsl HCut
  rw [← Lib.size_eq s] at hsl
  have hA1 : (bB A).size ≤ 281474976710656 := by rw [bB_size]; omega
  have hB1 : (bB B).size ≤ 281474976710656 := by rw [bB_size]; omega
  have p64 := fun W h => pu64 (bB A) hA1 W h
  have p32 := fun W h => pu32 (bB B) hB1 W h
  rw [bB_list] at p64 p32
  have ha := puV_lt 64 A
  have hbb := puV_lt 32 B
  generalize puV 64 A = a at *
  generalize puV 32 B = b at *
  have ha2 : a < 18446744073709551616 := by omega
  have hb2 : b < 4294967296 := by omega
  have P := Lib.hid (And.intro p64 p32)
  have HR : Hid ((if (rightN a b && ((txB a b).toList == s.toList)) = true then ((a, b), true) else ((0, 0), false)) = r) := Lib.hid (by
    rw [← hr, eq_bytes, txB_list]
    unfold rightN
    by_cases h1 : (a ≤ 281474976710656 ∧ b ≤ 4095) ∧ txt a b = s.data.toList
    · rw [if_pos h1, decide_eq_true h1.1.1, decide_eq_true h1.1.2, decide_eq_true h1.2]; rfl
    · rw [if_neg h1, if_neg]
      intro h
      simp only [Bool.and_eq_true, decide_eq_true_eq] at h
      exact h1 h)
  have hw : IntKind.u32.wrap (b : Int) = (b : Int) := by unfold IntKind.wrap; simp [IntKind.signed, IntKind.bits]; omega
  clear hb hv hA hB hr p64 p32 ha hbb hsl hA1 hB1
  generalize bB A = SA at *
  generalize bB B = SB at *
  go_enter Tryd.func18, Tryd.ntmps18
  go_upto_region 1 with fail
  generalize w.alloc _ = W1 at *
  generalize hq : w.heap.size = q at *
  have HQ := Lib.hid hq
  clear hq
  go_wp2_with fail
  refine (HCut.out _).mono ?_
  rintro e W2 ⟨⟨bo, rfl⟩, b2⟩
  have H2 := Lib.hid (And.intro (TI.below H1.out.1 b2) (And.intro (show Below q w W2 from below_q HQ.out H1.out.2.1 b2) (Vars.below H1.out.2.2 b2)))
  clear b2 H1
  go_wp2_with fail
  refine (P.out.1 _ H2.out.2.2).mono ?_
  rintro e W3 ⟨⟨ev, rfl⟩, b3⟩
  have H3 := Lib.hid (And.intro (TI.below H2.out.1 b3) (And.intro (show Below q w W3 from below_q HQ.out H2.out.2.1 b3) (Vars.below H2.out.2.2 b3)))
  clear b3 H2
  go_wp2_with fail
  refine (P.out.2 _ H3.out.2.2).mono ?_
  rintro e W4 ⟨⟨ev2, rfl⟩, b4⟩
  have b5 := below_tr b4 (below_al (Below.refl W4.heap.size W4) (.cells #[.int .u64 (a : Int), .int .u32 (b : Int)] 25))
  have H5 := Lib.hid (And.intro (TI.below H3.out.1 b5) (And.intro (show Below q w (W4.alloc (.cells #[.int .u64 (a : Int), .int .u32 (b : Int)] 25)) from below_q HQ.out H3.out.2.1 b5) (And.intro (Vars.below H3.out.2.2 b5) (TI.new W4 (a : Int) (b : Int)))))
  clear b4 b5 H3
  go_upto_region 5 with fail
  generalize W4.alloc _ = W5 at *
  generalize W4.heap.size = q5 at *
  obtain ⟨c0, c1⟩ := H5.out.2.2.2.all
  go_wp2_with fail
  refine (sright_calls a b _).mono ?_
  rintro e W6 ⟨rfl, b6⟩
  have H6 := Lib.hid (And.intro (TI.below H5.out.1 b6) (And.intro (show Below q w W6 from below_q HQ.out H5.out.2.1 b6) (And.intro (Vars.below H5.out.2.2.1 b6) (TI.below H5.out.2.2.2 b6))))
  clear b6 H5 c0 c1
  obtain ⟨rr, hrr⟩ : ∃ rr, rightN a b = rr := ⟨_, rfl⟩
  rw [hrr] at HR ⊢
  clear hrr
  cases rr
  · have HN : Hid (((0, 0), false) = r) := Lib.hid (by have h := HR.out; rw [Bool.false_and, if_neg (by simp)] at h; exact h)
    obtain ⟨z0, z1⟩ := H6.out.1.all
    have fz := blk_frozen H6.out.1
    go_wp2
    have hp := H6.out.1.put 0 0
    unfold TI at hp
    refine bodyPost_ret (results_ct rfl _ _ q 25 _ (0, 0) _ rfl hp Tryd.underlying25 rfl (by kernel_rfl)) rfl ?_
    rw [← HN.out]
    exact ⟨rfl, by rw [HQ.out]; exact below_putq HQ.out H6.out.2.1 _ _⟩
  · obtain ⟨c0, c1⟩ := H6.out.2.2.2.all
    go_wp2_with fail
    refine (text_calls a b ha2 hb2 _ H6.out.2.2.1).mono ?_
    rintro e W7 ⟨rfl, b7⟩
    have H7 := Lib.hid (And.intro (TI.below H6.out.1 b7) (And.intro (show Below q w W7 from below_q HQ.out H6.out.2.1 b7) (TI.below H6.out.2.2.2 b7)))
    clear b7 H6 c0 c1
    obtain ⟨z0, z1⟩ := H7.out.1.all
    obtain ⟨c0, c1⟩ := H7.out.2.2.all
    have fz := blk_frozen H7.out.1
    obtain ⟨eb, heb⟩ : ∃ eb, ((txB a b).toList == s.toList) = eb := ⟨_, rfl⟩
    rw [heb, Bool.true_and] at HR
    cases eb
    · have HN : Hid (((0, 0), false) = r) := Lib.hid (by have h := HR.out; rw [if_neg (by simp)] at h; exact h)
      go_wp2
      have hp := H7.out.1.put 0 0
      unfold TI at hp
      refine bodyPost_ret (results_ct rfl _ _ q 25 _ (0, 0) _ rfl hp Tryd.underlying25 rfl (by kernel_rfl)) rfl ?_
      rw [← HN.out]
      exact ⟨rfl, by rw [HQ.out]; exact below_putq HQ.out H7.out.2.1 _ _⟩
    · have HN : Hid (((a, b), true) = r) := Lib.hid (by have h := HR.out; rw [if_pos rfl] at h; exact h)
      go_wp2
      have hp := H7.out.1.put (a : Int) (b : Int)
      unfold TI at hp
      refine bodyPost_ret (results_ct rfl _ _ q 25 _ (0, 0) _ rfl hp Tryd.underlying25 rfl (by kernel_rfl)) rfl ?_
      rw [← HN.out]
      exact ⟨rfl, by rw [HQ.out]; exact below_putq HQ.out H7.out.2.1 _ _⟩
theorem docRead_num (s : By) : docRead s = match splitDot s with
    | none => ((0, 0), false)
    | some (p, l) => if ((numO p).2 && (numO l).2 && (decide ((numO p).1 ≤ 281474976710656) && decide ((numO l).1 ≤ 4095))) = true then (((numO p).1, (numO l).1), true) else ((0, 0), false) := by
  unfold docRead
  cases splitDot s with
  | none => rfl
  | some x =>
    obtain ⟨p, l⟩ := x
    simp only []
    unfold numO
    cases numV p with
    | none => rfl
    | some a =>
      cases numV l with
      | none => rfl
      | some b =>
        simp only [Bool.true_and]
        by_cases h : a ≤ 281474976710656 ∧ b ≤ 4095
        · rw [if_pos h, if_pos (by rw [decide_eq_true h.1, decide_eq_true h.2]; rfl)]
        · rw [if_neg h, if_neg (by rw [Bool.and_eq_true, decide_eq_true_eq, decide_eq_true_eq]; exact h)]
set_option maxHeartbeats 8000000 in
set_option maxRecDepth 10000 in
theorem rread_calls (s : ByteArray) (hs : s.size ≤ 140737488351232) (w : World) {r : (Nat × Nat) × Bool} (hr : docRead s.data.toList = r) :
    Calls Tryd.prog 19 #[.string s] w fun e w' => e = rdEnd r ∧ Below w.heap.size w w' := by
  have hb := below_al (Below.refl w.heap.size w) (.cells #[.int .u64 0, .int .u32 0] 25)
  have H1 := Lib.hid (And.intro (TI.new w 0 0) hb)
  have HSZ := Lib.hid (Lib.size_eq s)
  have HG : Hid (∀ k (hk : k < s.size), s.data.toList[k]'(by rw [← HSZ.out]; exact hk) = s[k]) := Lib.hid fun k hk => rfl
  rw [docRead_num] at hr
  have HR := Lib.hid hr
  clear hb hr
  go_enter Tryd.func19, Tryd.ntmps19
  go_upto_region 1 with fail
  generalize w.alloc _ = W1 at *
  generalize hq : w.heap.size = q at *
  have HQ := Lib.hid hq
  clear hq
  obtain ⟨z0, z1⟩ := H1.out.1.all
  have fz := blk_frozen H1.out.1
  have hfin : Hid (∀ (a b : Int), Below q w ((W1.setCell ⟨q, 0, none⟩ (.int .u64 a)).setCell ⟨q, 1, none⟩ (.int .u32 b))) := Lib.hid fun a b => below_putq HQ.out H1.out.2 _ _
  go_wp2_with fail
  go_loopg [4] s.size (fun kk i wr => ∃ k : Nat, k ≤ s.size ∧ kk = s.size - k ∧ i = .int .i64 k ∧ (46 : UInt8) ∉ s.data.toList.take k ∧ wr = W1)
  case atStart => exact ⟨0, Nat.zero_le _, rfl, rfl, by simp, rfl⟩
  case round =>
    obtain ⟨k, hk, rfl, rfl, hno, rfl⟩ := hrel
    have HN := Lib.hid hno
    clear hno
    by_cases hkl : k < s.size
    · have hkz : (k : Int) < (s.size : Int) := by omega
      have hw : IntKind.i64.wrap ((k : Int) + 1) = ((k + 1 : Nat) : Int) := by unfold IntKind.wrap; simp [IntKind.signed, IntKind.bits]; omega
      have hkl2 : k < s.data.toList.length := by rw [← HSZ.out]; exact hkl
      by_cases hc : s[k]'hkl = 46
      · have hcz : (((s[k]'hkl).toNat : Int) == 46) = true := by rw [hc]; rfl
        have hcn : (((s[k]'hkl).toNat : Int) != 46) = false := by rw [hc]; rfl
        have hsp : splitDot s.data.toList = some (s.data.toList.take k, s.data.toList.drop (k + 1)) := by
          have e : s.data.toList = s.data.toList.take k ++ 46 :: s.data.toList.drop (k + 1) := by
            rw [← hc, ← HG.out k hkl, ← List.drop_eq_getElem_cons hkl2, List.take_append_drop]
          have h := split_at (s.data.toList.take k) (s.data.toList.drop (k + 1)) HN.out
          rw [← e] at h
          exact h
        obtain ⟨x1, x2, x3⟩ := cut_pre hsp
        rw [show (s.data.toList.take k).length = k by rw [List.length_take]; omega] at x1 x2
        have h2 := HR.out
        rw [hsp] at h2
        simp only at h2
        obtain ⟨n1, hn1⟩ : ∃ n1, numO (s.data.toList.take k) = n1 := ⟨_, rfl⟩
        obtain ⟨n2, hn2⟩ : ∃ n2, numO (s.data.toList.drop (k + 1)) = n2 := ⟨_, rfl⟩
        rw [hn1, hn2] at h2
        have N1 := Lib.hid (number_calls (s.extract 0 k) wr (r := n1) (by rw [x1, bB_list]; exact hn1))
        have N2 := Lib.hid (number_calls (s.extract (k + 1) s.size) wr (r := n2) (by rw [x2, bB_list]; exact hn2))
        have H2 := Lib.hid h2
        have c1 : (0 : Int) ≤ (k : Int) := by omega
        have c2 : (k : Int) ≤ (s.size : Int) := by omega
        have c3 : (k : Int) + 1 ≤ (s.size : Int) := by omega
        have c4 : IntKind.i64.wrap ((k : Int) + 1) = (k : Int) + 1 := by unfold IntKind.wrap; simp [IntKind.signed, IntKind.bits]; omega
        clear hw hc hsp x1 x2 x3 h2 hn1 hn2 hkl2
        obtain ⟨a, ok⟩ := n1
        obtain ⟨b, yes⟩ := n2
        simp only at N1 N2 H2
        go_wp2_with fail
        refine N1.out.mono ?_
        rintro e W2 ⟨rfl, hW2⟩
        subst hW2
        go_wp2_with fail
        refine N2.out.mono ?_
        rintro e W3 ⟨rfl, hW3⟩
        subst hW3
        cases ok
        · skip
          have HE : Hid (((0, 0), false) = r) := Lib.hid (by have h := H2.out; rw [if_neg (by simp)] at h; exact h)
          go_wp2
          have hp := H1.out.1.put 0 0
          unfold TI at hp
          refine bodyPost_ret (results_ct rfl _ _ q 25 _ (0, 0) _ rfl hp Tryd.underlying25 rfl (by kernel_rfl)) rfl ?_
          rw [← HE.out]
          exact ⟨rfl, by rw [HQ.out]; exact hfin.out 0 0⟩
        cases yes
        · skip
          have HE : Hid (((0, 0), false) = r) := Lib.hid (by have h := H2.out; rw [if_neg (by simp)] at h; exact h)
          go_wp2
          have hp := H1.out.1.put 0 0
          unfold TI at hp
          refine bodyPost_ret (results_ct rfl _ _ q 25 _ (0, 0) _ rfl hp Tryd.underlying25 rfl (by kernel_rfl)) rfl ?_
          rw [← HE.out]
          exact ⟨rfl, by rw [HQ.out]; exact hfin.out 0 0⟩
        by_cases ha : a ≤ 281474976710656
        · have haz : ¬ (281474976710656 : Int) < (a : Int) := by omega
          by_cases hb : b ≤ 4095
          · have hbz : ¬ (4095 : Int) < (b : Int) := by omega
            have hwb : IntKind.u32.wrap (b : Int) = (b : Int) := by unfold IntKind.wrap; simp [IntKind.signed, IntKind.bits]; omega
            have HE : Hid (((a, b), true) = r) := Lib.hid (by have h := H2.out; rw [decide_eq_true ha, decide_eq_true hb] at h; exact h)
            go_wp2
            have hp := H1.out.1.put (a : Int) (b : Int)
            unfold TI at hp
            refine bodyPost_ret (results_ct rfl _ _ q 25 _ (0, 0) _ rfl hp Tryd.underlying25 rfl (by kernel_rfl)) rfl ?_
            rw [← HE.out]
            exact ⟨rfl, by rw [HQ.out]; exact hfin.out _ _⟩
          · have hbz : (4095 : Int) < (b : Int) := by omega
            have HE : Hid (((0, 0), false) = r) := Lib.hid (by have h := H2.out; rw [if_neg (by simp; omega)] at h; exact h)
            go_wp2
            have hp := H1.out.1.put 0 0
            unfold TI at hp
            refine bodyPost_ret (results_ct rfl _ _ q 25 _ (0, 0) _ rfl hp Tryd.underlying25 rfl (by kernel_rfl)) rfl ?_
            rw [← HE.out]
            exact ⟨rfl, by rw [HQ.out]; exact hfin.out 0 0⟩
        · have haz : (281474976710656 : Int) < (a : Int) := by omega
          have HE : Hid (((0, 0), false) = r) := Lib.hid (by have h := H2.out; rw [if_neg (by simp; omega)] at h; exact h)
          go_wp2
          have hp := H1.out.1.put 0 0
          unfold TI at hp
          refine bodyPost_ret (results_ct rfl _ _ q 25 _ (0, 0) _ rfl hp Tryd.underlying25 rfl (by kernel_rfl)) rfl ?_
          rw [← HE.out]
          exact ⟨rfl, by rw [HQ.out]; exact hfin.out 0 0⟩
      · have hcz : (((s[k]'hkl).toNat : Int) == 46) = false := by
          have : (s[k]'hkl).toNat ≠ 46 := fun e => hc (UInt8.toNat_inj.1 e)
          simpa using (by omega : ¬ (((s[k]'hkl).toNat : Int) = 46))
        have hcn : (((s[k]'hkl).toNat : Int) != 46) = true := by rw [bne, hcz]; rfl
        have HX : Hid ((46 : UInt8) ∉ s.data.toList.take (k + 1)) := Lib.hid (by
          rw [List.take_succ_eq_append_getElem hkl2, HG.out k hkl]
          intro hm
          rcases List.mem_append.1 hm with h | h
          · exact HN.out h
          · simp at h; exact hc h.symm)
        clear hc hkl2
        go_wp2
        go_roundg (s.size - (k + 1))
        case measure => omega
        case rel => exact ⟨k + 1, by omega, rfl, by rw [show ((k + 1 : Nat) : Int) = (k : Int) + 1 by omega], HX.out, rfl⟩
    · obtain rfl : k = s.size := by omega
      have hkz : ¬ (s.size : Int) < (s.size : Int) := by omega
      have HE : Hid (((0, 0), false) = r) := Lib.hid (by
        have h := HR.out
        have hn := HN.out
        rw [List.take_of_length_le (by have := HSZ.out; omega)] at hn
        cases hsp : splitDot s.data.toList with
        | none => rw [hsp] at h; exact h
        | some x => exact absurd (by rw [(split_some hsp).1]; simp) hn)
      go_wp2
      have hp := H1.out.1.put 0 0
      unfold TI at hp
      refine bodyPost_ret (results_ct rfl _ _ q 25 _ (0, 0) _ rfl hp Tryd.underlying25 rfl (by kernel_rfl)) rfl ?_
      rw [← HE.out]
      exact ⟨rfl, by rw [HQ.out]; exact hfin.out 0 0⟩
/-! awake -/
def rightB' (p l : Int) : Bool := decide (p ≤ 281474976710656) && decide (l ≤ 4095)
theorem nx54 : stamp_Next.f 5 4095 = some (6, 0, 0) := by
  have w1 : IntKind.u32.wrap (4095 + 1) = 4096 := by decide +kernel
  have w2 : IntKind.u64.wrap (5 + 1) = 6 := by decide +kernel
  unfold stamp_Next.f stamp_Right.f
  have w3 : IntKind.u64.wrap 6 = 6 := by decide +kernel
  simp [w1, w2, w3]
theorem tx57 : stamp_Text.f 5 7 = some ⟨#[53, 46, 55]⟩ := by
  have e1 : digit 5 = ⟨#[53]⟩ := by decide +kernel
  have e2 : digit 7 = ⟨#[55]⟩ := by decide +kernel
  unfold stamp_Text.f
  rw [if_pos (by omega), show (5 : Int).toNat = 5 from rfl, show (7 : Int).toNat = 7 from rfl, e1, e2]
  rfl
theorem awk_eq : dovecotelaw01_awake.f = some true := by
  unfold dovecotelaw01_awake.f
  rw [nx54, Option.bind_some, tx57, Option.bind_some]
  have h : ((⟨#[53, 46, 55]⟩ : ByteArray).toList = ([53, 46, 55] : List UInt8)) := by decide +kernel
  rw [if_pos h]
  decide
theorem awk_calls (w : World) : Calls Tryd.prog 7 #[] w fun e w' => e = .returned (.bool true) ∧ Below w.heap.size w w' := dovecotelaw01_awake.calls true w awk_eq
/-! StampTexts -/
attribute [local go_sem high] eqA25
theorem goRead_bd {s : By} {r : (Nat × Nat) × Bool} (h : goRead s = r) : r.1.1 ≤ 281474976710656 ∧ r.1.2 ≤ 4095 := by
  unfold goRead at h
  simp only at h
  split at h
  · rename_i hg
    subst h
    exact hg.1
  · subst h
    exact ⟨Nat.zero_le _, Nat.zero_le _⟩
set_option maxHeartbeats 8000000 in
set_option maxRecDepth 10000 in
theorem texts_walk (p l : Nat) (hp : p < 18446744073709551616) (hl : l < 4294967296) (s : ByteArray) (hs : s.size ≤ 140737488351232) (w : World) (hv : Vars w) :
    Calls Tryd.prog 6 #[.agg #[.int .u64 (p : Int), .int .u32 (l : Int)], .string s] w fun e w' => e = .returned (.bool true) ∧ Below w.heap.size w w' := by
  have hb := below_al (Below.refl w.heap.size w) (.cells #[.int .u64 (p : Int), .int .u32 (l : Int)] 25)
  have H1 := Lib.hid (And.intro (TI.new w (p : Int) (l : Int)) (And.intro hb (hv.below hb)))
  have htl : (txB p l).size ≤ 140737488351232 := by
    have z1 := Lib.nDigits_le20 p hp
    have z2 := Lib.nDigits_le20 l (by omega)
    have e : (txB p l).size = (decDigits p).length + ((decDigits l).length + 1) := by rw [Lib.size_eq, txB_list]; unfold txt; simp
    rw [decDigits_length, decDigits_length] at e
    omega
  obtain ⟨r1, h1⟩ : ∃ r1, goRead (txB p l).data.toList = r1 := ⟨_, rfl⟩
  have h1' : (if p ≤ 281474976710656 ∧ l ≤ 4095 then ((p, l), true) else ((0, 0), false)) = r1 := by rw [← h1, txB_list, read_txt hp hl]
  obtain ⟨r2, h2⟩ : ∃ r2, goRead s.data.toList = r2 := ⟨_, rfl⟩
  have h3 : docRead s.data.toList = r2 := by rw [← read_same]; exact h2
  have h4 : r2.2 = true → txt r2.1.1 r2.1.2 = s.data.toList := fun e => read_text (t := r2.1) (by rw [h2, ← e])
  have hbd := goRead_bd h2
  have HT := Lib.hid (And.intro h1' (And.intro h4 (And.intro (sread_calls (txB p l) htl · · h1) (And.intro (sread_calls s hs · · h2) (rread_calls s hs · h3)))))
  clear hb hv htl h1 h1' h2 h3 h4
  obtain ⟨⟨a1, b1⟩, k1⟩ := r1
  obtain ⟨⟨a2, b2⟩, k2⟩ := r2
  simp only at hbd
  simp only [rdEnd] at HT
  obtain ⟨e1, he1⟩ : ∃ e1 : Int, (if k1 = true then (0 : Int) else 2) = e1 := ⟨_, rfl⟩
  obtain ⟨e2, he2⟩ : ∃ e2 : Int, (if k2 = true then (0 : Int) else 2) = e2 := ⟨_, rfl⟩
  rw [he1, he2] at HT
  have HE := Lib.hid (And.intro he1 he2)
  clear he1 he2
  go_enter Tryd.func6, Tryd.ntmps6
  go_upto_region 1 with fail
  generalize w.alloc _ = W1 at *
  generalize hq : w.heap.size = q at *
  have HQ := Lib.hid hq
  clear hq
  go_wp2_with fail
  refine (awk_calls _).mono ?_
  rintro e W2 ⟨rfl, c2⟩
  have H2 := Lib.hid (And.intro (TI.below H1.out.1 c2) (And.intro (show Below q w W2 from below_q HQ.out H1.out.2.1 c2) (Vars.below H1.out.2.2 c2)))
  clear c2 H1
  obtain ⟨x0, x1⟩ := H2.out.1.all
  go_wp2_with fail
  refine (text_calls p l hp hl _ H2.out.2.2).mono ?_
  rintro e W3 ⟨rfl, c3⟩
  have H3 := Lib.hid (And.intro (TI.below H2.out.1 c3) (And.intro (show Below q w W3 from below_q HQ.out H2.out.2.1 c3) (Vars.below H2.out.2.2 c3)))
  clear c3 H2 x0 x1
  go_wp2_with fail
  refine (HT.out.2.2.1 _ H3.out.2.2).mono ?_
  rintro e W4 ⟨rfl, c4⟩
  have d4 := below_tr c4 (below_al (Below.refl W4.heap.size W4) (.cells #[.int .u64 (a1 : Int), .int .u32 (b1 : Int)] 25))
  have H4 := Lib.hid (And.intro (TI.below H3.out.1 d4) (And.intro (show Below q w _ from below_q HQ.out H3.out.2.1 d4) (And.intro (Vars.below H3.out.2.2 d4) (TI.new W4 (a1 : Int) (b1 : Int)))))
  clear c4 d4 H3
  go_upto_region 5 with fail
  generalize W4.alloc _ = W5 at *
  generalize W4.heap.size = q5 at *
  go_wp2_with fail
  refine (HT.out.2.2.2.1 _ H4.out.2.2.1).mono ?_
  rintro e W6 ⟨rfl, c6⟩
  have d6 := below_tr c6 (below_al (Below.refl W6.heap.size W6) (.cells #[.int .u64 (a2 : Int), .int .u32 (b2 : Int)] 25))
  have H6 := Lib.hid (And.intro (TI.below H4.out.1 d6) (And.intro (show Below q w _ from below_q HQ.out H4.out.2.1 d6) (And.intro (Vars.below H4.out.2.2.1 d6) (And.intro (TI.below H4.out.2.2.2 d6) (TI.new W6 (a2 : Int) (b2 : Int))))))
  clear c6 d6 H4
  go_upto_region 6 with fail
  generalize W6.alloc _ = W7 at *
  generalize W6.heap.size = q7 at *
  go_wp2_with fail
  refine (HT.out.2.2.2.2 _).mono ?_
  rintro e W8 ⟨rfl, c8⟩
  have d8 := below_tr c8 (below_al (Below.refl W8.heap.size W8) (.cells #[.int .u64 (a2 : Int), .int .u32 (b2 : Int)] 25))
  have H8 := Lib.hid (And.intro (TI.below H6.out.1 d8) (And.intro (show Below q w _ from below_q HQ.out H6.out.2.1 d8) (And.intro (Vars.below H6.out.2.2.1 d8) (And.intro (TI.below H6.out.2.2.2.1 d8) (And.intro (TI.below H6.out.2.2.2.2 d8) (TI.new W8 (a2 : Int) (b2 : Int)))))))
  clear c8 d8 H6
  go_upto_region 7 with fail
  generalize W8.alloc _ = W9 at *
  generalize W8.heap.size = q9 at *
  obtain ⟨x0, x1⟩ := H8.out.1.all
  go_wp2_with fail
  refine (rtext_calls p l hp hl _).mono ?_
  rintro e W10 ⟨rfl, c10⟩
  have H10 := Lib.hid (And.intro (TI.below H8.out.1 c10) (And.intro (show Below q w _ from below_q HQ.out H8.out.2.1 c10) (And.intro (Vars.below H8.out.2.2.1 c10) (And.intro (TI.below H8.out.2.2.2.1 c10) (And.intro (TI.below H8.out.2.2.2.2.1 c10) (TI.below H8.out.2.2.2.2.2 c10))))))
  clear c10 H8 x0 x1
  have ev : ((txB p l).toList == (txB p l).toList) = true := by simp
  obtain ⟨x0, x1⟩ := H10.out.1.all
  obtain ⟨y0, y1⟩ := H10.out.2.2.2.2.1.all
  obtain ⟨z0, z1⟩ := H10.out.2.2.2.2.2.all
  obtain ⟨v0, v1⟩ := H10.out.2.2.2.1.all
  cases k2
  case' false =>
    obtain rfl : 2 = e2 := HE.out.2
    go_upto_region 9 with fail
    have H12 := H10
    clear H10
    clear x0 x1 y0 y1 z0 z1 v0 v1
  case' true =>
    obtain rfl : 0 = e2 := HE.out.2
    have et : ((txB a2 b2).toList == s.toList) = true := by rw [eq_bytes, txB_list]; exact decide_eq_true (HT.out.2.1 rfl)
    have et2 : ((txB a2 b2).toList != s.toList) = false := by rw [bne, et]; rfl
    go_wp2_with fail
    refine (text_calls a2 b2 (by omega) (by omega) _ H10.out.2.2.1).mono ?_
    rintro e W11 ⟨rfl, c11⟩
    have H12 := Lib.hid (And.intro (TI.below H10.out.1 c11) (And.intro (show Below q w _ from below_q HQ.out H10.out.2.1 c11) (And.intro (Vars.below H10.out.2.2.1 c11) (And.intro (TI.below H10.out.2.2.2.1 c11) (And.intro (TI.below H10.out.2.2.2.2.1 c11) (TI.below H10.out.2.2.2.2.2 c11))))))
    clear c11 H10 x0 x1 y0 y1 z0 z1 v0 v1
    go_upto_region 9 with fail
    clear et et2
  all_goals
    obtain ⟨x0, x1⟩ := H12.out.1.all
    go_wp2_with fail
    refine (sright_calls p l _).mono ?_
    rintro e W13 ⟨rfl, c13⟩
    have H13 := Lib.hid (And.intro (TI.below H12.out.1 c13) (And.intro (show Below q w _ from below_q HQ.out H12.out.2.1 c13) (TI.below H12.out.2.2.2.1 c13)))
    clear c13 H12 x0 x1
    obtain ⟨x0, x1⟩ := H13.out.1.all
    obtain ⟨v0, v1⟩ := H13.out.2.2.all
    by_cases hg : p ≤ 281474976710656 ∧ l ≤ 4095
    · have h := HT.out.1
      rw [if_pos hg] at h
      injection h with h h5
      injection h with h h6
      subst h5 h h6
      obtain rfl : 0 = e1 := HE.out.1
      have er : rightN p l = true := by unfold rightN; rw [decide_eq_true hg.1, decide_eq_true hg.2]; rfl
      rw [er]
      go_wp2
      go_ret
      exact ⟨rfl, by rw [HQ.out]; exact H13.out.2.1⟩
    · have h := HT.out.1
      rw [if_neg hg] at h
      injection h with h h5
      injection h with h h6
      subst h5 h h6
      obtain rfl : 2 = e1 := HE.out.1
      have er : rightN p l = false := by
        unfold rightN
        rw [Bool.and_eq_false_iff]
        by_cases h1 : p ≤ 281474976710656
        · exact .inr (decide_eq_false (fun h2 => hg ⟨h1, h2⟩))
        · exact .inl (decide_eq_false h1)
      rw [er]
      go_wp2
      go_ret
      exact ⟨rfl, by rw [HQ.out]; exact H13.out.2.1⟩
end Go.Proofs.YthfaacheolhjnaaDoor.Txt
