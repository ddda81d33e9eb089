/- slices.Sort of whole numbers, slices.Reverse of pixels: the shelf's contracts, laid here, in this proof's own words. The numbers from the root down to a node. A range over a function whose rounds come in one known row: the body is owed at the next element alone, and ends each round plainly. All nodes by their depth: the iterator's contract. -/
import Derived.Shelf.Sort.Plain
import Derived.Shelf.Slices.In.SortNone
import Derived.Shelf.Lay
import Derived.Shelf.SlGeneric
import Derived.Ground.SlgnProg
import Derived.Shelf.SlicesE.Reverse
import Derived.Sort.OwnSortedInts
import Derived.Test.YtlkiajepahkliaaKTreeA
import Derived.Test.YtlkiajepahkliaaKTreeMore
import Derived.RangeFuncNested
import Derived.RangeFuncCalls
import Derived.Sort.QuietIn
import Derived.RegionIn
namespace Go.Proofs.Ytlkiajepahkliaa
open Go.RowKit Go.Shelf
set_option linter.unusedVariables false

shelf_lay Lays.n189 Nm 189 at Try as Try.laySort
shelf_lay_g SlLaysE.n35 Slgn 35 at Try 115 as Try.layRev

theorem holds_of_own {w : World} {k : IntKind} {g n cap : Nat} {e : TypeId} {ss : List Int} {S : Nat → Prop} (h : Own w e 1 (.slice (some ⟨g, 0, none⟩) n cap) n (ss.map (.int k)) S) (hn : n = ss.length) : Go.Sort.Holds (Value.int k) w g 0 ss.toArray := by
  intro j hj
  have hj' : j < ss.length := by simpa using hj
  rw [Nat.zero_add]
  refine ⟨?_, h.1.frozenAt j⟩
  rw [h.1.cellAt j (by omega)]
  simp [hj']

theorem mods_sorted {w : World} {k : IntKind} {g n : Nat} {os : Array Obj} (d : Array Int) : Mods (fun j => j = g) w (Go.Sort.grow (Go.Sort.putRow (Value.int k) (Go.Sort.ahead w n) g 0 d) os) := by
  refine ⟨rfl, rfl, rfl, by simp, fun j hj hne => ?_⟩
  rw [Go.Sort.heap_grow_old _ _ (by simpa using hj)]
  have : g ≠ j := fun e => hne e.symm
  simp [Go.Sort.putRow, Go.Sort.mapBlock, Go.Sort.ahead, Array.getElem?_modify, this]

theorem own_sorted {w : World} {k : IntKind} {g m n cap : Nat} {e : TypeId} {os : Array Obj} {ss ts : List Int} {S : Nat → Prop} (h : Own w e 1 (.slice (some ⟨g, 0, none⟩) n cap) n (ss.map (.int k)) S) (hn : n = ss.length) (hl : ts.length = ss.length) :
    Own (Go.Sort.grow (Go.Sort.putRow (Value.int k) (Go.Sort.ahead w m) g 0 ts.toArray) os) e 1 (.slice (some ⟨g, 0, none⟩) n cap) n (ts.map (.int k)) S := by
  rcases h.1.2 with ⟨h2, _⟩ | ⟨g', cap', cur, hv, hg, hh, hc, hm, hs, ht⟩
  · cases h2
  · injection hv with h1 h2 h3
    injection h1 with h1; injection h1 with h1
    subst h1; subst h3
    have hg' : g < w.heap.size := (Array.getElem?_eq_some_iff.1 hh).1
    refine ⟨⟨by simp [hl, hn], .inr ⟨g, cap, Go.Sort.putCells (Value.int k) 0 ts.toArray cur, rfl, Nat.zero_le _, ?_, hc, hm, by simp [Go.Sort.putCells, hs], ?_⟩⟩, h.2⟩
    · rw [Go.Sort.heap_grow_old _ _ (by simpa using hg')]
      simp [Go.Sort.putRow, Go.Sort.mapBlock, Go.Sort.ahead, Array.getElem?_modify, hh, Go.Sort.onCells]
    · apply List.ext_getElem?
      intro j
      by_cases hj : j < ts.length
      · rw [List.getElem?_take_of_lt (by omega), Array.getElem?_toList]
        simp [Go.Sort.putCells, hj, show j < cur.size by omega]
      · rw [List.getElem?_take_eq_none (by omega), List.getElem?_eq_none (by simp; omega)]

/-- The numbers in their row. -/
def sortInts (l : List Int) : List Int := l.mergeSort fun x y => decide (x ≤ y)
theorem sortInts_length (l : List Int) : (sortInts l).length = l.length := List.length_mergeSort l

theorem sort_calls (v : Value) (n : Nat) (l : List Int) (w : World) (S : Nat → Prop) (hn : n = l.length) (h : Own w 3 1 v n (l.map (.int .i64)) S) (hl : l.length < 4611686018427387904) :
    Calls Try.prog 44 #[v] w fun e w' => e = .returned (.tuple #[]) ∧ Own w' 3 1 v n ((sortInts l).map (.int .i64)) S ∧ Mods (fun j => v.ownBlock = some j) w w' := by
  subst hn
  rcases h.1.2 with ⟨rfl, h0⟩ | ⟨g, cap, cur, rfl, hg, hh, hc, hm, hs, ht⟩
  · refine (Any.slices_Sort_int_none Try.laySort none 0 w).mono ?_
    rintro e w' ⟨rfl, rfl⟩
    have hl0 := List.eq_nil_of_length_eq_zero h0
    subst hl0
    exact ⟨rfl, by simp [sortInts]; exact Own.nil _ _ _ _, Mods.refl _ _⟩
  · refine (Any.slices_Sort_int Try.laySort g 0 cap l w (holds_of_own h rfl) (Array.getElem?_eq_some_iff.1 hh).1 hl).mono ?_
    rintro e w' ⟨rfl, n, os, rfl⟩
    exact ⟨rfl, own_sorted h rfl (List.length_mergeSort l), (mods_sorted _).mono (fun j _ hj => by rw [hj]; rfl)⟩

theorem reverse_calls (v : Value) (n : Nat) (l : List Int) (w : World) (S : Nat → Prop) (hn : n = l.length) (h : Own w 73 1 v n (l.map (.int .u64)) S) (hl : l.length ≤ 9223372036854775807) :
    Calls Try.prog 115 #[v] w fun e w' => e = .returned (.tuple #[]) ∧ Own w' 73 1 v n (l.reverse.map (.int .u64)) S ∧ Mods (fun j => v.ownBlock = some j) w w' := by
  subst hn
  rcases h.1.2 with ⟨rfl, h0⟩ | ⟨g, cap, cur, rfl, hg, hh, hc, hm, hs, ht⟩
  · refine (AnyE.slices_Reverse_empty Try.layRev none 0 w).mono ?_
    rintro e w' ⟨rfl, rfl⟩
    have hl0 := List.eq_nil_of_length_eq_zero h0
    subst hl0
    exact ⟨rfl, Own.nil _ _ _ _, Mods.refl _ _⟩
  · refine (AnyE.slices_Reverse Try.layRev (Value.int .u64) (fun _ => rfl) g 0 cap l w (holds_of_own h rfl) hl).mono ?_
    rintro e w' ⟨rfl, n, rfl⟩
    have h1 := own_sorted (m := n) (os := #[]) (ts := l.reverse) h rfl (by simp)
    have h2 := mods_sorted (w := w) (k := .u64) (g := g) (n := n) (os := #[]) l.reverse.toArray
    rw [Go.Sort.grow_empty] at h1 h2
    exact ⟨rfl, h1, h2.mono (fun j _ hj => by rw [hj]; rfl)⟩
end Go.Proofs.Ytlkiajepahkliaa

namespace Go.Proofs.Ytlkiajepahkliaa
open Go.RowKit
set_option linter.unusedVariables false
set_option linter.unusedSimpArgs false

namespace TTree
/-- A node's own number, its parent's, .., without the root. -/
def upFrom (T : TTree) : Nat → Int → List Int
  | 0, _ => []
  | f + 1, n => if 0 < n ∧ n < T.nodes.length then (T.node n.toNat).p :: T.upFrom f (T.node n.toNat).up else []
theorem upFrom_more {T : TTree} (ok : TreeOk T) : ∀ (f g : Nat) (n : Int), n < f → n < g → T.upFrom f n = T.upFrom g n := by
  intro f
  induction f with
  | zero => intro g n hf hg; cases g with
    | zero => rfl
    | succ g => simp only [upFrom]; rw [if_neg (by omega)]
  | succ f ih => intro g n hf hg; cases g with
    | zero => simp only [upFrom]; rw [if_neg (by omega)]
    | succ g =>
      simp only [upFrom]
      by_cases h : 0 < n ∧ n < T.nodes.length
      · rw [if_pos h, if_pos h]
        have := ok.up n.toNat (by omega)
        rw [ih g _ (by omega) (by omega)]
      · rw [if_neg h, if_neg h]
theorem upFrom_le {T : TTree} (ok : TreeOk T) : ∀ (f : Nat) (n : Int), (T.upFrom f n).length ≤ n.toNat := by
  intro f
  induction f with
  | zero => intro n; simp [upFrom]
  | succ f ih =>
    intro n
    simp only [upFrom]
    by_cases h : 0 < n ∧ n < T.nodes.length
    · rw [if_pos h]
      have := ok.up n.toNat (by omega)
      have := ih (T.node n.toNat).up
      simp only [List.length_cons]; omega
    · rw [if_neg h]; simp
def path (T : TTree) (n : Nat) : List Int := (T.upFrom (n + 1) n).reverse
end TTree

theorem path_step {T : TTree} (ok : TreeOk T) {m : Nat} (h0 : 0 < m) (hm : m < T.nodes.length) : T.upFrom (m + 1) m = (T.node m).p :: T.upFrom ((T.node m).up.toNat + 1) (T.node m).up := by
  have := ok.up m hm
  rw [TTree.upFrom, if_pos (by omega)]
  simp only [Int.toNat_natCast]
  rw [TTree.upFrom_more ok m ((T.node m).up.toNat + 1) _ (by omega) (by omega)]

theorem path_ne {T : TTree} (ok : TreeOk T) {m : Nat} (h0 : 0 < m) (hm : m < T.nodes.length) : ∃ l, T.path m = l ++ [(T.node m).p] := ⟨_, by unfold TTree.path; rw [path_step ok h0 hm, List.reverse_cons]⟩

theorem ownBlock_len (A : Option Addr) (n m c c' : Nat) : (Value.slice A n c).ownBlock = (Value.slice A m c').ownBlock := by cases A <;> rfl

set_option maxRecDepth 100000 in
set_option maxHeartbeats 2000000 in
theorem path_calls (bt : Nat) (T : TTree) (col : Nat → Option Nat) (m : Nat) (w : World) (h : TreeAt w bt T col) (ok : TreeOk T) (hm : m < T.nodes.length) :
    Calls Try.prog 83 #[.pointer (some ⟨bt, 0, none⟩), .int .i64 m] w fun e w' =>
      ∃ A c, e = .returned (.slice A (T.path m).length c) ∧ Own w' 73 1 (.slice A (T.path m).length c) (T.path m).length (intCells .u64 (T.path m)) (fun k => w.heap.size ≤ k) ∧ Below w.heap.size w w' := by
  have h' := Lib.hid h
  have ok' := Lib.hid ok
  have hle := ok.le
  obtain ⟨g, c, hc, hcl, hcm, hr⟩ := h.cells ok.pos
  have hr' := Lib.hid hr
  have hc' := Lib.hid hc
  obtain ⟨i1, hi1, hz1, hzs1, hzb1⟩ := info_parts infoPixel
  clear h ok hr hc
  go_enter Try.func83, Try.ntmps83
  go_wp2_with fail
  go_loopw [1, 5] (fun x y wr => ∃ (n : Int) (pre : List Int) (A : Option Addr) (c : Nat), x = .int .i64 n ∧ y = .slice A pre.length c ∧ -1 ≤ n ∧ n < T.nodes.length ∧ T.upFrom (m + 1) m = pre ++ T.upFrom (n.toNat + 1) n ∧ Own wr 73 1 (.slice A pre.length c) pre.length (intCells .u64 pre) (fun k => w.heap.size ≤ k) ∧ Below w.heap.size w wr)
    (fun x _ _ => (intOf x).toNat)
  case atStart => exact ⟨m, [], none, 0, rfl, rfl, by omega, by omega, by simp, Own.nil _ _ _ _, Below.refl _ _⟩
  case round =>
    obtain ⟨n, pre, A, c2, rfl, rfl, hn1, hn2, hup, ho, hB⟩ := hrel
    have hup' := Lib.hid hup
    have ho' := Lib.hid ho
    have hb' := Lib.hid (h'.out.below hB)
    clear hup ho
    have hbt : bt < w.heap.size := World.block_lt_of_cell? w _ hc'.out
    have hgl : g < w.heap.size := by
      obtain ⟨kv, wv, h1, _⟩ := hr'.out m hm
      exact World.block_lt_of_cell? w _ h1
    by_cases hn : 0 < n
    · obtain ⟨q, rfl⟩ : ∃ q : Nat, n = q := ⟨n.toNat, by omega⟩
      have hq : q < T.nodes.length := by omega
      have hq0 : 0 < q := by omega
      have hin : Hid (inB T q = true) := Lib.hid (decide_eq_true (by omega))
      obtain ⟨kv, wv, h1, h2, _⟩ := hr'.out q hq
      have hstep := hup'.out
      rw [Int.toNat_natCast, path_step ok'.out hq0 hq] at hstep
      have hstep' := Lib.hid hstep
      have hupr := ok'.out.up q hq
      obtain ⟨p, hp⟩ : ∃ p, (T.node q).p = p := ⟨_, rfl⟩
      obtain ⟨up, hu⟩ : ∃ up, (T.node q).up = up := ⟨_, rfl⟩
      rw [hp] at h2 hstep'
      rw [hu] at h1 hstep' hupr
      have e1 := (hB.cell (p := ⟨bt, 0, none⟩) hbt).trans hc'.out
      have e2 := (hB.cell (p := ⟨g, q * 5, none⟩) hgl).trans h1
      have e3 := (hB.cell (p := ⟨g, q * 5 + 1, none⟩) hgl).trans h2
      have hlen := TTree.upFrom_le ok'.out (m + 1) m
      rw [hup'.out, List.length_append, Int.toNat_natCast] at hlen
      have hpl : pre.length ≤ 1048576 := by omega
      have hw7 : Hid (∀ (w7 : World) (v : Value), (∀ k, v.ownBlock = some k → w.heap.size ≤ k) → (wr.alloc (.cells #[.int .u64 p] 73)).grownBy w7 v.ownBlock → Below w.heap.size w w7) := Lib.hid fun w7 v hv hg => (hB.alloc hB.size _).grown hg (by have := hB.size; simp; omega) hv
      clear h1 h2 hstep hlen hup' hp hu
      go_wp2_with fail
      refine (in_calls bt T col q _ hb'.out ok'.out).mono ?_
      rintro e w' ⟨rfl, rfl⟩
      rw [hin.out]
      go_wp2_with (at_builtin; refine wpList_append_own_at _ rfl (.tmp 21) (.tmp 30) 27 rfl 0 73 i1 (.int .u64 0) 1 8 Try.underlying27 hi1 hz1 hzs1 hzb1 rfl (by decide) _ pre.length _ rfl (ho'.out.1.alloc _) ⟨wr.heap.size, 0, none⟩ 1 1 [.int .u64 p] rfl rfl (cell_one_new _ _ _) (by simp [Value.oneCell']) (by unfold maxLen; omega) (by omega) (Nat.zero_le _) ?_; intro v7 w7 ho7 hg7 hnn hat7; clear hnn; obtain ⟨A7, c7, hv7⟩ := ownsRow_slice ho7; subst hv7; have hB7 := hw7.out w7 _ ho'.out.2 hg7; have f1 := (hB7.cell (p := ⟨bt, 0, none⟩) hbt).trans hc'.out; have f2 : w7.cell? ⟨g, q * 5, none⟩ = some (.int .i64 up) := (hB7.cell (p := ⟨g, q * 5, none⟩) hgl).trans ((hB.cell (p := ⟨g, q * 5, none⟩) hgl).symm.trans e2))
      go_roundw
      case rel =>
        refine ⟨up, pre ++ [p], A7, c7, rfl, by simp, by omega, by omega, by rw [hstep'.out]; simp, ?_, hB7⟩
        refine ⟨by simpa [intCells] using ho7, fun k hk => ?_⟩
        rcases hat7 with h9 | h9
        · exact ho'.out.2 k (h9.symm.trans ((ownBlock_len _ _ _ _ _).trans hk))
        · have := hk.symm.trans ((ownBlock_len _ _ _ _ _).trans h9)
          injection this with this
          have h10 := hB.size
          rw [World.size_alloc] at this
          omega
      case measure => simp [intOf]; omega
    · have hfin : Hid (T.path m = pre.reverse) := by
        have := hup'.out
        have hz : T.upFrom (n.toNat + 1) n = [] := by rw [TTree.upFrom, if_neg (by omega)]
        rw [hz, List.append_nil] at this
        unfold TTree.path
        exact Lib.hid (by rw [this])
      have hlen := TTree.upFrom_le ok'.out (m + 1) m
      rw [hup'.out, List.length_append] at hlen
      have hpl : pre.length ≤ 1048576 := by omega
      have hrev := fun wx (ho : Own wx 73 1 (.slice A pre.length c2) pre.length (intCells .u64 pre) (fun k => w.heap.size ≤ k)) => reverse_calls (.slice A pre.length c2) pre.length pre wx (fun k => w.heap.size ≤ k) rfl ho (by omega)
      have hrev' := Lib.hid hrev
      clear hup' hlen hrev
      have hn0 : n = -1 ∨ n = 0 := by omega
      rcases hn0 with rfl | rfl
      · have hin : Hid (inB T (-1) = false) := Lib.hid (decide_eq_false (by omega))
        go_wp2_with fail
        refine (in_calls bt T col _ _ hb'.out ok'.out).mono ?_
        rintro e w' ⟨rfl, rfl⟩
        rw [hin.out]
        go_wp2_with fail
        refine (hrev'.out _ ho'.out).mono ?_
        rintro e w2 ⟨rfl, ho2, hm2⟩
        go_wp2_with fail
        go_ret
        rw [hfin.out]
        refine ⟨A, c2, by rw [List.length_reverse]; rfl, by rw [List.length_reverse]; exact ho2, hB.trans (hm2.below hB.size (fun k hk hj => by have := ho'.out.2 k hj; omega))⟩
      · have hin : Hid (inB T 0 = true) := Lib.hid (decide_eq_true (by omega))
        go_wp2_with fail
        refine (in_calls bt T col _ _ hb'.out ok'.out).mono ?_
        rintro e w' ⟨rfl, rfl⟩
        rw [hin.out]
        go_wp2_with fail
        refine (hrev'.out _ ho'.out).mono ?_
        rintro e w2 ⟨rfl, ho2, hm2⟩
        go_wp2_with fail
        go_ret
        rw [hfin.out]
        refine ⟨A, c2, by rw [List.length_reverse]; rfl, by rw [List.length_reverse]; exact ho2, hB.trans (hm2.below hB.size (fun k hk hj => by have := ho'.out.2 k hj; omega))⟩
end Go.Proofs.Ytlkiajepahkliaa

namespace Go.Proofs.Ytlkiajepahkliaa
open Go.RowKit
set_option linter.unusedVariables false

/-- A function value that hands out the elements of zs, in their row, and no others. -/
def SeqRow {α : Type} (F : Fence) (n : Nat) (P : Program) (g : Nat) (lb : Array Value) (encs : α → Array Value) (Kp : World → World → Prop) (zs : List α) (w : World) : Prop :=
  ∀ (l : Nat) (J : List α → World → Prop) (W : World), Below w.heap.size w W → AbidesFrom W.heap.size J →
    (∀ pre x W1, pre ++ [x] <+: zs → J pre W1 → YieldAt F (n - 1) P l (encs x) W1 fun e W' => e = .returned (.bool true) ∧ J (pre ++ [x]) W' ∧ Kp W1 W') →
    J [] W → CallsIn F n P g (#[.func (.yield l) #[] #[]] ++ lb) W fun e W' => (∃ v, e = .returned v) ∧ J zs W'

variable {F : Fence} {n : Nat} {P : Program} {w : World}

/-- The statement: I holds ahead of each round of what has come, and of all behind it. -/
theorem wpIn_range_row {α : Type} {g : Operand} {ps : Array Tmp} {assign body : Code} {Q : Exit → Act → World → Prop} {a : Act}
    (hro : F.round = none) (h1 : 1 ≤ n) {gf : Nat} {lb : Array Value} (hg : a.eval g = .func (.func gf) #[] lb) (hFg : F.fn gf) (eg : ∀ args w, (callFunc gf args).run P w = .ok (.enter gf args) w)
    {encs : α → Array Value} {Kp : World → World → Prop} {zs : List α} {w0 : World} (hseq : SeqRow F (n - 1) P gf lb encs Kp zs w0)
    (hKt : ∀ {A B C : World}, Kp A B → Kp B C → Kp A C) (hKb : ∀ (W : World) (l : Nat) (o o' : Obj), w.heap.size ≤ l → W.heap[l]? = some o → o.isCells = false → o.isWalk = false → Kp W (W.putObj l o'))
    (hb0 : Below w0.heap.size w0 w) (hps : ∀ x, (encs x).size = ps.size)
    (I : List α → World → Prop) (hI : OwnFrom w.heap.size I) (h0 : I [] w) (a₁ : α → Act)
    (hassign : ∀ (l : Nat) (x : α) (W : World) (K : Act → World → Prop), K (a₁ x) W →
      assign.wpIn (F.inRound l) (n - 1 - 1) P (Exit.then K (fun _ _ _ => False)) { tmps := (ps.zip (encs x)).foldl (fun t (p, v) => t.setIfInBounds p v) a.tmps, defers := [] } W)
    (hbody : ∀ (l : Nat) (pre : List α) (x : α) (W : World), pre ++ [x] <+: zs → I pre W → body.wpIn (F.inRound l) (n - 1 - 1) P (fun e _ W' => e = .normal ∧ KeepsFrom w.heap.size W W' ∧ Kp W W' ∧ I (pre ++ [x]) W') (a₁ x) W)
    (hdone : ∀ (D : Nat) (W : World), w.heap.size ≤ D → I zs W → W.heap[D]? = some (.deferred (some [])) → Q .normal { a with defers := { target := .collected D, args := #[] } :: a.defers } W) :
    (Code.rangeFunc g ps assign body).wpIn F n P Q a w := by
  refine wpIn_rangeFunc fun fn hfn => ?_
  rw [hro]
  obtain ⟨D, hD⟩ : ∃ D, w.heap.size = D := ⟨_, rfl⟩
  rw [hD] at hI hbody hdone
  obtain ⟨R, hR⟩ : ∃ R : LoopState → Loop, R = fun st => { state := st, pending := none, fn := fn, tmps := a.tmps, params := ps, assign := assign, body := body, defers := D } := ⟨_, rfl⟩
  -- the two blocks that the statement lays for itself
  have hnew : ((w.alloc (.deferred (some []))).alloc (.loop (R .ready))).heap[D + 1]? = some (.loop (R .ready)) := by
    have := World.alloc_heap_new (w.alloc (.deferred (some []))) (.loop (R .ready))
    rwa [World.size_alloc, hD] at this
  have hnew2 : ((w.alloc (.deferred (some []))).alloc (.loop (R .ready))).heap[D]? = some (.deferred (some [])) := by
    rw [Below.heap_alloc _ _ _ (by simp; omega), ← hD]
    exact World.alloc_heap_new w _
  have hIn : I [] ((w.alloc (.deferred (some []))).alloc (.loop (R .ready))) := hI.alloc _ (hI.alloc _ h0)
  have hbn : Below w0.heap.size w0 ((w.alloc (.deferred (some []))).alloc (.loop (R .ready))) := (hb0.alloc hb0.size _).alloc (by simp; have := hb0.size; omega) _
  have hsn : ((w.alloc (.deferred (some []))).alloc (.loop (R .ready))).heap.size = D + 2 := by simp; omega
  have hent : (Instr.enterLoop fn a.tmps ps assign body none).run P w = .ok (D + 1, [{ target := .collected D, args := #[] }]) ((w.alloc (.deferred (some []))).alloc (.loop (R .ready))) := by
    rw [hR, ← hD]; exact run_enterLoop_outer _ _ _ _ _
  generalize (w.alloc (.deferred (some []))).alloc (.loop (R .ready)) = V at hnew hnew2 hIn hbn hent hsn
  refine ⟨D + 1, [{ target := .collected D, args := #[] }], V, { target := .fn (.func gf) lb, args := #[.func (.yield (D + 1)) #[] #[]] }, V, gf, #[.func (.yield (D + 1)) #[] #[]] ++ lb, V, hent, ?_, ?_, ?_, fun _ => h1, ?_⟩
  · simp only [resolve, hg]; simp [go_sem]
  · intro f' hf'; simp [Target.leads] at hf'; subst hf'; exact hFg
  · simp [invoke, go_sem, eg]
  have far : ∀ {A : World} {row : Option Nat}, (∀ r, row = some r → V.heap.size ≤ r ∧ ∃ o : Obj, A.heap[r]? = some o ∧ o.isWalk = true) → (∀ r, row = some r → D ≤ r ∧ ∃ o : Obj, A.heap[r]? = some o ∧ o.isCells = false) :=
    fun hr r e => by obtain ⟨hB, o, ho, hw⟩ := hr r e; exact ⟨by omega, o, ho, Obj.not_cells_of_walk hw⟩
  refine (hseq (D + 1) (fun pre W => I pre W ∧ W.heap[D + 1]? = some (.loop (R .ready)) ∧ W.heap[D]? = some (.deferred (some []))) V hbn ?_ ?_ ⟨hIn, hnew, hnew2⟩).mono ?_
  · intro s A B row ⟨hs1, hs2, hs3⟩ hg' hr
    exact ⟨hI s A B row hs1 hg' (far hr), (grownBy_keeps hg' (fun r e => (hr r e).2) hs2 rfl).trans hs2, (grownBy_keeps hg' (fun r e => (hr r e).2) hs3 rfl).trans hs3⟩
  · rintro pre x W hx ⟨hi, hl, hk⟩
    have hlt := (Array.getElem?_eq_some_iff.1 hl).1
    have hy := run_yield (P := P) (args := encs x) hl (by rw [hR]; exact hps x)
    have hbeg := run_beginRound (P := P) hl (by rw [hR])
    rw [hR] at hy
    refine ⟨fn, _, assign, body, hy, roundIn_of_wpIn hfn (hassign _ x W _ ⟨_, hbeg, ?_⟩)⟩
    clear hy hbeg
    obtain ⟨W2, hW2⟩ : ∃ W2, W.putObj (D + 1) (.loop { R .ready with state := .busy }) = W2 := ⟨_, rfl⟩
    have hl2 : W2.heap[D + 1]? = some (.loop { R .ready with state := .busy }) := by rw [← hW2]; exact World.putObj_heap_same hlt
    have hk2 : W2.heap[D]? = some (.deferred (some [])) := by rw [← hW2]; exact (World.putObj_heap_other (by omega)).trans hk
    have hi2 : I pre W2 := by rw [← hW2]; exact hI.putObj _ hi (by omega) hl rfl
    have hp2 : Kp W W2 := by rw [← hW2]; exact hKb _ _ _ _ (by omega) hl rfl rfl
    rw [hW2]
    refine wpIn_mono (hbody _ pre x W2 hx hi2) ?_
    rintro e a3 W3 ⟨rfl, hk3, hp3, hi3⟩
    have hl3 := hk3.same _ _ (by omega) hl2 rfl
    have hd3 := hk3.same _ _ (Nat.le_refl _) hk2 rfl
    have hend := run_endRound (P := P) none hl3
    have hRr : ({ ({ R .ready with state := .busy } : Loop) with state := if (none : Option Code).isNone = true then LoopState.ready else LoopState.done, pending := none } : Loop) = R .ready := by rw [hR]; rfl
    rw [hRr] at hend
    exact ⟨_, _, hend, rfl, ⟨hI.putObj _ hi3 (by omega) hl3 rfl, World.putObj_heap_same (Array.getElem?_eq_some_iff.1 hl3).1, (World.putObj_heap_other (by omega)).trans hd3⟩, hKt hp2 (hKt hp3 (hKb _ _ _ _ (by omega) hl3 rfl rfl))⟩
  · rintro e W2 ⟨⟨v, rfl⟩, hi, hl, hk⟩
    have hend := run_endLoop (P := P) hl (by rw [hR]; simp)
    have hpe : (R .ready).pending = none := by rw [hR]
    rw [hpe] at hend
    exact ⟨none, _, hend, hdone _ _ (Nat.le_refl _) (hI.putObj _ hi (by omega) hl rfl) ((World.putObj_heap_other (by omega)).trans hk)⟩
end Go.Proofs.Ytlkiajepahkliaa

namespace Go.Proofs.Ytlkiajepahkliaa
open Go.RowKit Go.Shelf
set_option linter.unusedVariables false
set_option linter.unusedSimpArgs false
attribute [local go_sem] Oper.semAt_some

namespace TTree
/-- The nodes of a depth among the first k, each with its parent. -/
def level (T : TTree) (d k : Nat) : List (Nat × Int) := ((List.range k).filter fun i => decide ((T.node i).depth = (d : Int))).map fun i => (i, (T.node i).up)
/-- The nodes of depths 1 .. d. -/
def levelsTo (T : TTree) (d : Nat) : List (Nat × Int) := (List.range d).flatMap fun k => T.level (k + 1) T.nodes.length
def levels (T : TTree) : List (Nat × Int) := T.levelsTo T.nodes.length

theorem levelsTo_succ (T : TTree) (d : Nat) : T.levelsTo (d + 1) = T.levelsTo d ++ T.level (d + 1) T.nodes.length := by simp [levelsTo, List.range_succ]
theorem level_succ (T : TTree) (d k : Nat) : T.level d (k + 1) = T.level d k ++ if (T.node k).depth = (d : Int) then [(k, (T.node k).up)] else [] := by
  unfold level
  rw [List.range_succ, List.filter_append, List.map_append]
  congr 1
  by_cases h : (T.node k).depth = (d : Int) <;> simp [h]
theorem levelsTo_prefix (T : TTree) (d e : Nat) : T.levelsTo d <+: T.levelsTo (d + e) := by
  induction e with
  | zero => exact List.prefix_refl _
  | succ e ih => rw [← Nat.add_assoc, levelsTo_succ]; exact ih.trans (List.prefix_append _ _)
theorem level_prefix (T : TTree) (d k e : Nat) : T.level d k <+: T.level d (k + e) := by
  induction e with
  | zero => exact List.prefix_refl _
  | succ e ih => rw [← Nat.add_assoc, level_succ]; exact ih.trans (List.prefix_append _ _)
theorem part_prefix (T : TTree) {d k : Nat} (hd : d < T.nodes.length) (hk : k ≤ T.nodes.length) : T.levelsTo d ++ T.level (d + 1) k <+: T.levels := by
  obtain ⟨e, he⟩ : ∃ e, T.nodes.length = (d + 1) + e := ⟨T.nodes.length - (d + 1), by omega⟩
  obtain ⟨f, hf⟩ : ∃ f, T.nodes.length = k + f := ⟨T.nodes.length - k, by omega⟩
  unfold levels
  have h1 : T.levelsTo (d + 1) <+: T.levelsTo T.nodes.length := by have := T.levelsTo_prefix (d + 1) e; rwa [← he] at this
  refine List.IsPrefix.trans ?_ h1
  rw [levelsTo_succ]
  have h2 : T.level (d + 1) k <+: T.level (d + 1) T.nodes.length := by have := T.level_prefix (d + 1) k f; rwa [← hf] at this
  exact (List.prefix_append_right_inj _).2 h2

/-- How many nodes of depths 1 .. d there are. -/
theorem levelsTo_length (T : TTree) (d : Nat) : (T.levelsTo d).length = ((List.range T.nodes.length).filter fun i => decide (1 ≤ (T.node i).depth ∧ (T.node i).depth ≤ (d : Int))).length := by
  induction d with
  | zero =>
    rw [List.filter_eq_nil_iff.2 (by intro a _; simp; omega)]
    rfl
  | succ d ih =>
    rw [levelsTo_succ, List.length_append, ih, level, List.length_map]
    generalize List.range T.nodes.length = l
    induction l with
    | nil => rfl
    | cons a l ih2 =>
      simp only [List.filter_cons]
      by_cases h1 : 1 ≤ (T.node a).depth ∧ (T.node a).depth ≤ (d : Int)
      · rw [if_pos (by simpa using h1), if_neg (by simp; omega), if_pos (by simp; omega)]
        simp only [List.length_cons]; omega
      · by_cases h2 : (T.node a).depth = ((d + 1 : Nat) : Int)
        · rw [if_neg (by simp; omega), if_pos (by simpa using h2), if_pos (by simp; omega)]
          simp only [List.length_cons]; omega
        · rw [if_neg (by simp; omega), if_neg (by simpa using h2), if_neg (by simp; omega)]
          exact ih2

theorem levels_length {T : TTree} (ok : TreeOk T) (h0 : (T.node 0).depth = 0) (h1 : ∀ i, 0 < i → i < T.nodes.length → 1 ≤ (T.node i).depth) : T.levels.length = T.nodes.length - 1 := by
  unfold levels
  rw [levelsTo_length]
  have hp := ok.pos
  obtain ⟨n, hn⟩ : ∃ n, T.nodes.length = n + 1 := ⟨T.nodes.length - 1, by omega⟩
  rw [hn, List.range_succ_eq_map, List.filter_cons, if_neg (by simp; omega), List.filter_eq_self.2]
  · simp
  · intro a ha
    simp only [List.mem_map, List.mem_range] at ha
    obtain ⟨b, hb, rfl⟩ := ha
    have := h1 (b + 1) (by omega) (by omega)
    have := (ok.depth (b + 1) (by omega)).2
    simp; omega
end TTree

/-- What a round must keep: the tree's memory, and the box in which the loop finds it. -/
def KeepsBox (n₀ Bt bt : Nat) (W W' : World) : Prop := Below n₀ W W' ∧ (Boxed W Bt 74 (.pointer (some ⟨bt, 0, none⟩)) → Boxed W' Bt 74 (.pointer (some ⟨bt, 0, none⟩)))

theorem levels_make (bt : Nat) (w : World) :
    Calls Try.prog 82 #[.pointer (some ⟨bt, 0, none⟩)] w fun e w' => e = .returned (.func (.func 114) #[] #[.pointer (some ⟨w.heap.size, 0, none⟩)]) ∧ w' = w.alloc (.cells #[.pointer (some ⟨bt, 0, none⟩)] 74) := by
  go_enter Try.func82, Try.ntmps82
  go_wp2
  go_ret
  exact ⟨rfl, rfl⟩

theorem left_step (a b : Nat) (h : b + 1 ≤ a - 1) (ha : a ≤ 1048576) : Value.int .i64 (wrap64 ((a : Int) - 1 - b - 1)) = Value.int .i64 ((a : Int) - 1 - ((b + 1 : Nat) : Int)) := by
  have h1 : wrap64 ((a : Int) - 1 - b - 1) = (a : Int) - 1 - b - 1 := IntWalk.wrap64_in _ ⟨by omega, by omega⟩
  rw [h1]
  congr 1
  omega

set_option maxRecDepth 100000 in
set_option maxHeartbeats 4000000 in
theorem levels1_in (n : Nat) (hn : 1 ≤ n) (l Bt bt : Nat) (T : TTree) (col : Nat → Option Nat) (w : World) (h : TreeAt w bt T col) (ok : TreeOk T)
    (h0 : (T.node 0).depth = 0) (h1 : ∀ i, 0 < i → i < T.nodes.length → 1 ≤ (T.node i).depth) (J : List (Nat × Int) → World → Prop)
    (hY : ∀ pre x W, pre ++ [x] <+: T.levels → J pre W → YieldAt Fence.wide (n - 1) Try.prog l #[.int .i64 (x.1 : Int), .int .i64 x.2] W fun e W' =>
      e = .returned (.bool true) ∧ J (pre ++ [x]) W' ∧ KeepsBox w.heap.size Bt bt W W')
    (W : World) (hBw : Below w.heap.size w W) (hBt : Boxed W Bt 74 (.pointer (some ⟨bt, 0, none⟩))) (hJG : ∀ pre A B, J pre A → A.grownBy B none → J pre B) (hj : J [] W) :
    CallsIn Fence.wide n Try.prog 114 #[.func (.yield l) #[] #[], .pointer (some ⟨Bt, 0, none⟩)] W fun e W' => (∃ v, e = .returned v) ∧ J T.levels W' := by
  have h' := Lib.hid h
  have ok' := Lib.hid ok
  have hle := ok.le
  have hpos := ok.pos
  have hll := Lib.hid (TTree.levels_length ok h0 h1)
  obtain ⟨g, c, hc, hcl, hcm, hr⟩ := h.cells ok.pos
  have hr' := Lib.hid hr
  have hc' := Lib.hid hc
  have hbt : bt < w.heap.size := World.block_lt_of_cell? w _ hc
  have hgl : g < w.heap.size := by
    obtain ⟨kv, wv, h1, _⟩ := hr 0 ok.pos
    exact World.block_lt_of_cell? w _ h1
  have hbx := hBt.cell
  have hbc := (hBw.cell (p := ⟨bt, 0, none⟩) hbt).trans hc
  clear h ok hr hc
  refine callsIn_of_wp Try.func114 rfl trivial ?_ rfl
  simp only [Try.ntmps114, List.size_toArray, List.length_cons, List.length_nil, Nat.reduceAdd, Nat.reduceSub, Array.replicate_succ, Array.replicate_zero, List.push_toArray, List.append_toArray, List.nil_append, List.cons_append]
  gi_wp2
  gi_quiet (fail)
  obtain ⟨W1, hW1⟩ : ∃ W1, W.drewN nq = W1 := ⟨_, rfl⟩
  have hj1 : J [] W1 := hJG [] W W1 hj (by rw [← hW1]; exact ⟨rfl, rfl, rfl, Nat.le_refl _, fun _ _ _ => rfl⟩)
  have hBt1 : Boxed W1 Bt 74 (.pointer (some ⟨bt, 0, none⟩)) := by rw [← hW1]; exact hBt
  have hBw1 : Below w.heap.size w W1 := by rw [← hW1]; exact ⟨hBw.os, hBw.tape, hBw.output, hBw.size, hBw.block⟩
  rw [hW1]
  clear hW1 hbx hbc hBw hBt hj
  gi_wp2
  have hk0 := hj1
  gi_loopw [3, 4] (fun d lf wr => ∃ k : Nat, d = .int .i64 ((k : Int) + 1) ∧ lf = .int .i64 ((T.nodes.length : Int) - 1 - ((T.levelsTo k).length : Nat)) ∧ k ≤ T.nodes.length ∧ (T.levelsTo k).length ≤ T.nodes.length ∧ J (T.levelsTo k) wr ∧ Below w.heap.size w wr ∧ Boxed wr Bt 74 (.pointer (some ⟨bt, 0, none⟩)))
    (fun d _ _ => T.nodes.length + 1 - (intOf d).toNat)
  case atStart => exact ⟨0, rfl, by simp [TTree.levelsTo], Nat.zero_le _, Nat.zero_le _, hj1, hBw1, hBt1⟩
  case round =>
    obtain ⟨k, rfl, rfl, hk, hkl, hJs, hnx, hbox⟩ := hrel
    by_cases hlt : (T.levelsTo k).length < T.nodes.length - 1
    · have hkn : k < T.nodes.length := by
        rcases Nat.lt_or_ge k T.nodes.length with h2 | h2
        · exact h2
        · have : k = T.nodes.length := by omega
          subst this
          have := hll.out
          unfold TTree.levels at this
          omega
      have hbx := hbox.cell
      have hbc := (hnx.cell (p := ⟨bt, 0, none⟩) hbt).trans hc'.out
      obtain ⟨ln, hln⟩ : ∃ ln, (T.levelsTo k).length = ln := ⟨_, rfl⟩
      rw [hln] at hlt hkl ⊢
      have hd14 : decide ((ln : Int) < (T.nodes.length : Int) - 1) = true := decide_eq_true (by omega)
      gi_wp2
      gi_loopw [4, 22] (fun lf i wr => ∃ q : Nat, i = .int .i64 q ∧ lf = .int .i64 ((T.nodes.length : Int) - 1 - ((ln + (T.level (k + 1) q).length : Nat) : Int)) ∧ q ≤ T.nodes.length ∧ ln + (T.level (k + 1) q).length ≤ T.nodes.length - 1 ∧ J (T.levelsTo k ++ T.level (k + 1) q) wr ∧ Below w.heap.size w wr ∧ Boxed wr Bt 74 (.pointer (some ⟨bt, 0, none⟩)))
        (fun _ i _ => T.nodes.length - (intOf i).toNat)
      case atStart => exact ⟨0, rfl, by simp [TTree.level], Nat.zero_le _, by simp [TTree.level]; omega, by simpa [TTree.level] using hJs, hnx, hbox⟩
      case round =>
        clear hJs hnx hbox hbx hbc
        obtain ⟨q, rfl, rfl, hq, hql, hJs, hnx, hbox⟩ := hrel
        obtain ⟨lv, hlv⟩ : ∃ lv, ln + (T.level (k + 1) q).length = lv := ⟨_, rfl⟩
        rw [hlv] at hql ⊢
        by_cases hqn : q < T.nodes.length
        · obtain ⟨kv, wv, e0, e1, e2, e3, e4, ho1, ho2⟩ := hr'.out q hqn
          obtain ⟨A1, c1, rfl, _⟩ := ho1.shape
          obtain ⟨A2, c2, rfl, _⟩ := ho2.shape
          have g0 := (hnx.cell (p := ⟨g, q * 5, none⟩) hgl).trans e0
          have g1 := (hnx.cell (p := ⟨g, q * 5 + 1, none⟩) hgl).trans e1
          have g2 := (hnx.cell (p := ⟨g, q * 5 + 2, none⟩) hgl).trans e2
          have g3 := (hnx.cell (p := ⟨g, q * 5 + 3, none⟩) hgl).trans e3
          have g4 := (hnx.cell (p := ⟨g, q * 5 + 4, none⟩) hgl).trans e4
          clear e0 e1 e2 e3 e4 ho1 ho2
          have hls := T.level_succ (k + 1) q
          by_cases hdq : (T.node q).depth = (k : Int) + 1
          · rw [hdq] at g2
            rw [if_pos (by rw [hdq]; rfl)] at hls
            have hpp := T.part_prefix (d := k) (k := q + 1) hkn (by omega)
            have hpl := hpp.length_le
            rw [hls, ← List.append_assoc] at hpp hpl
            have hl1 : ((T.levelsTo k ++ T.level (k + 1) q) ++ [(q, (T.node q).up)]).length = lv + 1 := by simp only [List.length_append, List.length_cons, List.length_nil]; omega
            have hlv' : (T.level (k + 1) (q + 1)).length + ln = lv + 1 := by rw [hls]; simp only [List.length_append, List.length_cons, List.length_nil]; omega
            have hJA := hJG _ _ _ hJs (World.grownBy_alloc wr (.cells #[.int .i64 (T.node q).up, .int .u64 (T.node q).p, .int .i64 ((k : Int) + 1), .slice A1 (T.kids q).length c1, .slice A2 (T.nw q).length c2] 128) none)
            obtain ⟨fn, tmps, assign, body, hy, hRn⟩ := hY _ (q, (T.node q).up) _ hpp hJA
            have hpl2 : lv + 1 ≤ T.nodes.length - 1 := by rw [hl1, hll.out] at hpl; exact hpl
            clear hpl
            obtain ⟨up, hup⟩ : ∃ up, (T.node q).up = up := ⟨_, rfl⟩
            obtain ⟨pp, hpp2⟩ : ∃ pp, (T.node q).p = pp := ⟨_, rfl⟩
            rw [hup] at g0 hy hRn hls hJA hl1 hpp
            rw [hpp2] at g1 hy hRn hJA
            have hls' := Lib.hid hls
            have hpp' := Lib.hid hpp
            clear hls hpp hJA
            dsimp only at hy
            gi_wp2
            refine hRn.mono ?_
            rintro e W3 ⟨rfl, hJ3, hk3⟩
            gi_wp2
            go_roundw
            case rel => exact ⟨q + 1, by simp, by rw [show ln + (T.level (k + 1) (q + 1)).length = lv + 1 by omega]; exact left_step _ _ hpl2 hle, by omega, by omega, by rw [hls'.out, ← List.append_assoc]; exact hJ3, (hnx.alloc hnx.size _).trans hk3.1, hk3.2 (hbox.alloc _)⟩
            case measure => simp [intOf]; omega
          · have hne : ((T.node q).depth == (k : Int) + 1) = false := by simpa using hdq
            rw [if_neg (by intro h3; exact hdq (by rw [h3]; rfl)), List.append_nil] at hls
            have hls' := Lib.hid hls
            clear hls
            gi_wp2
            go_roundw
            case rel => exact ⟨q + 1, by simp, by rw [hls'.out, hlv], by omega, by rw [hls'.out]; omega, by rw [hls'.out]; exact hJG _ _ _ hJs (World.grownBy_alloc wr _ none), hnx.alloc hnx.size _, hbox.alloc _⟩
            case measure => simp [intOf]; omega
        · have hqe : q = T.nodes.length := by omega
          subst hqe
          have hls' := Lib.hid (T.levelsTo_succ k)
          gi_wp2
          go_roundw
          case rel => exact ⟨k + 1, by simp, by rw [hls'.out, List.length_append, hln, hlv], by omega, by rw [hls'.out, List.length_append]; omega, by rw [hls'.out]; exact hJs, hnx, hbox⟩
          case measure => simp [intOf]; omega
    · have hpf := T.levelsTo_prefix k (T.nodes.length - k)
      rw [show k + (T.nodes.length - k) = T.nodes.length by omega] at hpf
      have hpe : T.levelsTo k = T.levels := hpf.eq_of_length (by have h5 := hpf.length_le; have h6 := hll.out; unfold TTree.levels at h6; omega)
      have hpe' := Lib.hid hpe
      have hle2 : (T.levelsTo k).length = T.nodes.length - 1 := by rw [hpe]; exact hll.out
      obtain ⟨ln, hln⟩ : ∃ ln, (T.levelsTo k).length = ln := ⟨_, rfl⟩
      rw [hln] at hlt hkl hle2 ⊢
      clear hpf hpe
      gi_wp2
      go_end0
      rw [← hpe'.out]
      exact ⟨⟨_, rfl⟩, hJs⟩

/-- t.Levels() hands back a value that hands out all nodes by their depth. -/
theorem levels_row (n : Nat) (hn : 1 ≤ n) (Bt bt : Nat) (T : TTree) (col : Nat → Option Nat) (w : World) (h : TreeAt w bt T col) (ok : TreeOk T)
    (h0 : (T.node 0).depth = 0) (h1 : ∀ i, 0 < i → i < T.nodes.length → 1 ≤ (T.node i).depth) (W0 : World) (hB : Below w.heap.size w W0) (hBt : Boxed W0 Bt 74 (.pointer (some ⟨bt, 0, none⟩))) :
    SeqRow Fence.wide n Try.prog 114 #[.pointer (some ⟨Bt, 0, none⟩)] (fun x : Nat × Int => #[.int .i64 (x.1 : Int), .int .i64 x.2]) (KeepsBox w.heap.size Bt bt) T.levels W0 := fun l J W hW hJ hY hj => by
  refine levels1_in n hn l Bt bt T col w h ok h0 h1 J hY W (hB.trans (hW.mono hB.size)) ((hW.block Bt hBt.lt).trans hBt) (fun pre A B hA hg => ?_) hj
  exact hJ pre A B none hA hg (fun r e => by cases e)
end Go.Proofs.Ytlkiajepahkliaa
