/- The tree's other calls that read: New, Words, Path; slices.Clone of whole numbers. A range over slices.Values of edges: the iterator's contract; the numbers of a node's children. The numbers of a node's children. -/
import Derived.Test.YtlkiajepahkliaaKPut
import Derived.RangeFuncNested
import Derived.RangeFuncBound
import Derived.RangeFuncCalls
import Derived.RangeFuncLeaves
import Derived.RangeFuncBox
import Derived.Shelf.Abstract
import Derived.Shelf.RegionOpen
import Derived.WalkKit
import Derived.OwnWalkIn
import Derived.TacticsInMore
import Derived.LoopNIn
import Derived.LoopIn
import Derived.Maps.OwnIn
import Derived.Maps.AppendAt
namespace Go.Proofs.Ytlkiajepahkliaa
open Go.RowKit
set_option linter.unusedVariables false
set_option linter.unusedSimpArgs false

/-- The root alone. -/
def rootTree : TTree := ⟨[⟨-1, 0, 0, [], []⟩], []⟩

theorem rootTree_ok : TreeOk rootTree := by
  have h0 : ∀ i, i < rootTree.nodes.length → i = 0 := fun i hi => by simp [rootTree] at hi; exact hi
  constructor
  · simp [rootTree]
  · simp [rootTree]
  · simp [rootTree]
  · intro i hi; rw [h0 i hi]; intro a b _ hb; simp [rootTree, TTree.kids, TTree.node] at hb
  · intro i hi; rw [h0 i hi]; simp [rootTree, TTree.kids, TTree.node]
  · intro i hi q hq; rw [h0 i hi] at hq; simp [rootTree, TTree.kids, TTree.node] at hq
  · intro i hi; rw [h0 i hi]; simp [rootTree, TTree.nw, TTree.node]
  · intro i hi; rw [h0 i hi]; simp [rootTree, TTree.node]
  · intro i hi; rw [h0 i hi]; simp [rootTree, TTree.node]

set_option maxHeartbeats 400000 in
theorem treeNew_calls (w : World) :
    Calls Try.prog 50 #[] w fun e w' => ∃ bt col, e = .returned (.pointer (some ⟨bt, 0, none⟩)) ∧ TreeAt w' bt rootTree col ∧ (∀ k, k < w.heap.size → col k = none) ∧ Below w.heap.size w w' := by
  go_enter Try.func50, Try.ntmps50
  go_wp2
  go_ret
  refine ⟨w.heap.size + 1, fun k => if k = w.heap.size + 1 then some 0 else if k = w.heap.size then some 1 else none, rfl, ?_, fun k hk => ?_, ((Below.refl _ _).alloc (Nat.le_refl _) _).alloc (by simp) _⟩
  · refine ⟨.slice (some ⟨w.heap.size, 0, none⟩) 1 1, .slice none 0 0, fun _ => .slice none 0 0, fun _ => .slice none 0 0, ?_, by simp, ⟨⟨rfl, .inr ⟨w.heap.size, 1, _, rfl, Nat.zero_le _, heap_alloc2_old _ _ _, by simp [rootTree], by simp [maxLen], rfl, rfl⟩⟩, fun k hk => ?_⟩, Own.nil _ _ _ _, fun i hi => ?_, fun k hk => ?_⟩
    · exact heap_alloc2_new _ _ _
    · simp [Value.ownBlock] at hk; subst hk; simp
    · have : i = 0 := by simp [rootTree] at hi; exact hi
      subst this
      exact ⟨Own.nil _ _ _ _, Own.nil _ _ _ _⟩
    · simp only [ne_eq] at hk
      split at hk
      · simp; omega
      · split at hk
        · simp; omega
        · exact absurd rfl hk
  · simp only
    rw [if_neg (by omega), if_neg (by omega)]

theorem cells_of_intRow {w : World} {k : IntKind} {b off : Nat} {l : List Int} (h : ∀ i, i < l.length → w.cell? ⟨b, off + i, none⟩ = some (.int k (l.getD i 0))) :
    ∀ j u, (l.map (Value.int k))[j]? = some u → w.cell? ((⟨b, off, none⟩ : Addr).add j) = some u := by
  intro j u hj
  rw [addr_add]
  rw [List.getElem?_map] at hj
  by_cases hl : j < l.length
  · rw [h j hl]
    simp [hl] at hj ⊢
    exact hj
  · rw [List.getElem?_eq_none (by omega)] at hj
    cases hj

theorem ints_one (k : IntKind) (l : List Int) : ∀ u ∈ l.map (Value.int k), u.oneCell' = true := by
  intro u hu
  simp only [List.mem_map] at hu
  obtain ⟨x, _, rfl⟩ := hu
  rfl

set_option maxRecDepth 100000 in
set_option maxHeartbeats 1000000 in
/-- slices.Clone of a row of ints: a row in new memory. -/
theorem cloneInt_calls (v : Value) (l : List Int) (w : World) (hv : IntRow w .i64 v l) (hl : l.length ≤ 1099511627776) :
    Calls Try.prog 60 #[v] w fun e w' => ∃ A c, e = .returned (.slice A l.length c) ∧ Own w' 3 1 (.slice A l.length c) l.length (intCells .i64 l) (fun k => w.heap.size ≤ k) ∧ Below w.heap.size w w' := by
  obtain ⟨A, c, rfl, hc, hr⟩ := hv
  obtain ⟨i1, hi1, hz1, hzs1, hzb1⟩ := info_parts infoInt
  have hr' := Lib.hid hr
  clear hr
  cases A with
  | none =>
    have hl0 : l = [] := by
      rcases hr'.out with h0 | ⟨b, off, hA, _⟩
      · exact List.eq_nil_of_length_eq_zero h0
      · cases hA
    subst hl0
    have hq := fun w => Lib.run_eql_slice_nil (P := Try.prog) w 31 3 none 0 c 0 0 Try.underlying31
    go_enter Try.func60, Try.ntmps60
    go_wp2
    go_ret
    exact ⟨none, 0, rfl, Own.nil _ _ _ _, Below.refl _ _⟩
  | some a =>
    have hsrc : Hid (∃ ad, Value.slice (some a) l.length c = .slice (some ad) l.length c ∧ ∀ j u, (l.map (Value.int .i64))[j]? = some u → w.cell? (ad.add j) = some u) := by
      rcases hr'.out with h0 | ⟨b, off, hA, hcell⟩
      · have hl0 : l = [] := List.eq_nil_of_length_eq_zero h0
        exact ⟨a, rfl, fun j u hj => by rw [hl0] at hj; simp at hj⟩
      · injection hA with hA
        exact ⟨a, rfl, by rw [hA]; exact cells_of_intRow hcell⟩
    have hcl : Hid (∀ j u, (l.map (Value.int .i64))[j]? = some u → (w.alloc (.cells #[] 3)).cell? (a.add j) = some u) := by
      obtain ⟨ad, he, hh⟩ := hsrc.out
      have e1 : a = ad := by injection he with he; injection he
      subst e1
      exact fun j u hj => by rw [((Below.refl _ _).alloc (Nat.le_refl _) _).cell (World.block_lt_of_cell? w _ (hh j u hj))]; exact hh j u hj
    have hone := Lib.hid (ints_one .i64 l)
    have hq := fun w => Lib.run_eql_slice_nil (P := Try.prog) w 31 3 (some a) l.length c 0 0 Try.underlying31
    go_enter Try.func60, Try.ntmps60
    go_wp2_with (at_builtin; refine wpList_append_own_at _ rfl (.tmp 5) (.tmp 6) 31 rfl 0 3 i1 (.int .i64 0) 1 8 Try.underlying31 hi1 hz1 hzs1 hzb1 rfl (by decide) _ 0 [] rfl (World.ownsRow_made w #[] 0 (Nat.zero_le _) (by simp [maxLen]) rfl) a l.length c (l.map (Value.int .i64)) rfl (by simp) hcl.out hone.out (by unfold maxLen; omega) (by omega) (Nat.zero_le _) ?_; intro v7 w7 ho7 hg7 hnn hat7; clear hnn; simp only [Nat.zero_add, List.nil_append] at ho7)
    go_ret
    obtain ⟨A7, c7, hv7⟩ := ownsRow_slice ho7
    subst hv7
    refine ⟨A7, c7, rfl, ⟨ho7, fun k hk => ?_⟩, ⟨hg7.os, hg7.tape, hg7.output, Nat.le_trans (by simp) hg7.size, fun k hk => ?_⟩⟩
    · rcases hat7 with h9 | h9
      · have hk2 : (some w.heap.size : Option Nat) = some k := h9.symm.trans hk
        injection hk2 with hk2; omega
      · rw [h9] at hk; injection hk with hk; simp at hk; omega
    · rw [hg7.block k (by simp; omega) (fun hk2 => by have hk3 : (some k : Option Nat) = some w.heap.size := hk2; injection hk3 with hk3; omega)]
      exact Below.heap_alloc _ _ _ hk

/-- The words that end at a node; none of none. -/
def TTree.wordsOf (T : TTree) (n : Int) : List Int := if inB T n = true then T.nw n.toNat else []

set_option maxHeartbeats 400000 in
theorem words_calls (bt : Nat) (T : TTree) (col : Nat → Option Nat) (n : Int) (w : World) (h : TreeAt w bt T col) (ok : TreeOk T) :
    Calls Try.prog 71 #[.pointer (some ⟨bt, 0, none⟩), .int .i64 n] w fun e w' =>
      ∃ A c, e = .returned (.slice A (T.wordsOf n).length c) ∧ Own w' 3 1 (.slice A (T.wordsOf n).length c) (T.wordsOf n).length (intCells .i64 (T.wordsOf n)) (fun k => w.heap.size ≤ k) ∧ Below w.heap.size w w' := by
  have h' := Lib.hid h
  have ok' := Lib.hid ok
  by_cases hin : inB T n = true
  · have hn : 0 ≤ n ∧ n < T.nodes.length := of_decide_eq_true hin
    obtain ⟨m, rfl⟩ : ∃ m : Nat, n = m := ⟨n.toNat, by omega⟩
    have hm : m < T.nodes.length := by omega
    have hwo : T.wordsOf m = T.nw m := by unfold TTree.wordsOf; rw [if_pos hin]; rfl
    rw [hwo]
    have hin' := Lib.hid hin
    obtain ⟨g, c, hc, hcl, hcm, hr⟩ := h.cells ok.pos
    obtain ⟨kv, wv, _, _, _, _, h5, _, hk⟩ := hr m hm
    have hnl := ok.le
    have hnw := ok.nw m hm
    have hww := ok.words
    have hrow := Lib.hid (IntRow.of_own hk)
    clear h ok hin hr hk hwo
    go_enter Try.func71, Try.ntmps71
    go_wp2_with fail
    refine (in_calls bt T col m _ h'.out ok'.out).mono ?_
    rintro e w' ⟨rfl, rfl⟩
    rw [hin'.out]
    go_wp2_with fail
    refine (cloneInt_calls wv (T.nw m) _ hrow.out (by omega)).mono ?_
    rintro e w1 ⟨A1, c1, rfl, ho, hb⟩
    have ho' := Lib.hid ho
    clear ho
    go_wp2_with fail
    go_ret
    exact ⟨A1, c1, rfl, ho'.out, hb⟩
  · have hwo : T.wordsOf n = [] := by unfold TTree.wordsOf; rw [if_neg hin]
    rw [hwo]
    have hin' := Lib.hid (Bool.eq_false_iff.2 hin)
    clear h ok hin hwo
    go_enter Try.func71, Try.ntmps71
    go_wp2_with fail
    refine (in_calls bt T col n _ h'.out ok'.out).mono ?_
    rintro e w' ⟨rfl, rfl⟩
    rw [hin'.out]
    go_wp2_with fail
    go_ret
    exact ⟨none, 0, rfl, Own.nil _ _ _ _, Below.refl _ _⟩
end Go.Proofs.Ytlkiajepahkliaa

namespace Go.Proofs.Ytlkiajepahkliaa
open Go.RowKit Go.Shelf
set_option linter.unusedVariables false
set_option linter.unusedSimpArgs false
attribute [local go_sem] Oper.semAt_some

def edgeVal (x : Int × Int) : Value := .agg #[.int .u64 x.1, .int .i64 x.2]

/-- What has come when k rounds are over. -/
def upto {α : Type} (f : Nat → α) (k : Nat) : List α := (List.range k).map f
theorem upto_succ {α : Type} (f : Nat → α) (k : Nat) : upto f (k + 1) = upto f k ++ [f k] := by simp [upto, List.range_succ]
theorem upto_length {α : Type} (f : Nat → α) (k : Nat) : (upto f k).length = k := by simp [upto]
theorem upto_all {α : Type} (d : α) (zs : List α) : upto (fun j => zs[j]?.getD d) zs.length = zs := by
  apply List.ext_getElem
  · simp [upto]
  · intro i h1 h2
    simp [upto, h2]
theorem upto_take {α : Type} (d : α) (zs : List α) {k : Nat} (hk : k ≤ zs.length) : upto (fun j => zs[j]?.getD d) k = zs.take k := by
  apply List.ext_getElem
  · simp [upto, hk]
  · intro i h1 h2
    have : i < zs.length := by simp [upto] at h1; omega
    simp [upto, this]

set_option maxRecDepth 100000 in
set_option maxHeartbeats 2000000 in
theorem values1_in (F : Fence) (n : Nat) (hf : F.fn 139) (hro : F.round = none) (hn : 1 ≤ n) (l Bs n₀ b off len cap : Nat) (zs : List (Int × Int)) (hreach : len * 16 ≤ 140737488351232) (hb : b < n₀) (J Jx : List (Int × Int) → World → Prop)
    (hY : ∀ pre x W, J pre W → pre.length < len → YieldAt F (n - 1) Try.prog l #[.agg #[.int .u64 x.1, .int .i64 x.2]] W fun e W' =>
      (e = .returned (.bool true) ∧ J (pre ++ [x]) W' ∧ Below n₀ W W') ∨ (e = .returned (.bool false) ∧ Jx (pre ++ [x]) W'))
    (W : World) (hBs : W.cell? ⟨Bs, 0, none⟩ = some (.slice (some ⟨b, off, none⟩) len cap)) (hJA : ∀ pre W o, J pre W → J pre (W.alloc o)) (hnW : n₀ ≤ W.heap.size)
    (hc : ∀ j, j < len → W.cell? ⟨b, off + j * 2, none⟩ = some (.int .u64 (zs[j]?.getD (0, 0)).1) ∧ W.cell? ⟨b, off + j * 2 + 1, none⟩ = some (.int .i64 (zs[j]?.getD (0, 0)).2)) (h0 : J [] W) :
    CallsIn F n Try.prog 139 #[.func (.yield l) #[] #[], .pointer (some ⟨Bs, 0, none⟩)] W fun e W' => (∃ v, e = .returned v) ∧
      ((∃ ys, ys = upto (fun j => zs[j]?.getD (0, 0)) len ∧ J ys W') ∨ (∃ pre, (∃ k, k ≤ len ∧ pre = upto (fun j => zs[j]?.getD (0, 0)) k) ∧ Jx pre W')) := by
  refine callsIn_of_wp Try.func139 rfl hf ?_ hro
  simp only [Try.ntmps139, List.size_toArray, List.length_cons, List.length_nil, Nat.reduceAdd, Nat.reduceSub, Array.replicate_succ, Array.replicate_zero, List.push_toArray, List.append_toArray, List.nil_append, List.cons_append]
  gi_wp2
  gi_loopw [7] (fun i wr => ∃ k : Nat, k ≤ len ∧ i = .int .i64 k ∧ J (upto (fun j => zs[j]?.getD (0, 0)) k) wr ∧ Below n₀ W wr)
    (fun i _ => len - (intOf i).toNat)
  case atStart => exact ⟨0, Nat.zero_le _, rfl, h0, Below.refl _ _⟩
  case round =>
    obtain ⟨k, hk, rfl, hJs, hnx⟩ := hrel
    by_cases hlt : k < len
    · have hcx := hc k hlt
      have hcx1 := (hnx.cell (p := ⟨b, off + k * 2, none⟩) hb).trans hcx.1
      have hcx2 := (hnx.cell (p := ⟨b, off + k * 2 + 1, none⟩) hb).trans hcx.2
      obtain ⟨fn, tmps, assign, body, hy, hR⟩ := hY _ (zs[k]?.getD (0, 0)) _ (hJA _ _ (.cells #[.int .u64 (zs[k]?.getD (0, 0)).1, .int .i64 (zs[k]?.getD (0, 0)).2] 136) hJs) (by rw [upto_length]; exact hlt)
      gi_wp2
      refine hR.mono ?_
      rintro e W3 (⟨rfl, hJ3, hk3⟩ | ⟨rfl, hJx3⟩)
      · -- THE ROUND GOES ON
        gi_wp2
        go_roundw
        case rel => exact ⟨k + 1, by omega, by simp, by rw [upto_succ]; exact hJ3, hnx.trans ((((Below.refl _ _).alloc (Nat.le_trans hnW hnx.size) _)).trans hk3)⟩
        case measure => simp [intOf]; omega
      · gi_wp2
        refine bodyPost_ret (results_none rfl _ _ _) rfl ?_
        exact ⟨⟨_, rfl⟩, .inr ⟨_, ⟨k + 1, by omega, (upto_succ _ _).symm⟩, hJx3⟩⟩
    · obtain rfl : k = len := by omega
      gi_wp2
      go_end0
      exact ⟨⟨_, rfl⟩, .inl ⟨_, rfl, hJs⟩⟩

set_option maxRecDepth 100000 in
set_option maxHeartbeats 1000000 in
/-- .. at the nil slice: no round. -/
theorem values1_nil_in (F : Fence) (n : Nat) (hf : F.fn 139) (hro : F.round = none) (l Bs c : Nat) (A : Option Addr) (J : List (Int × Int) → World → Prop) (W : World) (hBs : W.cell? ⟨Bs, 0, none⟩ = some (.slice A 0 c)) (h0 : J [] W) :
    CallsIn F n Try.prog 139 #[.func (.yield l) #[] #[], .pointer (some ⟨Bs, 0, none⟩)] W fun e W' => (∃ v, e = .returned v) ∧ J [] W' := by
  refine callsIn_of_wp Try.func139 rfl hf ?_ hro
  simp only [Try.ntmps139, List.size_toArray, List.length_cons, List.length_nil, Nat.reduceAdd, Nat.reduceSub, Array.replicate_succ, Array.replicate_zero, List.push_toArray, List.append_toArray, List.nil_append, List.cons_append]
  gi_wp2
  gi_loopw [7] (fun i wr => i = .int .i64 0 ∧ J [] wr) (fun _ _ => 0)
  case atStart => exact ⟨rfl, h0⟩
  case round =>
    obtain ⟨rfl, hJs⟩ := hrel
    gi_wp2
    go_end0
    exact ⟨⟨_, rfl⟩, hJs⟩

set_option maxHeartbeats 1000000 in
theorem values_calls (a : Option Addr) (len cap : Nat) (w : World) :
    Calls Try.prog 113 #[.slice a len cap] w fun e w' => e = .returned (.func (.func 139) #[] #[.pointer (some ⟨w.heap.size, 0, none⟩)]) ∧ w' = w.alloc (.cells #[.slice a len cap] 126) := by
  go_enter Try.func113, Try.ntmps113
  go_wp2
  go_ret
  exact ⟨rfl, rfl⟩

/-- A row of edges that is read, in a block below n₀. -/
def EdgesLow (n₀ : Nat) (W : World) (sv : Value) (zs : List (Int × Int)) : Prop :=
  ∃ A c, sv = .slice A zs.length c ∧ (zs = [] ∨ ∃ b off, A = some ⟨b, off, none⟩ ∧ b < n₀ ∧
    ∀ j, j < zs.length → W.cell? ⟨b, off + j * 2, none⟩ = some (.int .u64 (zs[j]?.getD (0, 0)).1) ∧ W.cell? ⟨b, off + j * 2 + 1, none⟩ = some (.int .i64 (zs[j]?.getD (0, 0)).2))
theorem EdgesLow.below {n₀ : Nat} {A B : World} (h : Below n₀ A B) {sv : Value} {zs : List (Int × Int)} : EdgesLow n₀ A sv zs → EdgesLow n₀ B sv zs := by
  rintro ⟨A1, c, rfl, h0 | ⟨b, off, hA, hb, hc⟩⟩
  · exact ⟨A1, c, rfl, .inl h0⟩
  · exact ⟨A1, c, rfl, .inr ⟨b, off, hA, hb, fun j hj => ⟨(h.cell (p := ⟨b, off + j * 2, none⟩) hb).trans (hc j hj).1, (h.cell (p := ⟨b, off + j * 2 + 1, none⟩) hb).trans (hc j hj).2⟩⟩⟩

theorem values_stops (F : Fence) (n : Nat) (hf : F.fn 139) (hro : F.round = none) (hn : 1 ≤ n) (Bs n₀ : Nat) (sv : Value) (zs : List (Int × Int)) (hreach : zs.length * 16 ≤ 140737488351232) (w : World) (hBs : Bs < w.heap.size) (hn₀ : n₀ ≤ w.heap.size)
    (hc : w.cell? ⟨Bs, 0, none⟩ = some sv) (hI : EdgesLow n₀ w sv zs) :
    SeqStopsK F n Try.prog 139 #[.pointer (some ⟨Bs, 0, none⟩)] (fun x : Int × Int => #[.agg #[.int .u64 x.1, .int .i64 x.2]]) (Below n₀) (fun ys => ys = zs) (fun pre => pre <+: zs) zs.length w := fun l J Jx W hW hJ _ hY h0 => by
  have hc' := (hW.cell (p := ⟨Bs, 0, none⟩) hBs).trans hc
  have hsz := hW.size
  obtain ⟨A1, c, rfl, rfl | ⟨b, off, rfl, hb, hcs⟩⟩ := hI.below (hW.mono hn₀)
  · exact (values1_nil_in F n hf hro l Bs c A1 J W hc' h0).mono fun e W' ⟨he, hj⟩ => ⟨he, .inl ⟨_, rfl, hj⟩⟩
  · refine (values1_in F n hf hro hn l Bs n₀ b off zs.length c zs hreach hb J Jx hY W hc' (fun pre W1 o h1 => ?_) (by omega) hcs h0).mono ?_
    · exact hJ pre W1 (W1.alloc o) none h1 (World.grownBy_alloc W1 o none) (fun r e => by cases e)
    · rintro e W' ⟨he, ⟨ys, rfl, hj⟩ | ⟨pre, ⟨k, hk, rfl⟩, hj⟩⟩
      · exact ⟨he, .inl ⟨_, upto_all _ zs, hj⟩⟩
      · exact ⟨he, .inr ⟨_, by rw [upto_take _ zs hk]; exact List.take_prefix _ _, hj⟩⟩
end Go.Proofs.Ytlkiajepahkliaa

namespace Go.Proofs.Ytlkiajepahkliaa
open Go.RowKit Go.Shelf
set_option linter.unusedVariables false
set_option linter.unusedSimpArgs false
attribute [local go_sem] Oper.semAt_some

theorem infoPixel : (Try.prog.info? 73).map (fun i => (i.zero, i.size, i.bytes)) = some (some (.int .u64 0), 1, 8) := by kernel_rfl

theorem Own.of_base {w : World} {base e size n : Nat} {v : Value} {xs : List Value} (h : w.ownsRow base e size v n xs) : Own w e size v n xs (fun k => base ≤ k) := by
  refine ⟨⟨h.1, ?_⟩, fun k hk => (h.lt k hk).1⟩
  rcases h.2 with h2 | ⟨g, cap, cur, rfl, hg, hh, r⟩
  · exact .inl h2
  · exact .inr ⟨g, cap, cur, rfl, Nat.zero_le _, hh, r⟩

theorem EdgesLow.of_own {w : World} {v : Value} {l : List (Int × Int)} {S : Nat → Prop} (h : Own w 136 2 v l.length (edgeCells l) S) : EdgesLow w.heap.size w v l := by
  obtain ⟨A, c, hv, hc, _, hr⟩ := h.shape
  refine ⟨A, c, hv, ?_⟩
  rcases hr with h0 | ⟨g, hA, _, hg, hr⟩
  · exact .inl (List.eq_nil_of_length_eq_zero h0)
  · refine .inr ⟨g, 0, hA, hg, fun i hi => ?_⟩
    have h1 := edgeCells_get l i hi
    rw [Nat.zero_add, (hr (i * 2) (by omega)).1, (hr (i * 2 + 1) (by omega)).1, h1.1, h1.2]
    simp

/-- A block of cells is kept by what turns blocks that are none. -/
theorem block_own {β : Type} (B : Nat) (t : TypeId) (f : β → Array Value) : Go.Own (fun s W => W.heap[B]? = some (.cells (f s) t (0, 0))) := fun s X Y row hs hg hrow =>
  Eq.trans (b := X.heap[B]?) (hg.block B (Array.getElem?_eq_some_iff.1 hs).1 (fun e' => by obtain ⟨o, ho, hc⟩ := hrow B e'.symm; rw [show X.heap[B]? = _ from hs] at ho; cases ho; cases hc)) hs

/-- The numbers of a node's children; none of none. -/
def TTree.kidsOf (T : TTree) (n : Int) : List Int := if inB T n = true then (T.kids n.toNat).map (·.1) else []

set_option maxRecDepth 100000 in
set_option maxHeartbeats 4000000 in
theorem kids_calls (bt : Nat) (T : TTree) (col : Nat → Option Nat) (n : Int) (w : World) (h : TreeAt w bt T col) (ok : TreeOk T) :
    Calls Try.prog 80 #[.pointer (some ⟨bt, 0, none⟩), .int .i64 n] w fun e w' =>
      ∃ A c, e = .returned (.slice A (T.kidsOf n).length c) ∧ Own w' 73 1 (.slice A (T.kidsOf n).length c) (T.kidsOf n).length (intCells .u64 (T.kidsOf n)) (fun k => w.heap.size ≤ k) ∧ Below w.heap.size w w' := by
  have h' := Lib.hid h
  have ok' := Lib.hid ok
  by_cases hin : inB T n = true
  · have hn : 0 ≤ n ∧ n < T.nodes.length := of_decide_eq_true hin
    obtain ⟨m, rfl⟩ : ∃ m : Nat, n = m := ⟨n.toNat, by omega⟩
    have hm : m < T.nodes.length := by omega
    have hwo : T.kidsOf m = (T.kids m).map (·.1) := by unfold TTree.kidsOf; rw [if_pos hin]; rfl
    rw [hwo]
    have hin' := Lib.hid hin
    obtain ⟨g, c, hc, hcl, hcm, hr⟩ := h.cells ok.pos
    obtain ⟨kv, wv, _, _, _, h4, h5, hk, _⟩ := hr m hm
    obtain ⟨A4, c4, hkv, _⟩ := hk.shape
    subst hkv
    have hnl := ok.le
    have hnk := ok.few m hm
    have hrow := Lib.hid (EdgesLow.of_own hk)
    obtain ⟨i0, hi, hz0, hz1, hz2⟩ := info_parts infoPixel
    have hc2 := Lib.hid hc
    have h42 := Lib.hid h4
    have hblt := Lib.hid (World.block_lt_of_cell? w _ hc)
    have hglt := Lib.hid (World.block_lt_of_cell? w _ h4)
    clear h ok hin hr hk hwo hc h4 h5
    refine callsIn_wide.1 (?_ : CallsIn Fence.wide 5 _ _ _ _ _)
    refine callsIn_of_wp_marks Try.func80 rfl trivial ?_ rfl
    simp only [Try.ntmps80, List.size_toArray, List.length_cons, List.length_nil, Nat.reduceAdd, Nat.reduceSub, Array.replicate_succ, Array.replicate_zero, List.push_toArray, List.append_toArray, List.nil_append, List.cons_append]
    have hB1 : Below w.heap.size w (w.alloc (.cells #[.slice none 0 0] 27)) := (Below.refl _ w).alloc (Nat.le_refl _) _
    have hc3 := (hB1.cell hblt.out).trans hc2.out
    have h43 := (hB1.cell hglt.out).trans h42.out
    gi_wp2_with (first
      | (refine ⟨trivial, ?_⟩; gi_at_call 97; refine (callsIn_wide.2 (in_calls bt T col m _ h'.out ok'.out)).mono ?_; rintro e w' ⟨rfl, rfl⟩; rw [hin'.out])
      | (refine ⟨trivial, ?_⟩; gi_at_call 113; refine (callsIn_wide.2 (values_calls _ _ _ _)).mono ?_; rintro e w' ⟨rfl, rfl⟩))
    have bO := Boxed.new w 27 (.slice none 0 0)
    have bN := Boxed.new (w.alloc (.cells #[.slice none 0 0] 27)) 126 (.slice A4 (T.kids m).length c4)
    rw [World.size_alloc] at bN
    have hB0 : Below w.heap.size w ((w.alloc (.cells #[.slice none 0 0] 27)).alloc (.cells #[.slice A4 (T.kids m).length c4] 126)) := hB1.alloc (by simp) _
    have hrow0 := hrow.out.below hB0
    have hsz : ((w.alloc (.cells #[.slice none 0 0] 27)).alloc (.cells #[.slice A4 (T.kids m).length c4] 126)).heap.size = w.heap.size + 2 := by simp
    have bO2 := bO.alloc (.cells #[.slice A4 (T.kids m).length c4] 126)
    obtain ⟨W0, hW0⟩ : ∃ W0, ((w.alloc (.cells #[.slice none 0 0] 27)).alloc (.cells #[.slice A4 (T.kids m).length c4] 126)) = W0 := ⟨_, rfl⟩
    rw [hW0] at bN hB0 hrow0 hsz bO2 ⊢
    clear hW0
    have hbb : w.heap.size ≠ bt ∧ w.heap.size ≠ g := by have h1 : bt < w.heap.size := hblt.out; have h2 : g < w.heap.size := hglt.out; omega
    refine wpIn_rangeFunc_ownH rfl (by decide) (gf := 139) (lb := #[.pointer (some ⟨w.heap.size + 1, 0, none⟩)]) rfl trivial (enters_of Try.func139 (by kernel_rfl) rfl)
      (values_stops Fence.wide 4 trivial rfl (by decide) (w.heap.size + 1) w.heap.size _ (T.kids m) (by omega) W0 (by omega) (by omega) bN.cell hrow0) belowK_t (belowK_b (by omega)) (Below.refl _ _) (fun _ => rfl)
      (fun pre W => (∃ v, Boxed W w.heap.size 27 v ∧ W.ownsRow w.heap.size 73 1 v pre.length (pre.map fun x => .int .u64 x.1) ∧ True) ∧ Below w.heap.size w W)
      (fun _ _ _ => False)
      (OwnFrom.and (Go.Own.from (holdsRow_own w.heap.size w.heap.size 27 73 1 (fun pre : List (Int × Int) => pre.length) (fun pre => pre.map fun x => .int .u64 x.1) (fun pre v => True)) _) (ownFrom_below (Nat.le_refl _) (by omega)))
      (fun _ _ _ _ _ hs _ _ => hs)
      ⟨⟨_, bO2, World.ownsRow_nil _ _ _ _, trivial⟩, hB0⟩
      (fun x a' W => ∃ Bx, w.heap.size < Bx ∧ W.heap[Bx]? = some (.cells #[.int .u64 x.1, .int .i64 x.2] 136 (0, 0)) ∧ a' = { tmps := #[.pointer (some ⟨bt, 0, none⟩), .int .i64 m, undef, undef, .slice none 0 0, .pointer (some ⟨w.heap.size, 0, none⟩), .pointer (some ⟨Bx, 0, none⟩), .pointer (some ⟨bt, 0, none⟩), .int .i64 m, .bool true, .bool false, .pointer (some ⟨bt, 0, none⟩), .pointer (some ⟨bt, 0, none⟩), .pointer (some ⟨bt, 0, none⟩), .slice (some ⟨g, 0, none⟩) T.nodes.length c, .int .i64 m, .pointer (some ⟨g, m * 5, none⟩), .pointer (some ⟨g, m * 5 + 3, none⟩), .slice A4 (T.kids m).length c4, .func (.func 139) #[] #[.pointer (some ⟨w.heap.size + 1, 0, none⟩)], .agg #[.int .u64 x.1, .int .i64 x.2], undef, undef, undef, undef, undef, undef], defers := [] })
      (fun x a' _ X Y row hs hg hr => by obtain ⟨Bx, h1, h2, h3⟩ := hs; exact ⟨Bx, h1, block_own Bx 136 (fun (_ : Unit) => #[Value.int .u64 x.1, .int .i64 x.2]) () X Y row h2 hg (fun r e => (hr r e).2), h3⟩)
      ?assign ?body ?done ?stop
    case assign =>
      rintro l pre x W K ⟨⟨v, hv, hvr, _⟩, hB2⟩ hK
      gi_wp2
      refine hK _ _ ((KeepsOthers.alloc _ _).from _) ((Below.refl _ W).alloc hB2.size _) ⟨⟨v, hv.alloc _, hvr.alloc _, trivial⟩, hB2.alloc hB2.size _⟩ ⟨W.heap.size, hv.lt, World.alloc_heap_new W _, rfl⟩
    case body =>
      rintro l pre x a' W hl ⟨r, hr⟩ ⟨⟨v, hv, hvr, _⟩, hB2⟩ ⟨Bx, hBx, bX, rfl⟩ hlt
      have hc0 := hv.cell
      have hx0 : W.cell? ⟨Bx, 0, none⟩ = some (.int .u64 x.1) := by simp [World.cell?, bX]
      gi_wp2_with (gi_at_builtin; refine wpListIn_append_own _ rfl _ _ 27 rfl w.heap.size 73 i0 (.int .u64 0) 1 8 Try.underlying27 hi hz0 hz1 hz2 rfl (by decide) _ _ _ rfl (hvr.alloc _) ⟨W.heap.size, 0, none⟩ 1 1 [.int .u64 x.1] rfl rfl (cell_one_new _ _ _) (by simp [Value.oneCell']) (by unfold maxLen; omega) (by omega) (by have := hB2.size; simp; omega) ?_; intro v' w1 hown' hgrow _; obtain ⟨g', cap', rfl⟩ := ownsRow_succ hown'; obtain ⟨hv1, hv2, hr2, hk2, hb2⟩ := hv.appended (by decide) hvr hB2.size (Nat.le_refl _) hown' hgrow; have hc1 := hv1.cell; have hf1 := hv1.frozen)
      exact ⟨hk2.from _, hb2, ⟨_, hv2, by simpa using hr2, trivial⟩, hB2.trans hb2⟩
    case done =>
      rintro D ys W hD rfl ⟨⟨v, hv, hvr, _⟩, hB2⟩ hK
      have hc0 := hv.cell
      gi_wp2
      refine ⟨by simp, .inl ⟨_, _, rfl, run_takeDeferred hK, ?_⟩⟩
      obtain ⟨Av, cv, rfl⟩ := ownsRow_slice hvr
      have hvr' := Own.of_base (ownsRow_putObj hvr (.deferred none) hK rfl)
      have el : intCells .u64 ((T.kids m).map (·.1)) = (T.kids m).map fun x => Value.int .u64 x.1 := by simp [intCells, Function.comp_def]
      refine ⟨_, results_tmp rfl _ _ _, Av, cv, by rw [List.length_map]; rfl, by rw [el, List.length_map]; exact hvr', hB2.trans (belowK_b (w := w) (Nat.le_refl _) W D _ _ (by omega) hK rfl rfl)⟩
    case stop =>
      rintro D c pre W _ _ h _
      exact h.elim
  · have hwo : T.kidsOf n = [] := by unfold TTree.kidsOf; rw [if_neg hin]
    rw [hwo]
    have hin' := Lib.hid (Bool.eq_false_iff.2 hin)
    clear h ok hin hwo
    refine callsIn_wide.1 (?_ : CallsIn Fence.wide 5 _ _ _ _ _)
    refine callsIn_of_wp_marks Try.func80 rfl trivial ?_ rfl
    simp only [Try.ntmps80, List.size_toArray, List.length_cons, List.length_nil, Nat.reduceAdd, Nat.reduceSub, Array.replicate_succ, Array.replicate_zero, List.push_toArray, List.append_toArray, List.nil_append, List.cons_append]
    gi_wp2_with (refine ⟨trivial, ?_⟩; gi_at_call 97; refine (callsIn_wide.2 (in_calls bt T col n _ h'.out ok'.out)).mono ?_; rintro e w' ⟨rfl, rfl⟩; rw [hin'.out])
    exact ⟨_, results_tmp rfl _ _ _, none, 0, rfl, Own.nil _ _ _ _, Below.refl _ _⟩
end Go.Proofs.Ytlkiajepahkliaa
