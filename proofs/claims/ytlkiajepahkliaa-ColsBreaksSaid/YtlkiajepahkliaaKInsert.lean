/- slices.Insert of one edge: what the call answers and what becomes of the row. The tree of words as plain data, and how it lies in memory. What the tree's calls that only read answer: in, Len, at, Child, Walk. What the tree's calls that write do: Put. Plain facts on trees: what a walk comes to, and that a tree to which a child or a word is added is one again. -/
import Derived.Test.YtlkiajepahkliaaKTreeA
import Derived.Lib.Overlaps
import Derived.Lib.AppendZerosOnto
import Derived.Lib.JoinLaws
import Derived.Laws.Externs
import Derived.Deep.RegionLaw
import Derived.Shelf.Spec.SlicesInsert
namespace Go.Proofs.Ytlkiajepahkliaa
open Go.RowKit
set_option linter.unusedVariables false
set_option linter.unusedSimpArgs false

theorem infoEdge : (Try.prog.info? 136).map (fun i => (i.zero, i.size, i.bytes)) = some (some (.agg #[.int .u64 0, .int .i64 0]), 2, 16) := by kernel_rfl

/-- One element more at place i. -/
def insAt {α : Type} (l : List α) (i : Nat) (x : α) : List α := l.take i ++ x :: l.drop i

theorem edgeCells_append (a b : List (Int × Int)) : edgeCells (a ++ b) = edgeCells a ++ edgeCells b := by simp [edgeCells]
theorem edgeCells_length (l : List (Int × Int)) : (edgeCells l).length = l.length * 2 := by
  induction l with
  | nil => rfl
  | cons x l ih => simp only [edgeCells, List.flatMap_cons, List.length_append, List.length_cons, List.length_nil] at ih ⊢; omega
theorem edgeCells_take (l : List (Int × Int)) (i : Nat) : edgeCells (l.take i) = (edgeCells l).take (i * 2) := by
  induction l generalizing i with
  | nil => simp [edgeCells]
  | cons x l ih =>
    cases i with
    | zero => simp [edgeCells]
    | succ i =>
      have := ih i
      simp only [edgeCells] at this ⊢
      rw [List.take_succ_cons, List.flatMap_cons, List.flatMap_cons, this, show (i + 1) * 2 = i * 2 + 2 by omega]
      simp
theorem edgeCells_drop (l : List (Int × Int)) (i : Nat) : edgeCells (l.drop i) = (edgeCells l).drop (i * 2) := by
  induction l generalizing i with
  | nil => simp [edgeCells]
  | cons x l ih =>
    cases i with
    | zero => simp [edgeCells]
    | succ i =>
      have := ih i
      simp only [edgeCells] at this ⊢
      rw [List.drop_succ_cons, List.flatMap_cons, this, show (i + 1) * 2 = i * 2 + 2 by omega]
      simp
theorem edgeCells_get (l : List (Int × Int)) (i : Nat) (h : i < l.length) : (edgeCells l)[i * 2]? = some (.int .u64 (l.getD i (0, 0)).1) ∧ (edgeCells l)[i * 2 + 1]? = some (.int .i64 (l.getD i (0, 0)).2) := by
  induction l generalizing i with
  | nil => simp at h
  | cons x l ih =>
    cases i with
    | zero => simp [edgeCells]
    | succ i =>
      have := ih i (by simpa using h)
      simp only [edgeCells] at this ⊢
      rw [List.flatMap_cons, show (i + 1) * 2 = i * 2 + 2 by omega, show i * 2 + 2 + 1 = i * 2 + 1 + 2 by omega]
      simpa using this
theorem edgeCells_one (l : List (Int × Int)) : ∀ u ∈ edgeCells l, u.oneCell' = true := by
  intro u hu
  simp only [edgeCells, List.mem_flatMap] at hu
  obtain ⟨x, _, hx⟩ := hu
  simp at hx
  rcases hx with rfl | rfl <;> rfl

theorem EdgeRow.of_own {w : World} {v : Value} {l : List (Int × Int)} {S : Nat → Prop} (h : Own w 136 2 v l.length (edgeCells l) S) : EdgeRow w v l := by
  obtain ⟨A, c, hv, hc, _, hr⟩ := h.shape
  refine ⟨A, c, hv, hc, ?_⟩
  rcases hr with h0 | ⟨g, hA, _, _, hr⟩
  · exact .inl h0
  · refine .inr ⟨g, 0, hA, fun i hi => ?_⟩
    obtain ⟨h1, h2⟩ := edgeCells_get l i hi
    rw [Nat.zero_add, ← h1, ← h2]
    exact ⟨(hr _ (by omega)).1, (hr _ (by omega)).1⟩

theorem edge_cells_of {w : World} {bv : Nat} {p t : Int} (hb : w.heap[bv]? = some (.cells #[.int .u64 p, .int .i64 t] 136 (0, 0))) :
    ∀ j u, [Value.int .u64 p, .int .i64 t][j]? = some u → w.cell? ((⟨bv, 0, none⟩ : Addr).add j) = some u := by
  intro j u hj
  rw [addr_add, cell_of_row w bv _ _ _ (0, 0) hb, Nat.zero_add]
  match j, hj with
  | 0, hj => simpa using hj
  | 1, hj => simpa using hj
theorem edge_one (p t : Int) : ∀ u ∈ [Value.int .u64 p, .int .i64 t], u.oneCell' = true := by
  intro u hu
  simp at hu
  rcases hu with rfl | rfl <;> rfl

set_option maxRecDepth 100000 in
set_option maxHeartbeats 1000000 in
theorem insert_end (v : Value) (l : List (Int × Int)) (p t : Int) (bv : Nat) (w : World)
    (ho : w.ownsRow 0 136 2 v l.length (edgeCells l)) (hl : l.length ≤ 1099511627776)
    (hb : w.heap[bv]? = some (.cells #[.int .u64 p, .int .i64 t] 136 (0, 0))) :
    Calls Try.prog 78 #[v, .int .i64 l.length, .slice (some ⟨bv, 0, none⟩) 1 1] w fun e w' =>
      ∃ v', e = .returned v' ∧ w'.ownsRow 0 136 2 v' (l.length + 1) (edgeCells (l ++ [(p, t)])) ∧ w.grownBy w' v.ownBlock ∧ (v'.ownBlock = v.ownBlock ∨ v'.ownBlock = some w.heap.size) := by
  obtain ⟨i0, hi0, hz0, hzs, hzb⟩ := info_parts infoEdge
  obtain ⟨A, c, rfl, hc, hcm⟩ : ∃ A c, v = .slice A l.length c ∧ l.length ≤ c ∧ c ≤ maxLen := by
    rcases ho.2 with ⟨rfl, h0⟩ | ⟨g, cap, cur, rfl, _, _, h1, h2, _⟩
    · exact ⟨none, 0, by rw [h0], by omega, by simp [maxLen]⟩
    · exact ⟨_, cap, rfl, h1, h2⟩
  unfold maxLen at hcm
  have ho' := Lib.hid ho
  have hb' := Lib.hid hb
  clear ho hb
  have hz1 : ((l.length : Int) == (l.length : Int)) = true := by simp
  have c1 : Hid (∀ j u, [Value.int .u64 p, .int .i64 t][j]? = some u → w.cell? ((⟨bv, 0, none⟩ : Addr).add j) = some u) := edge_cells_of hb'.out
  have c2 : Hid (∀ u ∈ [Value.int .u64 p, .int .i64 t], u.oneCell' = true) := edge_one p t
  have c3 : l.length + 1 ≤ maxLen := by unfold maxLen; omega
  by_cases hcl : c = l.length
  all_goals
    go_enter Try.func78, Try.ntmps78
    go_wp2_with (at_builtin; refine wpList_append_own_at _ rfl _ _ 126 rfl 0 136 i0 (.agg #[.int .u64 0, .int .i64 0]) 2 16 Try.underlying126 hi0 hz0 hzs hzb rfl (by decide) _ l.length (edgeCells l) rfl ho'.out ⟨bv, 0, none⟩ 1 1 [.int .u64 p, .int .i64 t] rfl rfl c1.out c2.out c3 (by omega) (Nat.zero_le _) ?_; intro v' w1 hown hg hnn hat; clear hnn)
    go_ret
    refine ⟨v', rfl, ?_, hg, hat⟩
    rw [edgeCells_append]
    exact hown

set_option maxRecDepth 100000 in
set_option maxHeartbeats 1000000 in
theorem insert_grow (g : Nat) (l : List (Int × Int)) (n c i : Nat) (p t : Int) (bv : Nat) (w : World) (cur : Array Value)
    (hn : l.length = n) (hg : w.heap[g]? = some (.cells cur 136 (0, 0))) (hcs : cur.size = c * 2) (hcur : cur.toList.take (n * 2) = edgeCells l) (hi : i < n) (hc : n ≤ c) (hroom : c < n + 1) (hl : n ≤ 1099511627776)
    (hb : w.heap[bv]? = some (.cells #[.int .u64 p, .int .i64 t] 136 (0, 0))) :
    Calls Try.prog 78 #[.slice (some ⟨g, 0, none⟩) n c, .int .i64 i, .slice (some ⟨bv, 0, none⟩) 1 1] w fun e w' =>
      ∃ v', e = .returned v' ∧ w'.ownsRow 0 136 2 v' (n + 1) (edgeCells (insAt l i (p, t))) ∧ w.grownBy w' none ∧ v'.ownBlock = some w.heap.size := by
  obtain ⟨i0, hi0, hz0, hzs, hzb⟩ := info_parts infoEdge
  have hgw : g < w.heap.size := (Array.getElem?_eq_some_iff.1 hg).1
  have hbw : bv < w.heap.size := (Array.getElem?_eq_some_iff.1 hb).1
  have hel := edgeCells_length l
  have hold : (Builtin.firstCells i0.size i (.slice (some ⟨g, 0, none⟩) i c)).run Try.prog w.drew = .ok ((edgeCells l).take (i * 2)).toArray w.drew := by
    rw [hzs]
    refine run_firstCells_some w.drew 2 i ⟨g, 0, none⟩ i c _ (by rw [List.length_take]; omega) (fun j v hj => ?_)
    rw [addr_add, cell_of_row w.drew g _ cur _ (0, 0) hg, Nat.zero_add]
    rw [List.getElem?_take] at hj
    split at hj
    · rw [← hcur, List.getElem?_take] at hj
      split at hj
      · simpa using hj
      · cases hj
    · cases hj
  obtain ⟨G, hG⟩ : ∃ G, G = grownCap w (n + 1) c 136 := ⟨_, rfl⟩
  obtain ⟨ROW, hROW⟩ : ∃ ROW : Array Value, ROW = ((edgeCells l).take (i * 2)).toArray ++ Builtin.zeroCells (Value.agg #[.int .u64 0, .int .i64 0]).cells (n + 1 - i) ++ Builtin.zeroCells (Value.agg #[.int .u64 0, .int .i64 0]).cells (G - (n + 1)) := ⟨_, rfl⟩
  have hGn : n + 1 ≤ G := by rw [hG]; exact grownCap_ge w _ _ _
  have hG63 : G ≤ maxLen := by rw [hG]; exact grownCap_le_maxLen w (n + 1) c 136 (by unfold maxLen; omega)
  have hRs : ROW.size = G * 2 := by
    rw [hROW]
    simp [Builtin.zeroCells, Value.cells]
    omega
  have hkk : (n : Int) + 1 - (i : Int) = ((n + 1 - i : Nat) : Int) := by omega
  obtain ⟨W1, hW1⟩ : ∃ W1, W1 = w.drew.alloc (.cells ROW 136) := ⟨_, rfl⟩
  have hrz : ∀ ty, (Builtin.append_ #[126, 3] ty #[.slice (some ⟨g, 0, none⟩) i c, .int .i64 ((n : Int) + 1 - (i : Int))]).run Try.prog w =
      .ok (.slice (some ⟨w.heap.size, 0, none⟩) (n + 1) G) W1 := fun ty => by
    have h := Lib.run_append_grow_zeros w 126 3 ty 136 i0 _ .i64 .i64 Try.underlying126 Try.underlying3 hi0 hz0 (some ⟨g, 0, none⟩) i c _ hold (n + 1 - i) (by omega) (by omega) (by omega) (by omega) (by rw [hzb]; omega) (by rw [hzb, show i + (n + 1 - i) = n + 1 by omega]; exact growslice_fits hroom (by omega))
    rw [show i + (n + 1 - i) = n + 1 by omega] at h
    rw [hkk, h, hW1, hROW, hG]
  have h1 : W1.heap[w.heap.size]? = some (.cells ROW 136 (0, 0)) := by rw [hW1]; exact heap_alloc_new w.drew _
  have hm1 : w.grownBy W1 none := by rw [hW1]; exact ⟨rfl, rfl, rfl, by simp, fun k hk _ => heap_alloc_old w.drew _ hk⟩
  have hp2 := edge_one p t
  obtain ⟨R2, hR2⟩ : ∃ R2 : Array Value, R2 = (ROW.toList.take (i * 2) ++ [Value.int .u64 p, .int .i64 t] ++ ROW.toList.drop (i * 2 + 2)).toArray := ⟨_, rfl⟩
  obtain ⟨W2, hW2⟩ : ∃ W2, W2 = W1.setRow w.heap.size R2 := ⟨_, rfl⟩
  have hcpA : ∀ ty dc, (Builtin.copy_ #[126, 126] ty #[.slice (some ⟨w.heap.size, i * 2, none⟩) (n + 1 - i) dc, .slice (some ⟨bv, 0, none⟩) 1 1]).run Try.prog W1 = .ok (goInt 1) W2 := fun ty dc => by
    have h := run_copy_sized (P := Try.prog) W1 126 126 ty 136 i0 w.heap.size (i * 2) (n + 1 - i) dc ⟨bv, 0, none⟩ 1 1 1 ROW 136 [Value.int .u64 p, .int .i64 t] Try.underlying126 hi0 h1 (by simp only [Nat.min_def]; split <;> omega) (by rw [hzs]; rfl)
      (edge_cells_of (by rw [hm1.block bv hbw (by simp)]; exact hb)) (by simp; omega) hp2
    rw [h, hW2, hR2]
    rfl
  have hR2s : R2.size = G * 2 := by rw [hR2]; simp; omega
  have h2 : W2.heap[w.heap.size]? = some (.cells R2 136 (0, 0)) := by rw [hW2]; exact setRow_heap W1 _ _ _ _ _ h1
  have hm2 : w.grownBy W2 none := by
    rw [hW2]
    exact ⟨hm1.os, hm1.tape, hm1.output, by simpa [World.setRow] using hm1.size, fun k hk hne => (setRow_other _ _ _ _ (by omega)).trans (hm1.block k hk hne)⟩
  obtain ⟨R3, hR3⟩ : ∃ R3 : Array Value, R3 = (R2.toList.take ((i + 1) * 2) ++ (edgeCells l).drop (i * 2) ++ R2.toList.drop ((i + 1) * 2 + ((edgeCells l).drop (i * 2)).length)).toArray := ⟨_, rfl⟩
  obtain ⟨W3, hW3⟩ : ∃ W3, W3 = W2.drew.setRow w.heap.size R3 := ⟨_, rfl⟩
  have hcpB : ∀ ty dc sc, (Builtin.copy_ #[126, 126] ty #[.slice (some ⟨w.heap.size, (i + 1) * 2, none⟩) (n - i) dc, .slice (some ⟨g, i * 2, none⟩) (n - i) sc]).run Try.prog W2.drew = .ok (goInt (n - i : Nat)) W3 := fun ty dc sc => by
    have h := run_copy_sized (P := Try.prog) W2.drew 126 126 ty 136 i0 w.heap.size ((i + 1) * 2) (n - i) dc ⟨g, i * 2, none⟩ (n - i) sc (n - i) R2 136 ((edgeCells l).drop (i * 2)) Try.underlying126 hi0 h2 (by simp only [Nat.min_def]; split <;> omega) (by rw [hzs, List.length_drop]; omega)
      (fun j v hj => by
        rw [addr_add, cell_of_row W2.drew g _ cur _ (0, 0) (by show W2.heap[g]? = _; rw [hm2.block g hgw (by simp)]; exact hg)]
        rw [List.getElem?_drop, ← hcur, List.getElem?_take] at hj
        split at hj
        · simpa using hj
        · cases hj)
      (by rw [List.length_drop]; omega) (fun v hv => edgeCells_one l v (List.mem_of_mem_drop hv))
    rw [h, hW3, hR3]
  have h3 : W3.heap[w.heap.size]? = some (.cells R3 136 (0, 0)) := by rw [hW3]; exact setRow_heap W2.drew _ _ _ _ _ h2
  have hm3 : w.grownBy W3 none := by
    rw [hW3]
    exact ⟨hm2.os, hm2.tape, hm2.output, by simpa [World.setRow] using hm2.size, fun k hk hne => (setRow_other _ _ _ _ (by omega)).trans (hm2.block k hk hne)⟩
  have hfin : Hid (W3.ownsRow 0 136 2 (.slice (some ⟨w.heap.size, 0, none⟩) (n + 1) G) (n + 1) (edgeCells (insAt l i (p, t)))) := by
    have t1 : ROW.toList.take (i * 2) = (edgeCells l).take (i * 2) := by
      rw [hROW, Array.toList_append, Array.toList_append, List.append_assoc]
      exact List.take_left' (by rw [List.length_take]; omega)
    have t2 : R2.toList.take ((i + 1) * 2) = (edgeCells l).take (i * 2) ++ [Value.int .u64 p, .int .i64 t] := by
      rw [hR2, ← t1]
      exact List.take_left' (by simp; omega)
    have hlen : (edgeCells (insAt l i (p, t))).length = (n + 1) * 2 := by rw [edgeCells_length]; simp [insAt]; omega
    refine ⟨hlen, .inr ⟨w.heap.size, G, R3, rfl, Nat.zero_le _, h3, hGn, hG63, ?_, ?_⟩⟩
    · rw [hR3]; simp; omega
    · rw [hR3, t2]
      have e1 : edgeCells (insAt l i (p, t)) = (edgeCells l).take (i * 2) ++ [Value.int .u64 p, .int .i64 t] ++ (edgeCells l).drop (i * 2) := by
        rw [insAt, edgeCells_append, edgeCells_take, List.append_assoc]
        congr 1
        rw [← edgeCells_drop]
        rfl
      rw [e1]
      exact List.take_left' (by rw [← hlen, e1])
  have hA' := Lib.hid hcpA
  have hB' := Lib.hid hcpB
  have hr' := Lib.hid hrz
  have hGn' : (n : Int) + 1 ≤ (G : Int) := by omega
  unfold maxLen at hG63
  clear hcpA hcpB hrz hold hROW hRs hW1 h1 hm1 hp2 hR2 hW2 hR2s h2 hm2 hR3 hW3 h3 hG hkk hel hb hg hcs hcur hn
  have hz1 : ¬ ((i : Int) = (n : Int)) := by omega
  have hz2 : (c : Int) < (n : Int) + 1 := by omega
  have hz3 : ¬ (c = i) := by omega
  have hz4 : ¬ (G = i) := by omega
  have hz5 : ¬ (G = i + 1) := by omega
  have hin : i ≤ n := by omega
  have hw2 : (0 : Int) ≤ (i : Int) + 1 := by omega
  have hw3 : ((i : Int) + 1).toNat = i + 1 := by omega
  have hw4 : (i : Int) + 1 ≤ (n : Int) + 1 := by omega
  have hw1 : IntKind.i64.wrap ((i : Int) + 1) = (i : Int) + 1 := IntWalk.i64_in _ (by omega)
  go_enter Try.func78, Try.ntmps78
  go_wp2_with (first
    | (at_builtin; refine Lib.wpList_append_run _ rfl _ _ _ _ rfl _ _ rfl rfl _ _ (hr'.out _) ?_)
    | (refine wpList_copy_run _ rfl (.tmp 43) (.tmp 44) 126 126 rfl _ _ rfl rfl (hA'.out _ _) ?_))
  go_region_law (refine step_copy_runI rfl (.tmp 50) (.tmp 53) 126 126 rfl (.slice (some ⟨w.heap.size, (i + 1) * 2, none⟩) (n - i) (G - (i + 1))) (.slice (some ⟨g, i * 2, none⟩) (n - i) (c - i)) (by simp [Act.eval, Act.put]) (by simp [Act.eval, Act.put]) (hB'.out _ _ _) ?_)
  go_wp2
  go_ret
  exact ⟨_, rfl, hfin.out, hm3, rfl⟩

theorem sizeEdge (w : World) : (Go.sizeOf 136).run Try.prog w = .ok 2 w := by
  obtain ⟨i0, hi0, hz0, hzs, hzb⟩ := info_parts infoEdge
  simp [Go.sizeOf, typeInfo, hi0, hzs]

set_option maxRecDepth 100000 in
set_option maxHeartbeats 1000000 in
theorem insert_shift (g : Nat) (l : List (Int × Int)) (n c i : Nat) (p t : Int) (bv : Nat) (w : World) (cur : Array Value)
    (hn : l.length = n) (hg : w.heap[g]? = some (.cells cur 136 (0, 0))) (hcs : cur.size = c * 2) (hcur : cur.toList.take (n * 2) = edgeCells l) (hi : i < n) (hc : c ≤ maxLen) (hroom : n + 1 ≤ c) (hl : n ≤ 1099511627776)
    (hb : w.heap[bv]? = some (.cells #[.int .u64 p, .int .i64 t] 136 (0, 0))) (hne : bv ≠ g) :
    Calls Try.prog 78 #[.slice (some ⟨g, 0, none⟩) n c, .int .i64 i, .slice (some ⟨bv, 0, none⟩) 1 1] w fun e w' =>
      e = .returned (.slice (some ⟨g, 0, none⟩) (n + 1) c) ∧ w'.ownsRow 0 136 2 (.slice (some ⟨g, 0, none⟩) (n + 1) c) (n + 1) (edgeCells (insAt l i (p, t))) ∧ w.grownBy w' (some g) := by
  obtain ⟨i0, hi0, hz0, hzs, hzb⟩ := info_parts infoEdge
  have hgw : g < w.heap.size := (Array.getElem?_eq_some_iff.1 hg).1
  have hbw : bv < w.heap.size := (Array.getElem?_eq_some_iff.1 hb).1
  have hel := edgeCells_length l
  have hov : ∀ lb cb, (callFunc 111 #[.slice (some ⟨bv, 0, none⟩) 1 1, .slice (some ⟨g, (i + 1) * 2, none⟩) lb cb]).run Try.prog w = .ok (.value (.bool false)) w := fun lb cb => by
    rw [run_callFunc_extern Try.func111 (by kernel_rfl) (by kernel_rfl) (by kernel_rfl) (e := Extern.SlicesOverlaps.overlaps #[126, 126] #[4]) (by kernel_rfl),
      Lib.run_overlaps_apart w 126 4 136 Try.underlying126 2 sizeEdge ⟨bv, 0, none⟩ ⟨g, (i + 1) * 2, none⟩ 1 1 lb cb hne 136 136 2 cur.size (by simp [World.shape?, hb]) (by simp [World.shape?, hg]) (by omega) (by simp [World.frozen?, hb]) (by simp [World.frozen?, hb])]
    rfl
  obtain ⟨R1, hR1⟩ : ∃ R1 : Array Value, R1 = (cur.toList.take ((i + 1) * 2) ++ (edgeCells l).drop (i * 2) ++ cur.toList.drop ((i + 1) * 2 + ((edgeCells l).drop (i * 2)).length)).toArray := ⟨_, rfl⟩
  obtain ⟨W1, hW1⟩ : ∃ W1, W1 = w.drew.setRow g R1 := ⟨_, rfl⟩
  have hcpA : ∀ ty dc sc, (Builtin.copy_ #[126, 126] ty #[.slice (some ⟨g, (i + 1) * 2, none⟩) (n - i) dc, .slice (some ⟨g, i * 2, none⟩) (n + 1 - i) sc]).run Try.prog w.drew = .ok (goInt (n - i : Nat)) W1 := fun ty dc sc => by
    have h := run_copy_sized (P := Try.prog) w.drew 126 126 ty 136 i0 g ((i + 1) * 2) (n - i) dc ⟨g, i * 2, none⟩ (n + 1 - i) sc (n - i) cur 136 ((edgeCells l).drop (i * 2)) Try.underlying126 hi0 hg (by simp only [Nat.min_def]; split <;> omega) (by rw [hzs, List.length_drop]; omega)
      (fun j v hj => by
        rw [addr_add, cell_of_row w.drew g _ cur _ (0, 0) hg]
        rw [List.getElem?_drop, ← hcur, List.getElem?_take] at hj
        split at hj
        · simpa using hj
        · cases hj)
      (by rw [List.length_drop]; omega) (fun v hv => edgeCells_one l v (List.mem_of_mem_drop hv))
    rw [h, hW1, hR1]
  have hR1s : R1.size = c * 2 := by rw [hR1]; simp; omega
  have h1 : W1.heap[g]? = some (.cells R1 136 (0, 0)) := by rw [hW1]; exact setRow_heap w.drew _ _ _ _ _ hg
  have hm1 : w.grownBy W1 (some g) := by
    rw [hW1]
    exact ⟨rfl, rfl, rfl, by simp [World.setRow], fun k hk hne => setRow_other _ _ _ _ (by simpa using hne)⟩
  have hp2 := edge_one p t
  obtain ⟨R2, hR2⟩ : ∃ R2 : Array Value, R2 = (R1.toList.take (i * 2) ++ [Value.int .u64 p, .int .i64 t] ++ R1.toList.drop (i * 2 + 2)).toArray := ⟨_, rfl⟩
  obtain ⟨W2, hW2⟩ : ∃ W2, W2 = W1.setRow g R2 := ⟨_, rfl⟩
  have hcpB : ∀ ty dc, (Builtin.copy_ #[126, 126] ty #[.slice (some ⟨g, i * 2, none⟩) (n + 1 - i) dc, .slice (some ⟨bv, 0, none⟩) 1 1]).run Try.prog W1 = .ok (goInt 1) W2 := fun ty dc => by
    have h := run_copy_sized (P := Try.prog) W1 126 126 ty 136 i0 g (i * 2) (n + 1 - i) dc ⟨bv, 0, none⟩ 1 1 1 R1 136 [Value.int .u64 p, .int .i64 t] Try.underlying126 hi0 h1 (by simp only [Nat.min_def]; split <;> omega) (by rw [hzs]; rfl)
      (edge_cells_of (by rw [hm1.block bv hbw (by simpa using hne)]; exact hb)) (by simp; omega) hp2
    rw [h, hW2, hR2]
    rfl
  have h2 : W2.heap[g]? = some (.cells R2 136 (0, 0)) := by rw [hW2]; exact setRow_heap W1 _ _ _ _ _ h1
  have hm2 : w.grownBy W2 (some g) := by
    rw [hW2]
    exact ⟨hm1.os, hm1.tape, hm1.output, by simpa [World.setRow] using hm1.size, fun k hk hne => (setRow_other _ _ _ _ (by simpa using hne)).trans (hm1.block k hk hne)⟩
  have hfin : Hid (W2.ownsRow 0 136 2 (.slice (some ⟨g, 0, none⟩) (n + 1) c) (n + 1) (edgeCells (insAt l i (p, t)))) := by
    have t1 : R1.toList.take (i * 2) = (edgeCells l).take (i * 2) := by
      rw [hR1, ← hcur, List.take_take, Nat.min_eq_left (by omega)]
      show List.take (i * 2) (_ ++ _ ++ _) = _
      rw [List.append_assoc, List.take_append_of_le_length (by simp; omega), List.take_take, Nat.min_eq_left (by omega)]
    have t2 : R1.toList.drop (i * 2 + 2) = (edgeCells l).drop (i * 2) ++ cur.toList.drop ((i + 1) * 2 + ((edgeCells l).drop (i * 2)).length) := by
      rw [hR1]
      show List.drop (i * 2 + 2) (_ ++ _ ++ _) = _
      rw [List.append_assoc]
      exact List.drop_left' (by simp; omega)
    have hlen : (edgeCells (insAt l i (p, t))).length = (n + 1) * 2 := by rw [edgeCells_length]; simp [insAt]; omega
    refine ⟨hlen, .inr ⟨g, c, R2, rfl, Nat.zero_le _, h2, hroom, hc, ?_, ?_⟩⟩
    · rw [hR2]; simp; omega
    · have e1 : edgeCells (insAt l i (p, t)) = (edgeCells l).take (i * 2) ++ [Value.int .u64 p, .int .i64 t] ++ (edgeCells l).drop (i * 2) := by
        rw [insAt, edgeCells_append, edgeCells_take, List.append_assoc]
        congr 1
        rw [← edgeCells_drop]
        rfl
      rw [hR2, t1, t2, ← List.append_assoc, ← e1]
      exact List.take_left' hlen
  have hA' := Lib.hid hcpA
  have hB' := Lib.hid hcpB
  unfold maxLen at hc
  clear hcpA hcpB h1 hm1 hp2 hR1 hW1 hR2 hW2 hR1s h2 hel hb hg hcs hcur hn
  have hz1 : ¬ ((i : Int) = (n : Int)) := by omega
  have hz2 : ¬ ((c : Int) < (n : Int) + 1) := by omega
  have hz3 : ¬ (c = i) := by omega
  have hz5 : ¬ (c = i + 1) := by omega
  have hin : i ≤ n := by omega
  have hw2 : (0 : Int) ≤ (i : Int) + 1 := by omega
  have hw3 : ((i : Int) + 1).toNat = i + 1 := by omega
  have hw4 : (i : Int) + 1 ≤ (n : Int) + 1 := by omega
  have hw5 : (i : Int) ≤ (n : Int) + 1 := by omega
  have hw1 : IntKind.i64.wrap ((i : Int) + 1) = (i : Int) + 1 := IntWalk.i64_in _ (by omega)
  go_enter Try.func78, Try.ntmps78
  go_wp2_with (simp only [hov])
  go_region_law (refine step_copy_runI rfl (.tmp 73) (.tmp 76) 126 126 rfl (.slice (some ⟨g, (i + 1) * 2, none⟩) (n - i) (c - (i + 1))) (.slice (some ⟨g, i * 2, none⟩) (n + 1 - i) (c - i)) (by simp [Act.eval, Act.put]) (by simp [Act.eval, Act.put]) (hA'.out _ _ _) ?_)
  go_wp2_with (refine wpList_copy_run _ rfl (.tmp 80) (.tmp 81) 126 126 rfl _ _ rfl rfl (hB'.out _ _) ?_)
  go_ret
  exact ⟨rfl, hfin.out, hm2⟩

theorem ownsRow_slice {w : World} {base : Nat} {e size n : Nat} {v : Value} {xs : List Value} (h : w.ownsRow base e size v n xs) : ∃ A c, v = .slice A n c := by
  rcases h.2 with ⟨hv, hn⟩ | ⟨g, cap, cur, hv, _⟩
  · exact ⟨none, 0, by rw [hv, hn]⟩
  · exact ⟨_, _, hv⟩

/-- slices.Insert of one edge into a row of the call's own, at whatever place. -/
theorem insert_calls (v : Value) (l : List (Int × Int)) (i : Nat) (p t : Int) (bv : Nat) (w : World)
    (ho : w.ownsRow 0 136 2 v l.length (edgeCells l)) (hi : i ≤ l.length) (hl : l.length ≤ 1099511627776)
    (hb : w.heap[bv]? = some (.cells #[.int .u64 p, .int .i64 t] 136 (0, 0))) (hne : v.ownBlock ≠ some bv) :
    Calls Try.prog 78 #[v, .int .i64 i, .slice (some ⟨bv, 0, none⟩) 1 1] w fun e w' =>
      ∃ A c, e = .returned (.slice A (l.length + 1) c) ∧ w'.ownsRow 0 136 2 (.slice A (l.length + 1) c) (l.length + 1) (edgeCells (insAt l i (p, t))) ∧ w.grownBy w' v.ownBlock ∧
        (∀ k, (Value.slice A (l.length + 1) c).ownBlock = some k → v.ownBlock = some k ∨ w.heap.size ≤ k) := by
  have pack : ∀ (e : Ending) (w' : World), (∃ v', e = .returned v' ∧ w'.ownsRow 0 136 2 v' (l.length + 1) (edgeCells (insAt l i (p, t))) ∧ w.grownBy w' v.ownBlock ∧ (∀ k, v'.ownBlock = some k → v.ownBlock = some k ∨ w.heap.size ≤ k)) →
      ∃ A c, e = .returned (.slice A (l.length + 1) c) ∧ w'.ownsRow 0 136 2 (.slice A (l.length + 1) c) (l.length + 1) (edgeCells (insAt l i (p, t))) ∧ w.grownBy w' v.ownBlock ∧
        (∀ k, (Value.slice A (l.length + 1) c).ownBlock = some k → v.ownBlock = some k ∨ w.heap.size ≤ k) := by
    rintro e w' ⟨v', he, h2, h3, h4⟩
    obtain ⟨A, c, rfl⟩ := ownsRow_slice h2
    exact ⟨A, c, he, h2, h3, h4⟩
  rcases Nat.lt_or_ge i l.length with hlt | hge
  · rcases ho.2 with ⟨rfl, h0⟩ | ⟨g, cap, cur, rfl, _, hg, hc, hcm, hcs, hcur⟩
    · omega
    · have hne' : bv ≠ g := fun e => hne (by simp [Value.ownBlock, e])
      rcases Nat.lt_or_ge cap (l.length + 1) with h1 | h1
      · refine (insert_grow g l l.length cap i p t bv w cur rfl hg hcs hcur hlt hc h1 hl hb).mono fun e w' ⟨v', he, h2, h3, h4⟩ => pack e w' ⟨v', he, h2, ⟨h3.os, h3.tape, h3.output, h3.size, fun k hk _ => h3.block k hk (by simp)⟩, fun k hk => ?_⟩
        rw [h4] at hk
        injection hk with hk
        exact .inr (by omega)
      · exact (insert_shift g l l.length cap i p t bv w cur rfl hg hcs hcur hlt hcm h1 hl hb hne').mono fun e w' ⟨he, h2, h3⟩ => pack e w' ⟨_, he, h2, h3, fun k hk => .inl hk⟩
  · have e1 : i = l.length := by omega
    subst e1
    refine (insert_end v l p t bv w ho hl hb).mono fun e w' ⟨v', he, h2, h3, h4⟩ => pack e w' ⟨v', he, ?_, h3, fun k hk => ?_⟩
    · simpa [insAt] using h2
    · rcases h4 with h4 | h4
      · exact .inl (h4 ▸ hk)
      · rw [h4] at hk
        injection hk with hk
        exact .inr (by omega)
end Go.Proofs.Ytlkiajepahkliaa

namespace Go.Proofs.Ytlkiajepahkliaa
open Go.RowKit
set_option linter.unusedVariables false
set_option linter.unusedSimpArgs false

structure Node where
  up : Int
  p : Int
  depth : Int
  kids : List (Int × Int)
  words : List Int
instance : Inhabited Node := ⟨⟨0, 0, 0, [], []⟩⟩

structure TTree where
  nodes : List Node
  words : List Int

namespace TTree
def node (T : TTree) (i : Nat) : Node := T.nodes.getD i default
def kids (T : TTree) (i : Nat) : List (Int × Int) := (T.node i).kids
def nw (T : TTree) (i : Nat) : List Int := (T.node i).words
end TTree

/-- The place of k in a row of edges. -/
def place (l : List (Int × Int)) (k : Int) : Nat := (l.takeWhile fun x => decide (x.1 < k)).length
theorem place_le (l : List (Int × Int)) (k : Int) : place l k ≤ l.length := (List.takeWhile_sublist _).length_le
theorem isPlace_eq {l : List (Int × Int)} {k : Int} {i : Nat} (h : IsPlace l k i) : i = place l k := by
  induction l generalizing i with
  | nil => have := h.1; simp at this; subst this; rfl
  | cons x l ih =>
    obtain ⟨h1, h2, h3⟩ := h
    cases i with
    | zero =>
      have := h3 0 (Nat.le_refl _) (by simp)
      simp at this
      simp [place, List.takeWhile_cons, show ¬ x.1 < k by omega]
    | succ i =>
      have h0 := h2 0 (by omega)
      simp at h0
      have := ih (i := i) ⟨by simpa using h1, fun q hq => by simpa using h2 (q + 1) (by omega), fun q hq hl => by simpa using h3 (q + 1) (by omega) (by simpa using hl)⟩
      simp [place, List.takeWhile_cons, h0] at this ⊢
      exact this

def intCells (k : IntKind) (l : List Int) : List Value := l.map (.int k)
theorem intCells_length (k : IntKind) (l : List Int) : (intCells k l).length = l.length := by simp [intCells]

def nodeCellsFrom (kv wv : Nat → Value) : Nat → List Node → List Value
  | _, [] => []
  | i, x :: l => .int .i64 x.up :: .int .u64 x.p :: .int .i64 x.depth :: kv i :: wv i :: nodeCellsFrom kv wv (i + 1) l
def nodeCells (kv wv : Nat → Value) (l : List Node) : List Value := nodeCellsFrom kv wv 0 l

theorem nodeCellsFrom_length (kv wv : Nat → Value) (i : Nat) (l : List Node) : (nodeCellsFrom kv wv i l).length = l.length * 5 := by
  induction l generalizing i with
  | nil => rfl
  | cons x l ih => simp only [nodeCellsFrom, List.length_cons, ih]; omega
theorem nodeCellsFrom_get (kv wv : Nat → Value) (l : List Node) : ∀ (i q : Nat), q < l.length →
    (nodeCellsFrom kv wv i l)[q * 5]? = some (.int .i64 (l.getD q default).up) ∧ (nodeCellsFrom kv wv i l)[q * 5 + 1]? = some (.int .u64 (l.getD q default).p) ∧
    (nodeCellsFrom kv wv i l)[q * 5 + 2]? = some (.int .i64 (l.getD q default).depth) ∧ (nodeCellsFrom kv wv i l)[q * 5 + 3]? = some (kv (i + q)) ∧ (nodeCellsFrom kv wv i l)[q * 5 + 4]? = some (wv (i + q)) := by
  induction l with
  | nil => intro i q h; simp at h
  | cons x l ih =>
    intro i q h
    cases q with
    | zero => simp [nodeCellsFrom]
    | succ q =>
      obtain ⟨h1, h2, h3, h4, h5⟩ := ih (i + 1) q (by simpa using h)
      rw [show i + (q + 1) = i + 1 + q by omega, show (q + 1) * 5 = q * 5 + 5 by omega, show q * 5 + 5 + 1 = q * 5 + 1 + 5 by omega, show q * 5 + 5 + 2 = q * 5 + 2 + 5 by omega, show q * 5 + 5 + 3 = q * 5 + 3 + 5 by omega, show q * 5 + 5 + 4 = q * 5 + 4 + 5 by omega]
      exact ⟨h1, h2, h3, h4, h5⟩
theorem nodeCellsFrom_congr {kv wv kv' wv' : Nat → Value} (l : List Node) : ∀ i, (∀ q, i ≤ q → q < i + l.length → kv q = kv' q ∧ wv q = wv' q) → nodeCellsFrom kv wv i l = nodeCellsFrom kv' wv' i l := by
  induction l with
  | nil => intro i _; rfl
  | cons x l ih =>
    intro i h
    simp only [nodeCellsFrom]
    rw [(h i (Nat.le_refl _) (by simp)).1, (h i (Nat.le_refl _) (by simp)).2, ih (i + 1) (fun q hq hl => h q (by omega) (by simp only [List.length_cons]; omega))]
theorem nodeCellsFrom_append (kv wv : Nat → Value) (l m : List Node) : ∀ i, nodeCellsFrom kv wv i (l ++ m) = nodeCellsFrom kv wv i l ++ nodeCellsFrom kv wv (i + l.length) m := by
  induction l with
  | nil => intro i; simp [nodeCellsFrom]
  | cons x l ih => intro i; simp only [List.cons_append, nodeCellsFrom, ih (i + 1), List.length_cons, show i + 1 + l.length = i + (l.length + 1) by omega]
/-- A node's row of edges is another one. -/
theorem nodeCellsFrom_setK (kv wv : Nat → Value) (v : Value) (f : Node → Node) (hf : ∀ x, (f x).up = x.up ∧ (f x).p = x.p ∧ (f x).depth = x.depth) (l : List Node) : ∀ (i q : Nat), q < l.length →
    (nodeCellsFrom kv wv i l).set (q * 5 + 3) v = nodeCellsFrom (fun j => if j = i + q then v else kv j) wv i (l.modify q f) := by
  induction l with
  | nil => intro i q h; simp at h
  | cons x l ih =>
    intro i q h
    cases q with
    | zero =>
      simp only [nodeCellsFrom, Nat.zero_mul, Nat.zero_add, List.set_cons_succ, List.set_cons_zero, List.modify_zero_cons, Nat.add_zero, if_true]
      rw [(hf x).1, (hf x).2.1, (hf x).2.2]
      congr 5
      exact nodeCellsFrom_congr l (i + 1) (fun q hq _ => ⟨by simp [show q ≠ i by omega], rfl⟩)
    | succ q =>
      have := ih (i + 1) q (by simpa using h)
      rw [show (q + 1) * 5 + 3 = q * 5 + 3 + 5 by omega]
      simp only [nodeCellsFrom, List.set_cons_succ, List.modify_succ_cons, this]
      rw [show i + (q + 1) = i + 1 + q by omega]
      simp [show i ≠ i + 1 + q by omega]
theorem nodeCellsFrom_setW (kv wv : Nat → Value) (v : Value) (f : Node → Node) (hf : ∀ x, (f x).up = x.up ∧ (f x).p = x.p ∧ (f x).depth = x.depth) (l : List Node) : ∀ (i q : Nat), q < l.length →
    (nodeCellsFrom kv wv i l).set (q * 5 + 4) v = nodeCellsFrom kv (fun j => if j = i + q then v else wv j) i (l.modify q f) := by
  induction l with
  | nil => intro i q h; simp at h
  | cons x l ih =>
    intro i q h
    cases q with
    | zero =>
      simp only [nodeCellsFrom, Nat.zero_mul, Nat.zero_add, List.set_cons_succ, List.set_cons_zero, List.modify_zero_cons, Nat.add_zero, if_true]
      rw [(hf x).1, (hf x).2.1, (hf x).2.2]
      congr 5
      exact nodeCellsFrom_congr l (i + 1) (fun q hq _ => ⟨rfl, by simp [show q ≠ i by omega]⟩)
    | succ q =>
      have := ih (i + 1) q (by simpa using h)
      rw [show (q + 1) * 5 + 4 = q * 5 + 4 + 5 by omega]
      simp only [nodeCellsFrom, List.set_cons_succ, List.modify_succ_cons, this]
      rw [show i + (q + 1) = i + 1 + q by omega]
      simp [show i ≠ i + 1 + q by omega]

/-- How a tree lies in memory: col tells what each of its blocks is: 0 the tree itself, 1 its nodes' row, 2 its words' row, 3 + 2 i and 4 + 2 i node i's edges and words. -/
def TreeAt (w : World) (bt : Nat) (T : TTree) (col : Nat → Option Nat) : Prop :=
  ∃ (vl vw : Value) (kv wv : Nat → Value), w.heap[bt]? = some (.cells #[vl, vw] 131 (0, 0)) ∧ col bt = some 0 ∧
    Own w 128 5 vl T.nodes.length (nodeCells kv wv T.nodes) (fun k => col k = some 1) ∧
    Own w 3 1 vw T.words.length (intCells .i64 T.words) (fun k => col k = some 2) ∧
    (∀ i, i < T.nodes.length → Own w 136 2 (kv i) (T.kids i).length (edgeCells (T.kids i)) (fun k => col k = some (3 + 2 * i)) ∧
      Own w 3 1 (wv i) (T.nw i).length (intCells .i64 (T.nw i)) (fun k => col k = some (4 + 2 * i))) ∧
    (∀ k, col k ≠ none → k < w.heap.size)

/-- What holds of every tree that is made by the calls. -/
structure TreeOk (T : TTree) : Prop where
  pos : 0 < T.nodes.length
  le : T.nodes.length ≤ 1048576
  words : T.words.length ≤ 1073741824
  sorted : ∀ i, i < T.nodes.length → EdgeSorted (T.kids i)
  few : ∀ i, i < T.nodes.length → (T.kids i).length ≤ T.nodes.length
  kid : ∀ i, i < T.nodes.length → ∀ q, q < (T.kids i).length → 0 ≤ ((T.kids i).getD q (0, 0)).2 ∧ ((T.kids i).getD q (0, 0)).2 < T.nodes.length
  nw : ∀ i, i < T.nodes.length → (T.nw i).length ≤ T.words.length
  depth : ∀ i, i < T.nodes.length → 0 ≤ (T.node i).depth ∧ (T.node i).depth ≤ T.nodes.length
  up : ∀ i, i < T.nodes.length → -1 ≤ (T.node i).up ∧ (T.node i).up < i

theorem TreeAt.move {w w1 : World} {bt : Nat} {T : TTree} {col : Nat → Option Nat} (h : TreeAt w bt T col) (hs : w.heap.size ≤ w1.heap.size) (hm : ∀ k, col k ≠ none → w1.heap[k]? = w.heap[k]?) : TreeAt w1 bt T col := by
  obtain ⟨vl, vw, kv, wv, h1, h2, h3, h4, h5, h6⟩ := h
  refine ⟨vl, vw, kv, wv, (hm bt (by rw [h2]; simp)).trans h1, h2, h3.move (fun k _ hk => hm k (by rw [hk]; simp)), h4.move (fun k _ hk => hm k (by rw [hk]; simp)),
    fun i hi => ⟨(h5 i hi).1.move (fun k _ hk => hm k (by rw [hk]; simp)), (h5 i hi).2.move (fun k _ hk => hm k (by rw [hk]; simp))⟩, fun k hk => Nat.lt_of_lt_of_le (h6 k hk) hs⟩

theorem TreeAt.lt {w : World} {bt : Nat} {T : TTree} {col : Nat → Option Nat} (h : TreeAt w bt T col) : ∀ k, col k ≠ none → k < w.heap.size := by
  obtain ⟨_, _, _, _, _, _, _, _, _, h6⟩ := h
  exact h6

theorem TreeAt.mods {S : Nat → Prop} {w w1 : World} {bt : Nat} {T : TTree} {col : Nat → Option Nat} (h : TreeAt w bt T col) (hm : Mods S w w1) (hS : ∀ k, S k → col k = none) : TreeAt w1 bt T col :=
  h.move hm.size (fun k hk => hm.block k (h.lt k hk) (fun hs => hk (hS k hs)))

theorem TreeAt.below {w w1 : World} {bt : Nat} {T : TTree} {col : Nat → Option Nat} (h : TreeAt w bt T col) (hm : Below w.heap.size w w1) : TreeAt w1 bt T col :=
  h.move hm.size (fun k hk => hm.block k (h.lt k hk))

/-- The tree's block's cells. -/
theorem TreeAt.cells {w : World} {bt : Nat} {T : TTree} {col : Nat → Option Nat} (h : TreeAt w bt T col) (ok : 0 < T.nodes.length) :
    ∃ g c, w.cell? ⟨bt, 0, none⟩ = some (.slice (some ⟨g, 0, none⟩) T.nodes.length c) ∧ T.nodes.length ≤ c ∧ c ≤ maxLen ∧ ∀ i, i < T.nodes.length → ∃ kv wv,
      w.cell? ⟨g, i * 5, none⟩ = some (.int .i64 (T.node i).up) ∧ w.cell? ⟨g, i * 5 + 1, none⟩ = some (.int .u64 (T.node i).p) ∧ w.cell? ⟨g, i * 5 + 2, none⟩ = some (.int .i64 (T.node i).depth) ∧
      w.cell? ⟨g, i * 5 + 3, none⟩ = some kv ∧ w.cell? ⟨g, i * 5 + 4, none⟩ = some wv ∧ Own w 136 2 kv (T.kids i).length (edgeCells (T.kids i)) (fun k => col k = some (3 + 2 * i)) ∧
      Own w 3 1 wv (T.nw i).length (intCells .i64 (T.nw i)) (fun k => col k = some (4 + 2 * i)) := by
  obtain ⟨vl, vw, kv, wv, h1, h2, h3, h4, h5, h6⟩ := h
  obtain ⟨g, c, rfl, _, _, hc, hm, hr⟩ := h3.form ok
  refine ⟨g, c, by rw [cell_of_row w bt 0 _ _ (0, 0) h1]; rfl, hc, hm, fun i hi => ⟨kv i, wv i, ?_⟩⟩
  have hg := nodeCellsFrom_get kv wv T.nodes 0 i hi
  rw [Nat.zero_add] at hg
  obtain ⟨g1, g2, g3, g4, g5⟩ := hg
  exact ⟨(hr _ (by omega)).1.trans g1, (hr _ (by omega)).1.trans g2, (hr _ (by omega)).1.trans g3, (hr _ (by omega)).1.trans g4, (hr _ (by omega)).1.trans g5, (h5 i hi).1, (h5 i hi).2⟩

theorem TreeAt.wcell {w : World} {bt : Nat} {T : TTree} {col : Nat → Option Nat} (h : TreeAt w bt T col) :
    ∃ vw, w.cell? ⟨bt, 1, none⟩ = some vw ∧ Own w 3 1 vw T.words.length (intCells .i64 T.words) (fun k => col k = some 2) := by
  obtain ⟨vl, vw, kv, wv, h1, h2, h3, h4, h5, h6⟩ := h
  exact ⟨vw, by rw [cell_of_row w bt 1 _ _ (0, 0) h1]; rfl, h4⟩
end Go.Proofs.Ytlkiajepahkliaa

namespace Go.Proofs.Ytlkiajepahkliaa
open Go.RowKit
set_option linter.unusedVariables false
set_option linter.unusedSimpArgs false

def inB (T : TTree) (n : Int) : Bool := decide (0 ≤ n ∧ n < T.nodes.length)

set_option maxHeartbeats 400000 in
theorem in_calls (bt : Nat) (T : TTree) (col : Nat → Option Nat) (n : Int) (w : World) (h : TreeAt w bt T col) (ok : TreeOk T) :
    Calls Try.prog 97 #[.pointer (some ⟨bt, 0, none⟩), .int .i64 n] w fun e w' => e = .returned (.bool (inB T n)) ∧ w = w' := by
  obtain ⟨g, c, hc, _, _, _⟩ := h.cells ok.pos
  clear h ok
  go_enter Try.func97, Try.ntmps97
  go_wp2
  · go_ret; exact ⟨ret_bool (by simp [inB]; omega), rfl⟩
  · go_ret; exact ⟨ret_bool (by simp [inB]; omega), rfl⟩

set_option maxHeartbeats 400000 in
theorem treeLen_calls (bt : Nat) (T : TTree) (col : Nat → Option Nat) (w : World) (h : TreeAt w bt T col) (ok : TreeOk T) :
    Calls Try.prog 79 #[.pointer (some ⟨bt, 0, none⟩)] w fun e w' => e = .returned (.int .i64 T.nodes.length) ∧ w = w' := by
  obtain ⟨g, c, hc, _, _, _⟩ := h.cells ok.pos
  clear h ok
  go_enter Try.func79, Try.ntmps79
  go_wp2
  go_ret; exact ⟨rfl, rfl⟩

theorem treeAt_calls (bt : Nat) (T : TTree) (col : Nat → Option Nat) (i : Nat) (k : Int) (w : World) (h : TreeAt w bt T col) (ok : TreeOk T) (hi : i < T.nodes.length) :
    Calls Try.prog 77 #[.pointer (some ⟨bt, 0, none⟩), .int .i64 i, .int .u64 k] w fun e w' =>
      e = .returned (.tuple #[.int .i64 (place (T.kids i) k), .bool (hitB (T.kids i) k (place (T.kids i) k))]) ∧ Below w.heap.size w w' := by
  obtain ⟨g, c, hc, _, _, hr⟩ := h.cells ok.pos
  obtain ⟨kv, wv, _, _, _, h4, _, hk, _⟩ := hr i hi
  have hle := ok.le
  have hfew := ok.few i hi
  refine (at_calls bt g T.nodes.length c i kv (T.kids i) k w hc hi h4 (by omega) (ok.sorted i hi) (EdgeRow.of_own hk)).mono ?_
  rintro e w' ⟨j, hj, rfl, hb⟩
  rw [isPlace_eq hj]
  exact ⟨rfl, hb⟩

namespace TTree
/-- A node's child. -/
def child (T : TTree) (n p : Int) : Int :=
  if inB T n = true then
    if hitB (T.kids n.toNat) p (place (T.kids n.toNat) p) = true then ((T.kids n.toNat).getD (place (T.kids n.toNat) p) (0, 0)).2 else -1
  else -1
/-- The walk on from a node. -/
def walkFrom (T : TTree) (n i : Int) : List Int → Int × Int
  | [] => (n, i)
  | p :: l => if T.child n p = -1 then (n, i) else T.walkFrom (T.child n p) (i + 1) l
def walk (T : TTree) (l : List Int) : Int × Int := T.walkFrom 0 0 l
theorem child_range {T : TTree} (ok : TreeOk T) (n p : Int) : T.child n p = -1 ∨ (0 ≤ T.child n p ∧ T.child n p < T.nodes.length) := by
  unfold child
  split
  · rename_i h
    simp only [inB, decide_eq_true_eq] at h
    split
    · rename_i h2
      simp only [hitB, decide_eq_true_eq] at h2
      exact .inr (ok.kid n.toNat (by omega) _ h2.1)
    · exact .inl rfl
  · exact .inl rfl
end TTree

set_option maxHeartbeats 400000 in
theorem child_calls (bt : Nat) (T : TTree) (col : Nat → Option Nat) (n p : Int) (w : World) (h : TreeAt w bt T col) (ok : TreeOk T) :
    Calls Try.prog 81 #[.pointer (some ⟨bt, 0, none⟩), .int .i64 n, .int .u64 p] w fun e w' =>
      e = .returned (.int .i64 (T.child n p)) ∧ Below w.heap.size w w' := by
  have h' := Lib.hid h
  have ok' := Lib.hid ok
  by_cases hin : inB T n = true
  · have hn : 0 ≤ n ∧ n < T.nodes.length := by simpa [inB] using hin
    obtain ⟨m, rfl⟩ : ∃ m : Nat, n = m := ⟨n.toNat, by omega⟩
    have hm : m < T.nodes.length := by omega
    have hin' := Lib.hid hin
    by_cases hhit : hitB (T.kids m) p (place (T.kids m) p) = true
    · have hpl := of_decide_eq_true hhit
      obtain ⟨i, hi⟩ : ∃ i, i = place (T.kids m) p := ⟨_, rfl⟩
      have hch : T.child m p = ((T.kids m).getD i (0, 0)).2 := by rw [hi]; simp [TTree.child, hin, hhit]
      have hhit' := Lib.hid hhit
      have hch' := Lib.hid hch
      have hi' := Lib.hid hi
      have hil : i < (T.kids m).length := by rw [hi]; exact hpl.1
      have hkl := ok.few m hm
      have hnl := ok.le
      obtain ⟨g, c, hc, hcl, hcm, hr⟩ := h.cells ok.pos
      obtain ⟨kv, wv, _, _, _, h4, _, hk, _⟩ := hr m hm
      obtain ⟨kg, kc, hkv, _, hkg, hkc, hkm, hkr⟩ := hk.form (by omega)
      obtain ⟨x, hx⟩ : ∃ x, ((T.kids m).getD i (0, 0)).2 = x := ⟨_, rfl⟩
      have hx' := Lib.hid hx
      have hcell : w.cell? ⟨kg, i * 2 + 1, none⟩ = some (.int .i64 x) := by rw [(hkr _ (by omega)).1, (edgeCells_get _ i hil).2, hx]
      rw [hkv] at h4
      have hgw := World.block_lt_of_cell? w _ h4
      have hbw := World.block_lt_of_cell? w _ hc
      simp only at hgw hbw
      clear h ok hin hhit hch hi hr hk hkr hkv hx hpl
      go_enter Try.func81, Try.ntmps81
      go_wp2_with fail
      refine (in_calls bt T col m _ h'.out ok'.out).mono ?_
      rintro e w' ⟨rfl, rfl⟩
      rw [hin'.out]
      go_wp2_with fail
      refine (treeAt_calls bt T col m p _ h'.out ok'.out hm).mono ?_
      rintro e w1 ⟨rfl, hb⟩
      rw [hhit'.out, ← hi'.out]
      have e1 : w1.cell? ⟨bt, 0, none⟩ = _ := (hb.cell (p := ⟨bt, 0, none⟩) hbw).trans hc
      have e2 : w1.cell? ⟨g, m * 5 + 3, none⟩ = _ := (hb.cell (p := ⟨g, m * 5 + 3, none⟩) hgw).trans h4
      have e3 : w1.cell? ⟨kg, i * 2 + 1, none⟩ = _ := (hb.cell (p := ⟨kg, i * 2 + 1, none⟩) hkg).trans hcell
      clear hc h4 hcell
      go_wp2_with fail
      go_ret
      exact ⟨ret_int (by rw [hch'.out, hx'.out]), hb⟩
    · have hch : T.child m p = -1 := by simp [TTree.child, hin, hhit]
      have hch' := Lib.hid hch
      have hhit' := Lib.hid (Bool.eq_false_iff.2 hhit)
      clear h ok hin hhit hch
      go_enter Try.func81, Try.ntmps81
      go_wp2_with fail
      refine (in_calls bt T col m _ h'.out ok'.out).mono ?_
      rintro e w' ⟨rfl, rfl⟩
      rw [hin'.out]
      go_wp2_with fail
      refine (treeAt_calls bt T col m p _ h'.out ok'.out hm).mono ?_
      rintro e w1 ⟨rfl, hb⟩
      rw [hhit'.out]
      go_wp2_with fail
      go_ret
      exact ⟨ret_int (by rw [hch'.out]), hb⟩
  · have hch : T.child n p = -1 := by simp [TTree.child, hin]
    have hch' := Lib.hid hch
    have hin' := Lib.hid (Bool.eq_false_iff.2 hin)
    clear h ok hin hch
    go_enter Try.func81, Try.ntmps81
    go_wp2_with fail
    refine (in_calls bt T col n _ h'.out ok'.out).mono ?_
    rintro e w' ⟨rfl, rfl⟩
    rw [hin'.out]
    go_wp2_with fail
    go_ret
    exact ⟨ret_int (by rw [hch'.out]), Below.refl _ _⟩

theorem ret_ii {k k' : IntKind} {a a' b b' : Int} (h : a = a') (h' : b = b') : Ending.returned (.tuple #[.int k a, .int k' b]) = .returned (.tuple #[.int k a', .int k' b']) := by rw [h, h']

set_option maxHeartbeats 400000 in
theorem walk_calls (bt : Nat) (T : TTree) (col : Nat → Option Nat) (v : Value) (l : List Int) (w : World) (h : TreeAt w bt T col) (ok : TreeOk T) (hv : IntRow w .u64 v l) (hl : l.length ≤ 1099511627776) :
    Calls Try.prog 70 #[.pointer (some ⟨bt, 0, none⟩), v] w fun e w' =>
      e = .returned (.tuple #[.int .i64 (T.walk l).1, .int .i64 (T.walk l).2]) ∧ Below w.heap.size w w' := by
  have h' := Lib.hid h
  have ok' := Lib.hid ok
  obtain ⟨A, c, rfl, hc, hr⟩ := hv
  have hr' := Lib.hid hr
  clear h ok hr
  go_enter Try.func70, Try.ntmps70
  go_wp2_with fail
  go_loopw [6, 12] (fun x y wr => ∃ (n : Int) (i : Nat), x = .int .i64 n ∧ y = .int .i64 i ∧ i ≤ l.length ∧ T.walkFrom n i (l.drop i) = T.walk l ∧ Below w.heap.size w wr) (fun _ y _ => l.length - (intOf y).toNat)
  case atStart => exact ⟨0, 0, rfl, rfl, Nat.zero_le _, rfl, Below.refl _ _⟩
  case round =>
    obtain ⟨n, i, rfl, rfl, hi, hw, hB⟩ := hrel
    have hw' := Lib.hid hw
    clear hw
    by_cases hlt : i < l.length
    · obtain ⟨b, off, hA, hcell⟩ := hr'.out.resolve_left (by omega)
      have h1 := hcell i hlt
      obtain ⟨p, hp⟩ : ∃ p, l.getD i 0 = p := ⟨_, rfl⟩
      rw [hp] at h1
      have e1 : wr.cell? ⟨b, off + i, none⟩ = some (.int .u64 p) := by rw [hB.cell (World.block_lt_of_cell? w _ h1)]; exact h1
      have hd : l.drop i = p :: l.drop (i + 1) := by
        rw [List.drop_eq_getElem_cons hlt, ← hp]
        simp [hlt]
      have hstep := hw'.out
      rw [hd] at hstep
      have hstep' := Lib.hid hstep
      clear hcell h1 hp hd hstep hw'
      subst hA
      by_cases hch : T.child n p = -1
      · have hch' := Lib.hid hch
        clear hch
        go_wp2_with fail
        refine (child_calls bt T col n p _ (h'.out.below hB) ok'.out).mono ?_
        rintro e w1 ⟨rfl, hb⟩
        rw [hch'.out]
        go_wp2_with fail
        go_ret2
        refine ⟨?_, hB.trans (hb.mono hB.size)⟩
        have := hstep'.out
        rw [TTree.walkFrom, if_pos hch'.out] at this
        exact ret_ii (by rw [← this]) (by rw [← this])
      · have hch' := Lib.hid hch
        obtain ⟨m, hm⟩ : ∃ m, T.child n p = m := ⟨_, rfl⟩
        have hm' := Lib.hid hm
        have hne : (m == -1) = false := by rw [← hm]; simpa using hch
        clear hch hm
        go_wp2_with fail
        refine (child_calls bt T col n p _ (h'.out.below hB) ok'.out).mono ?_
        rintro e w1 ⟨rfl, hb⟩
        rw [hm'.out]
        go_wp2_with fail
        go_roundw
        case rel =>
          refine ⟨m, i + 1, rfl, by go_num, by omega, ?_, hB.trans (hb.mono hB.size)⟩
          have := hstep'.out
          rw [TTree.walkFrom, if_neg hch'.out, hm'.out] at this
          rw [← this]
          simp
        case measure => simp [intOf]; omega
    · have e1 : i = l.length := by omega
      subst e1
      have := hw'.out
      rw [List.drop_length] at this
      have hfin := Lib.hid this
      clear this hw'
      go_wp2_with fail
      go_ret2
      refine ⟨?_, hB⟩
      have := hfin.out
      exact ret_ii (by rw [← this]; rfl) (by rw [← this]; rfl)
end Go.Proofs.Ytlkiajepahkliaa

namespace Go.Proofs.Ytlkiajepahkliaa
open Go.RowKit
set_option linter.unusedVariables false
set_option linter.unusedSimpArgs false

namespace TTree
/-- A node's edges are others. -/
def setKids (T : TTree) (n : Nat) (l : List (Int × Int)) : TTree := { T with nodes := T.nodes.modify n fun x => { x with kids := l } }
def setNw (T : TTree) (n : Nat) (l : List Int) : TTree := { T with nodes := T.nodes.modify n fun x => { x with words := l } }
def pushNode (T : TTree) (x : Node) : TTree := { T with nodes := T.nodes ++ [x] }
def pushWord (T : TTree) (x : Int) : TTree := { T with words := T.words ++ [x] }
theorem node_setKids (T : TTree) (n : Nat) (l : List (Int × Int)) (i : Nat) : (T.setKids n l).node i = if i = n ∧ n < T.nodes.length then { T.node i with kids := l } else T.node i := by
  simp only [node, setKids, List.getD_eq_getElem?_getD, List.getElem?_modify]
  by_cases hi : i = n
  · subst hi
    by_cases hl : i < T.nodes.length
    · simp [hl]
    · simp [hl]
  · simp [hi, Ne.symm hi]
theorem node_setNw (T : TTree) (n : Nat) (l : List Int) (i : Nat) : (T.setNw n l).node i = if i = n ∧ n < T.nodes.length then { T.node i with words := l } else T.node i := by
  simp only [node, setNw, List.getD_eq_getElem?_getD, List.getElem?_modify]
  by_cases hi : i = n
  · subst hi
    by_cases hl : i < T.nodes.length
    · simp [hl]
    · simp [hl]
  · simp [hi, Ne.symm hi]
theorem len_setKids (T : TTree) (n : Nat) (l : List (Int × Int)) : (T.setKids n l).nodes.length = T.nodes.length := by simp [setKids]
theorem len_setNw (T : TTree) (n : Nat) (l : List Int) : (T.setNw n l).nodes.length = T.nodes.length := by simp [setNw]
theorem node_push_lt (T : TTree) (x : Node) {i : Nat} (h : i < T.nodes.length) : (T.pushNode x).node i = T.node i := by
  simp [node, pushNode, List.getElem?_append, h]
theorem node_push_eq (T : TTree) (x : Node) : (T.pushNode x).node T.nodes.length = x := by
  simp [node, pushNode]
end TTree

/-- A block more in the colours. -/
def paint (col : Nat → Option Nat) (v : Value) (t : Nat) : Nat → Option Nat := fun k => if v.ownBlock = some k then some t else col k

theorem own_paint {w w1 : World} {e size n : Nat} {v v' : Value} {xs : List Value} {col : Nat → Option Nat} {t t' : Nat} (h : Own w e size v n xs (fun k => col k = some t))
    (hm : ∀ k, k < w.heap.size → col k = some t → w1.heap[k]? = w.heap[k]?) (hv : ∀ k, v'.ownBlock = some k → k < w.heap.size → col k ≠ some t) : Own w1 e size v n xs (fun k => paint col v' t' k = some t) := by
  refine (h.move hm).mono' h.lt (fun k hk hc => ?_)
  unfold paint
  rw [if_neg (fun e => hv k e hk hc)]
  exact hc

theorem heap_setCell_ne (w : World) (b j : Nat) (u : Value) (k : Nat) (h : k ≠ b) : (w.setCell ⟨b, j, none⟩ u).heap[k]? = w.heap[k]? := Below.heap_setCell w ⟨b, j, none⟩ u k h
theorem size_setCell (w : World) (p : Addr) (u : Value) : (w.setCell p u).heap.size = w.heap.size := by simp [World.setCell]

/-- A node's edges have become others, and the node's cell names them. -/
theorem TreeAt.setKids {w w1 : World} {bt : Nat} {T : TTree} {col : Nat → Option Nat} (h : TreeAt w bt T col) {n : Nat} (hn : n < T.nodes.length) {g c : Nat} (hc : w.cell? ⟨bt, 0, none⟩ = some (.slice (some ⟨g, 0, none⟩) T.nodes.length c))
    {kv v' : Value} (hkv : w.cell? ⟨g, n * 5 + 3, none⟩ = some kv) {l' : List (Int × Int)} (ho : w1.ownsRow 0 136 2 v' l'.length (edgeCells l')) (hg : w.grownBy w1 kv.ownBlock)
    (hb : ∀ k, v'.ownBlock = some k → kv.ownBlock = some k ∨ w.heap.size ≤ k) :
    TreeAt (w1.setCell ⟨g, n * 5 + 3, none⟩ v') bt (T.setKids n l') (paint col v' (3 + 2 * n)) ∧ Mods (fun k => col k ≠ none) w (w1.setCell ⟨g, n * 5 + 3, none⟩ v') ∧ (∀ k, k < w.heap.size → paint col v' (3 + 2 * n) k = col k) := by
  obtain ⟨vl, vw, kv0, wv0, h1, h2, h3, h4, h5, h6⟩ := h
  have hvl : vl = .slice (some ⟨g, 0, none⟩) T.nodes.length c := by
    rw [cell_of_row w bt 0 _ _ (0, 0) h1] at hc
    simpa using hc
  have hgo : vl.ownBlock = some g := by rw [hvl]; rfl
  have hgc : col g = some 1 := h3.2 g hgo
  have hgw : g < w.heap.size := h3.lt g hgo
  have hkv0 : kv0 n = kv := by
    obtain ⟨g', c', e1, _, _, _, _, hr⟩ := h3.form (by omega)
    have e2 : g' = g := by rw [hvl] at e1; injection e1 with e1; injection e1 with e1; injection e1 with e1; exact e1.symm
    subst e2
    have hget := (nodeCellsFrom_get kv0 wv0 T.nodes 0 n hn).2.2.2.1
    rw [Nat.zero_add] at hget
    have := hkv.symm.trans ((hr (n * 5 + 3) (by omega)).1.trans hget)
    injection this with this
    exact this.symm
  have hkc : ∀ k, kv.ownBlock = some k → col k = some (3 + 2 * n) := fun k hk => (h5 n hn).1.2 k (by rw [hkv0]; exact hk)
  have hkw : ∀ k, kv.ownBlock = some k → k < w.heap.size := fun k hk => (h5 n hn).1.lt k (by rw [hkv0]; exact hk)
  -- what is not the edges' old row is as it was in w1
  have hm1 : ∀ k, k < w.heap.size → col k ≠ some (3 + 2 * n) → w1.heap[k]? = w.heap[k]? := fun k hk hne => hg.block k hk (fun e => hne (hkc k e.symm))
  have hm2 : ∀ k, k < w.heap.size → col k ≠ some (3 + 2 * n) → k ≠ g → (w1.setCell ⟨g, n * 5 + 3, none⟩ v').heap[k]? = w.heap[k]? := fun k hk hne hkg => (heap_setCell_ne w1 g _ _ k hkg).trans (hm1 k hk hne)
  have hvc : ∀ k, v'.ownBlock = some k → k < w.heap.size → col k = some (3 + 2 * n) := fun k hk hlt => by
    rcases hb k hk with hb | hb
    · exact hkc k hb
    · omega
  have hpo : ∀ k, k < w.heap.size → paint col v' (3 + 2 * n) k = col k := fun k hk => by
    unfold paint
    split
    · rename_i e; exact (hvc k e hk).symm
    · rfl
  have hoth : ∀ {e size m : Nat} {v : Value} {xs : List Value} {t : Nat}, Own w e size v m xs (fun k => col k = some t) → t ≠ 1 → t ≠ 3 + 2 * n → Own (w1.setCell ⟨g, n * 5 + 3, none⟩ v') e size v m xs (fun k => paint col v' (3 + 2 * n) k = some t) := by
    intro e size m v xs t ho ht1 ht2
    refine own_paint ho (fun k hk hcc => hm2 k hk (by rw [hcc]; simp; omega) (fun e => ?_)) (fun k hk hlt e => ?_)
    · rw [e, hgc] at hcc; injection hcc with hcc; omega
    · rw [hvc k hk hlt] at e; injection e with e; omega
  refine ⟨⟨vl, vw, fun j => if j = n then v' else kv0 j, wv0, ?_, ?_, ?_, ?_, ?_, ?_⟩, ?_, hpo⟩
  · rw [hm2 bt (h6 bt (by rw [h2]; simp)) (by rw [h2]; simp; omega) (fun e => by rw [e, hgc] at h2; simp at h2)]
    exact h1
  · rw [hpo bt (h6 bt (by rw [h2]; simp))]; exact h2
  · have h31 : Own w1 128 5 vl T.nodes.length (nodeCells kv0 wv0 T.nodes) (fun k => col k = some 1) := h3.move (fun k hk hc => hm1 k hk (by rw [hc]; simp; omega))
    have h32 := h31.stored hgo (n * 5 + 3) v' (by unfold nodeCells; rw [nodeCellsFrom_length]; omega)
    rw [TTree.len_setKids]
    have e1 : nodeCells (fun j => if j = n then v' else kv0 j) wv0 (T.setKids n l').nodes = (nodeCells kv0 wv0 T.nodes).set (n * 5 + 3) v' := by
      unfold nodeCells
      rw [nodeCellsFrom_setK kv0 wv0 v' (fun x => { x with kids := l' }) (fun x => ⟨rfl, rfl, rfl⟩) T.nodes 0 n hn]
      simp [TTree.setKids]
    rw [e1]
    refine ⟨h32.1, fun k hk => ?_⟩
    have hkg : k = g := by rw [hgo] at hk; injection hk with hk; exact hk.symm
    show paint col v' (3 + 2 * n) k = some 1
    rw [hkg, hpo _ hgw]; exact hgc
  · exact hoth h4 (by omega) (by omega)
  · intro i hi
    rw [TTree.len_setKids] at hi
    have hnode := TTree.node_setKids T n l' i
    constructor
    · by_cases hin : i = n
      · subst hin
        have e1 : (T.setKids i l').kids i = l' := by unfold TTree.kids; rw [hnode, if_pos ⟨rfl, hn⟩]
        rw [e1]
        simp only [if_true]
        have hown : Own w1 136 2 v' l'.length (edgeCells l') (fun k => paint col v' (3 + 2 * i) k = some (3 + 2 * i)) := ⟨ho, fun k hk => by show paint col v' (3 + 2 * i) k = _; unfold paint; rw [if_pos hk]⟩
        refine hown.move (fun k hk hcc => heap_setCell_ne w1 g _ _ k (fun e => ?_))
        rw [e, hpo g hgw, hgc] at hcc
        injection hcc with hcc; omega
      · have e1 : (T.setKids n l').kids i = T.kids i := by unfold TTree.kids; rw [hnode, if_neg (fun h => hin h.1)]
        rw [e1]
        simp only [if_neg hin]
        exact hoth (h5 i hi).1 (by omega) (by omega)
    · have e1 : (T.setKids n l').nw i = T.nw i := by unfold TTree.nw; rw [hnode]; split <;> rfl
      rw [e1]
      exact hoth (h5 i hi).2 (by omega) (by omega)
  · intro k hk
    rw [size_setCell]
    by_cases hlt : k < w.heap.size
    · exact Nat.lt_of_lt_of_le hlt hg.size
    · unfold paint at hk
      split at hk
      · rename_i e
        exact (ho.lt k e).2
      · exact absurd (h6 k hk) hlt
  · refine ⟨hg.os, hg.tape, hg.output, by rw [size_setCell]; exact hg.size, fun k hk hn' => ?_⟩
    have hcn : col k = none := by simpa using hn'
    exact hm2 k hk (by rw [hcn]; simp) (fun e => by rw [e, hgc] at hcn; cases hcn)
/-- A node's words have become others, and the node's cell names them. -/
theorem TreeAt.setNw {w w1 : World} {bt : Nat} {T : TTree} {col : Nat → Option Nat} (h : TreeAt w bt T col) {n : Nat} (hn : n < T.nodes.length) {g c : Nat} (hc : w.cell? ⟨bt, 0, none⟩ = some (.slice (some ⟨g, 0, none⟩) T.nodes.length c))
    {kv v' : Value} (hkv : w.cell? ⟨g, n * 5 + 4, none⟩ = some kv) {l' : List Int} (ho : w1.ownsRow 0 3 1 v' l'.length (intCells .i64 l')) (hg : w.grownBy w1 kv.ownBlock)
    (hb : ∀ k, v'.ownBlock = some k → kv.ownBlock = some k ∨ w.heap.size ≤ k) :
    TreeAt (w1.setCell ⟨g, n * 5 + 4, none⟩ v') bt (T.setNw n l') (paint col v' (4 + 2 * n)) ∧ Mods (fun k => col k ≠ none) w (w1.setCell ⟨g, n * 5 + 4, none⟩ v') ∧ (∀ k, k < w.heap.size → paint col v' (4 + 2 * n) k = col k) := by
  obtain ⟨vl, vw, kv0, wv0, h1, h2, h3, h4, h5, h6⟩ := h
  have hvl : vl = .slice (some ⟨g, 0, none⟩) T.nodes.length c := by
    rw [cell_of_row w bt 0 _ _ (0, 0) h1] at hc
    simpa using hc
  have hgo : vl.ownBlock = some g := by rw [hvl]; rfl
  have hgc : col g = some 1 := h3.2 g hgo
  have hgw : g < w.heap.size := h3.lt g hgo
  have hkv0 : wv0 n = kv := by
    obtain ⟨g', c', e1, _, _, _, _, hr⟩ := h3.form (by omega)
    have e2 : g' = g := by rw [hvl] at e1; injection e1 with e1; injection e1 with e1; injection e1 with e1; exact e1.symm
    subst e2
    have hget := (nodeCellsFrom_get kv0 wv0 T.nodes 0 n hn).2.2.2.2
    rw [Nat.zero_add] at hget
    have := hkv.symm.trans ((hr (n * 5 + 4) (by omega)).1.trans hget)
    injection this with this
    exact this.symm
  have hkc : ∀ k, kv.ownBlock = some k → col k = some (4 + 2 * n) := fun k hk => (h5 n hn).2.2 k (by rw [hkv0]; exact hk)
  have hkw : ∀ k, kv.ownBlock = some k → k < w.heap.size := fun k hk => (h5 n hn).2.lt k (by rw [hkv0]; exact hk)
  -- what is not the edges' old row is as it was in w1
  have hm1 : ∀ k, k < w.heap.size → col k ≠ some (4 + 2 * n) → w1.heap[k]? = w.heap[k]? := fun k hk hne => hg.block k hk (fun e => hne (hkc k e.symm))
  have hm2 : ∀ k, k < w.heap.size → col k ≠ some (4 + 2 * n) → k ≠ g → (w1.setCell ⟨g, n * 5 + 4, none⟩ v').heap[k]? = w.heap[k]? := fun k hk hne hkg => (heap_setCell_ne w1 g _ _ k hkg).trans (hm1 k hk hne)
  have hvc : ∀ k, v'.ownBlock = some k → k < w.heap.size → col k = some (4 + 2 * n) := fun k hk hlt => by
    rcases hb k hk with hb | hb
    · exact hkc k hb
    · omega
  have hpo : ∀ k, k < w.heap.size → paint col v' (4 + 2 * n) k = col k := fun k hk => by
    unfold paint
    split
    · rename_i e; exact (hvc k e hk).symm
    · rfl
  have hoth : ∀ {e size m : Nat} {v : Value} {xs : List Value} {t : Nat}, Own w e size v m xs (fun k => col k = some t) → t ≠ 1 → t ≠ 4 + 2 * n → Own (w1.setCell ⟨g, n * 5 + 4, none⟩ v') e size v m xs (fun k => paint col v' (4 + 2 * n) k = some t) := by
    intro e size m v xs t ho ht1 ht2
    refine own_paint ho (fun k hk hcc => hm2 k hk (by rw [hcc]; simp; omega) (fun e => ?_)) (fun k hk hlt e => ?_)
    · rw [e, hgc] at hcc; injection hcc with hcc; omega
    · rw [hvc k hk hlt] at e; injection e with e; omega
  refine ⟨⟨vl, vw, kv0, fun j => if j = n then v' else wv0 j, ?_, ?_, ?_, ?_, ?_, ?_⟩, ?_, hpo⟩
  · rw [hm2 bt (h6 bt (by rw [h2]; simp)) (by rw [h2]; simp; omega) (fun e => by rw [e, hgc] at h2; simp at h2)]
    exact h1
  · rw [hpo bt (h6 bt (by rw [h2]; simp))]; exact h2
  · have h31 : Own w1 128 5 vl T.nodes.length (nodeCells kv0 wv0 T.nodes) (fun k => col k = some 1) := h3.move (fun k hk hc => hm1 k hk (by rw [hc]; simp; omega))
    have h32 := h31.stored hgo (n * 5 + 4) v' (by unfold nodeCells; rw [nodeCellsFrom_length]; omega)
    rw [TTree.len_setNw]
    have e1 : nodeCells kv0 (fun j => if j = n then v' else wv0 j) (T.setNw n l').nodes = (nodeCells kv0 wv0 T.nodes).set (n * 5 + 4) v' := by
      unfold nodeCells
      rw [nodeCellsFrom_setW kv0 wv0 v' (fun x => { x with words := l' }) (fun x => ⟨rfl, rfl, rfl⟩) T.nodes 0 n hn]
      simp [TTree.setNw]
    rw [e1]
    refine ⟨h32.1, fun k hk => ?_⟩
    have hkg : k = g := by rw [hgo] at hk; injection hk with hk; exact hk.symm
    show paint col v' (4 + 2 * n) k = some 1
    rw [hkg, hpo _ hgw]; exact hgc
  · exact hoth h4 (by omega) (by omega)
  · intro i hi
    rw [TTree.len_setNw] at hi
    have hnode := TTree.node_setNw T n l' i
    constructor
    · have e1 : (T.setNw n l').kids i = T.kids i := by unfold TTree.kids; rw [hnode]; split <;> rfl
      rw [e1]
      exact hoth (h5 i hi).1 (by omega) (by omega)
    · by_cases hin : i = n
      · subst hin
        have e1 : (T.setNw i l').nw i = l' := by unfold TTree.nw; rw [hnode, if_pos ⟨rfl, hn⟩]
        rw [e1]
        simp only [if_true]
        have hown : Own w1 3 1 v' l'.length (intCells .i64 l') (fun k => paint col v' (4 + 2 * i) k = some (4 + 2 * i)) := ⟨ho, fun k hk => by show paint col v' (4 + 2 * i) k = _; unfold paint; rw [if_pos hk]⟩
        refine hown.move (fun k hk hcc => heap_setCell_ne w1 g _ _ k (fun e => ?_))
        rw [e, hpo g hgw, hgc] at hcc
        injection hcc with hcc; omega
      · have e1 : (T.setNw n l').nw i = T.nw i := by unfold TTree.nw; rw [hnode, if_neg (fun h => hin h.1)]
        rw [e1]
        simp only [if_neg hin]
        exact hoth (h5 i hi).2 (by omega) (by omega)
  · intro k hk
    rw [size_setCell]
    by_cases hlt : k < w.heap.size
    · exact Nat.lt_of_lt_of_le hlt hg.size
    · unfold paint at hk
      split at hk
      · rename_i e
        exact (ho.lt k e).2
      · exact absurd (h6 k hk) hlt
  · refine ⟨hg.os, hg.tape, hg.output, by rw [size_setCell]; exact hg.size, fun k hk hn' => ?_⟩
    have hcn : col k = none := by simpa using hn'
    exact hm2 k hk (by rw [hcn]; simp) (fun e => by rw [e, hgc] at hcn; cases hcn)
theorem ownsRow_unique {w : World} {base base' : Nat} {e size n : Nat} {v : Value} {xs ys : List Value} (h : w.ownsRow base e size v n xs) (h' : w.ownsRow base' e size v n ys) : xs = ys := by
  rcases h.2 with ⟨hv, hn⟩ | ⟨g, cap, cur, hv, _, hh, _, _, _, ht⟩
  · subst hn
    have e1 : xs = [] := List.eq_nil_of_length_eq_zero (by simpa using h.1)
    have e2 : ys = [] := List.eq_nil_of_length_eq_zero (by simpa using h'.1)
    rw [e1, e2]
  · rcases h'.2 with ⟨hv', hn⟩ | ⟨g', cap', cur', hv', _, hh', _, _, _, ht'⟩
    · rw [hv] at hv'; cases hv'
    · rw [hv] at hv'
      have : g = g' := by injection hv' with hv'; injection hv' with hv'; injection hv' with hv'
      subst this
      rw [hh] at hh'
      injection hh' with hh'
      injection hh' with hh'
      rw [← ht, ← ht', hh']

/-- A node more behind the others. -/
theorem TreeAt.pushNode {w w1 : World} {bt : Nat} {T : TTree} {col : Nat → Option Nat} (h : TreeAt w bt T col) {vl v1 : Value} (hc : w.cell? ⟨bt, 0, none⟩ = some vl) {xs : List Value} (hx : w.ownsRow 0 128 5 vl T.nodes.length xs)
    {up p depth : Int} (ho : w1.ownsRow 0 128 5 v1 (T.nodes.length + 1) (xs ++ [.int .i64 up, .int .u64 p, .int .i64 depth, .slice none 0 0, .slice none 0 0])) (hg : w.grownBy w1 vl.ownBlock)
    (hb : ∀ k, v1.ownBlock = some k → vl.ownBlock = some k ∨ w.heap.size ≤ k) :
    TreeAt (w1.setCell ⟨bt, 0, none⟩ v1) bt (T.pushNode ⟨up, p, depth, [], []⟩) (paint col v1 1) ∧ Mods (fun k => col k ≠ none) w (w1.setCell ⟨bt, 0, none⟩ v1) ∧ (∀ k, k < w.heap.size → paint col v1 1 k = col k) := by
  obtain ⟨vl0, vw, kv0, wv0, h1, h2, h3, h4, h5, h6⟩ := h
  have hvl : vl0 = vl := by
    rw [cell_of_row w bt 0 _ _ (0, 0) h1] at hc
    simpa using hc
  subst hvl
  have hxs := ownsRow_unique hx h3.1
  subst hxs
  have hbw : bt < w.heap.size := h6 bt (by rw [h2]; simp)
  have hkc : ∀ k, vl0.ownBlock = some k → col k = some 1 := h3.2
  have hm1 : ∀ k, k < w.heap.size → col k ≠ some 1 → w1.heap[k]? = w.heap[k]? := fun k hk hne => hg.block k hk (fun e => hne (hkc k e.symm))
  have hm2 : ∀ k, k < w.heap.size → col k ≠ some 1 → k ≠ bt → (w1.setCell ⟨bt, 0, none⟩ v1).heap[k]? = w.heap[k]? := fun k hk hne hkg => (heap_setCell_ne w1 bt _ _ k hkg).trans (hm1 k hk hne)
  have hvc : ∀ k, v1.ownBlock = some k → k < w.heap.size → col k = some 1 := fun k hk hlt => by
    rcases hb k hk with hb | hb
    · exact hkc k hb
    · omega
  have hpo : ∀ k, k < w.heap.size → paint col v1 1 k = col k := fun k hk => by
    unfold paint
    split
    · rename_i e; exact (hvc k e hk).symm
    · rfl
  have hoth : ∀ {e size m : Nat} {v : Value} {xs : List Value} {t : Nat}, Own w e size v m xs (fun k => col k = some t) → t ≠ 1 → t ≠ 0 → Own (w1.setCell ⟨bt, 0, none⟩ v1) e size v m xs (fun k => paint col v1 1 k = some t) := by
    intro e size m v xs t ho ht1 ht2
    refine own_paint ho (fun k hk hcc => hm2 k hk (by rw [hcc]; simp; omega) (fun e => ?_)) (fun k hk hlt e => ?_)
    · rw [e, h2] at hcc; injection hcc with hcc; omega
    · rw [hvc k hk hlt] at e; injection e with e; omega
  have hb1 : w1.heap[bt]? = some (.cells #[vl0, vw] 131 (0, 0)) := (hm1 bt hbw (by rw [h2]; simp)).trans h1
  refine ⟨⟨v1, vw, fun j => if j = T.nodes.length then .slice none 0 0 else kv0 j, fun j => if j = T.nodes.length then .slice none 0 0 else wv0 j, ?_, ?_, ?_, ?_, ?_, ?_⟩, ?_, hpo⟩
  · simp [World.setCell, Array.getElem?_modify, hb1]
  · rw [hpo bt hbw]; exact h2
  · have e1 : nodeCells (fun j => if j = T.nodes.length then .slice none 0 0 else kv0 j) (fun j => if j = T.nodes.length then .slice none 0 0 else wv0 j) (T.pushNode ⟨up, p, depth, [], []⟩).nodes = nodeCells kv0 wv0 T.nodes ++ [.int .i64 up, .int .u64 p, .int .i64 depth, .slice none 0 0, .slice none 0 0] := by
      unfold nodeCells TTree.pushNode
      rw [nodeCellsFrom_append]
      congr 1
      · exact nodeCellsFrom_congr _ _ (fun q _ hq => by simp [show q ≠ T.nodes.length by omega])
      · simp [nodeCellsFrom]
    have hlen : (T.pushNode ⟨up, p, depth, [], []⟩).nodes.length = T.nodes.length + 1 := by simp [TTree.pushNode]
    rw [e1, hlen]
    have hown : Own w1 128 5 v1 (T.nodes.length + 1) (nodeCells kv0 wv0 T.nodes ++ [.int .i64 up, .int .u64 p, .int .i64 depth, .slice none 0 0, .slice none 0 0]) (fun k => paint col v1 1 k = some 1) := ⟨ho, fun k hk => by show paint col v1 1 k = _; unfold paint; rw [if_pos hk]⟩
    refine hown.move (fun k hk hcc => heap_setCell_ne w1 bt _ _ k (fun e => ?_))
    rw [e, hpo bt hbw, h2] at hcc
    injection hcc with hcc; omega
  · exact hoth h4 (by omega) (by omega)
  · intro i hi
    have hlen : (T.pushNode ⟨up, p, depth, [], []⟩).nodes.length = T.nodes.length + 1 := by simp [TTree.pushNode]
    rw [hlen] at hi
    by_cases hil : i < T.nodes.length
    · have e1 : (T.pushNode ⟨up, p, depth, [], []⟩).kids i = T.kids i := by unfold TTree.kids; rw [TTree.node_push_lt _ _ hil]
      have e2 : (T.pushNode ⟨up, p, depth, [], []⟩).nw i = T.nw i := by unfold TTree.nw; rw [TTree.node_push_lt _ _ hil]
      rw [e1, e2]
      simp only [if_neg (show ¬ i = T.nodes.length by omega)]
      exact ⟨hoth (h5 i hil).1 (by omega) (by omega), hoth (h5 i hil).2 (by omega) (by omega)⟩
    · have hie : i = T.nodes.length := by omega
      subst hie
      have e1 : (T.pushNode ⟨up, p, depth, [], []⟩).kids T.nodes.length = [] := by unfold TTree.kids; rw [TTree.node_push_eq]
      have e2 : (T.pushNode ⟨up, p, depth, [], []⟩).nw T.nodes.length = [] := by unfold TTree.nw; rw [TTree.node_push_eq]
      rw [e1, e2]
      simp only [if_true]
      exact ⟨Own.nil _ _ _ _, Own.nil _ _ _ _⟩
  · intro k hk
    rw [size_setCell]
    by_cases hlt : k < w.heap.size
    · exact Nat.lt_of_lt_of_le hlt hg.size
    · unfold paint at hk
      split at hk
      · rename_i e
        exact (ho.lt k e).2
      · exact absurd (h6 k hk) hlt
  · refine ⟨hg.os, hg.tape, hg.output, by rw [size_setCell]; exact hg.size, fun k hk hn' => ?_⟩
    have hcn : col k = none := by simpa using hn'
    exact hm2 k hk (by rw [hcn]; simp) (fun e => by rw [e, h2] at hcn; cases hcn)

/-- A word's number more behind the others. -/
theorem TreeAt.pushWord {w w1 : World} {bt : Nat} {T : TTree} {col : Nat → Option Nat} (h : TreeAt w bt T col) {vw v1 : Value} (hc : w.cell? ⟨bt, 1, none⟩ = some vw)
    {x : Int} (ho : w1.ownsRow 0 3 1 v1 (T.words.length + 1) (intCells .i64 T.words ++ [.int .i64 x])) (hg : w.grownBy w1 vw.ownBlock)
    (hb : ∀ k, v1.ownBlock = some k → vw.ownBlock = some k ∨ w.heap.size ≤ k) :
    TreeAt (w1.setCell ⟨bt, 1, none⟩ v1) bt (T.pushWord x) (paint col v1 2) ∧ Mods (fun k => col k ≠ none) w (w1.setCell ⟨bt, 1, none⟩ v1) ∧ (∀ k, k < w.heap.size → paint col v1 2 k = col k) := by
  obtain ⟨vl, vw0, kv0, wv0, h1, h2, h3, h4, h5, h6⟩ := h
  have hvl : vw0 = vw := by
    rw [cell_of_row w bt 1 _ _ (0, 0) h1] at hc
    simpa using hc
  subst hvl
  have hbw : bt < w.heap.size := h6 bt (by rw [h2]; simp)
  have hkc : ∀ k, vw0.ownBlock = some k → col k = some 2 := h4.2
  have hm1 : ∀ k, k < w.heap.size → col k ≠ some 2 → w1.heap[k]? = w.heap[k]? := fun k hk hne => hg.block k hk (fun e => hne (hkc k e.symm))
  have hm2 : ∀ k, k < w.heap.size → col k ≠ some 2 → k ≠ bt → (w1.setCell ⟨bt, 1, none⟩ v1).heap[k]? = w.heap[k]? := fun k hk hne hkg => (heap_setCell_ne w1 bt _ _ k hkg).trans (hm1 k hk hne)
  have hvc : ∀ k, v1.ownBlock = some k → k < w.heap.size → col k = some 2 := fun k hk hlt => by
    rcases hb k hk with hb | hb
    · exact hkc k hb
    · omega
  have hpo : ∀ k, k < w.heap.size → paint col v1 2 k = col k := fun k hk => by
    unfold paint
    split
    · rename_i e; exact (hvc k e hk).symm
    · rfl
  have hoth : ∀ {e size m : Nat} {v : Value} {xs : List Value} {t : Nat}, Own w e size v m xs (fun k => col k = some t) → t ≠ 2 → t ≠ 0 → Own (w1.setCell ⟨bt, 1, none⟩ v1) e size v m xs (fun k => paint col v1 2 k = some t) := by
    intro e size m v xs t ho ht1 ht2
    refine own_paint ho (fun k hk hcc => hm2 k hk (by rw [hcc]; simp; omega) (fun e => ?_)) (fun k hk hlt e => ?_)
    · rw [e, h2] at hcc; injection hcc with hcc; omega
    · rw [hvc k hk hlt] at e; injection e with e; omega
  have hb1 : w1.heap[bt]? = some (.cells #[vl, vw0] 131 (0, 0)) := (hm1 bt hbw (by rw [h2]; simp)).trans h1
  refine ⟨⟨vl, v1, kv0, wv0, ?_, ?_, ?_, ?_, ?_, ?_⟩, ?_, hpo⟩
  · simp [World.setCell, Array.getElem?_modify, hb1]
  · rw [hpo bt hbw]; exact h2
  · exact hoth h3 (by omega) (by omega)
  · have e1 : intCells .i64 (T.pushWord x).words = intCells .i64 T.words ++ [.int .i64 x] := by simp [intCells, TTree.pushWord]
    have hlen : (T.pushWord x).words.length = T.words.length + 1 := by simp [TTree.pushWord]
    rw [e1, hlen]
    have hown : Own w1 3 1 v1 (T.words.length + 1) (intCells .i64 T.words ++ [.int .i64 x]) (fun k => paint col v1 2 k = some 2) := ⟨ho, fun k hk => by show paint col v1 2 k = _; unfold paint; rw [if_pos hk]⟩
    refine hown.move (fun k hk hcc => heap_setCell_ne w1 bt _ _ k (fun e => ?_))
    rw [e, hpo bt hbw, h2] at hcc
    injection hcc with hcc; omega
  · intro i hi
    exact ⟨hoth (h5 i hi).1 (by omega) (by omega), hoth (h5 i hi).2 (by omega) (by omega)⟩
  · intro k hk
    rw [size_setCell]
    by_cases hlt : k < w.heap.size
    · exact Nat.lt_of_lt_of_le hlt hg.size
    · unfold paint at hk
      split at hk
      · rename_i e
        exact (ho.lt k e).2
      · exact absurd (h6 k hk) hlt
  · refine ⟨hg.os, hg.tape, hg.output, by rw [size_setCell]; exact hg.size, fun k hk hn' => ?_⟩
    have hcn : col k = none := by simpa using hn'
    exact hm2 k hk (by rw [hcn]; simp) (fun e => by rw [e, h2] at hcn; cases hcn)

/-- What more the tree's two cells tell: the colours, and that nothing is frozen. -/
theorem TreeAt.more {w : World} {bt : Nat} {T : TTree} {col : Nat → Option Nat} (h : TreeAt w bt T col) {g c : Nat} (hc : w.cell? ⟨bt, 0, none⟩ = some (.slice (some ⟨g, 0, none⟩) T.nodes.length c)) :
    col bt = some 0 ∧ col g = some 1 ∧ bt < w.heap.size ∧ g < w.heap.size ∧ (∀ j, w.frozen? ⟨bt, j, none⟩ = false) ∧ (∀ j, w.frozen? ⟨g, j, none⟩ = false) ∧
      ∃ xs, w.ownsRow 0 128 5 (.slice (some ⟨g, 0, none⟩) T.nodes.length c) T.nodes.length xs := by
  obtain ⟨vl, vw, kv, wv, h1, h2, h3, h4, h5, h6⟩ := h
  have hvl : vl = .slice (some ⟨g, 0, none⟩) T.nodes.length c := by
    rw [cell_of_row w bt 0 _ _ (0, 0) h1] at hc
    simpa using hc
  subst hvl
  refine ⟨h2, h3.2 g rfl, h6 bt (by rw [h2]; simp), h3.lt g rfl, fun j => by simp [World.frozen?, h1], fun j => h3.1.frozenAt j, _, h3.1⟩
end Go.Proofs.Ytlkiajepahkliaa

namespace Go.Proofs.Ytlkiajepahkliaa
set_option linter.unusedVariables false
set_option linter.unusedSimpArgs false

theorem insAt_length {α : Type} (l : List α) (i : Nat) (x : α) (h : i ≤ l.length) : (insAt l i x).length = l.length + 1 := by simp [insAt]; omega
theorem insAt_getD {α : Type} (l : List α) (i q : Nat) (x d : α) (h : i ≤ l.length) : (insAt l i x).getD q d = if q < i then l.getD q d else if q = i then x else l.getD (q - 1) d := by
  simp only [insAt, List.getD_eq_getElem?_getD]
  by_cases h1 : q < i
  · rw [if_pos h1, List.getElem?_append_left (by simp; omega), List.getElem?_take, if_pos h1]
  · rw [if_neg h1, List.getElem?_append_right (by simp; omega)]
    simp only [List.length_take, Nat.min_eq_left h]
    by_cases h2 : q = i
    · subst h2; simp
    · rw [if_neg h2]
      obtain ⟨r, hr⟩ : ∃ r, q - i = r + 1 := ⟨q - i - 1, by omega⟩
      rw [hr, List.getElem?_cons_succ, List.getElem?_drop, show i + r = q - 1 by omega]

theorem place_isPlace {l : List (Int × Int)} (hs : EdgeSorted l) (k : Int) : IsPlace l k (place l k) := by
  have hp : ∀ m : List (Int × Int), (∀ q, q < place m k → (m.getD q (0, 0)).1 < k) ∧ (place m k < m.length → k ≤ (m.getD (place m k) (0, 0)).1) := by
    intro m
    induction m with
    | nil => exact ⟨fun q hq => by simp [place] at hq, fun h => by simp [place] at h⟩
    | cons x m ih =>
      by_cases hx : x.1 < k
      · have e : place (x :: m) k = place m k + 1 := by simp [place, List.takeWhile_cons, hx]
        rw [e]
        refine ⟨fun q hq => ?_, fun h => ?_⟩
        · cases q with
          | zero => simpa using hx
          | succ q => simpa using ih.1 q (by omega)
        · simpa using ih.2 (by simpa using h)
      · have e : place (x :: m) k = 0 := by simp [place, List.takeWhile_cons, hx]
        rw [e]
        exact ⟨fun q hq => by omega, fun _ => by simp; omega⟩
  refine ⟨place_le l k, (hp l).1, fun q hq hql => ?_⟩
  have h1 := (hp l).2 (by omega)
  rcases Nat.lt_or_ge (place l k) q with h2 | h2
  · have := hs (place l k) q h2 hql
    omega
  · rw [show q = place l k by omega]; exact h1

theorem EdgeSorted.ins {l : List (Int × Int)} (hs : EdgeSorted l) {k : Int} (t : Int) (hh : hitB l k (place l k) = false) : EdgeSorted (insAt l (place l k) (k, t)) := by
  obtain ⟨h1, h2, h3⟩ := place_isPlace hs k
  have hh' : ¬ (place l k < l.length ∧ (l.getD (place l k) (0, 0)).1 = k) := of_decide_eq_false hh
  generalize place l k = i at *
  intro a b hab hb
  rw [insAt_length l i _ h1] at hb
  rw [insAt_getD l i a _ _ h1, insAt_getD l i b _ _ h1]
  by_cases ha1 : a < i
  · rw [if_pos ha1]
    by_cases hb1 : b < i
    · rw [if_pos hb1]; exact hs a b hab (by omega)
    · rw [if_neg hb1]
      by_cases hb2 : b = i
      · rw [if_pos hb2]; exact h2 a ha1
      · rw [if_neg hb2]; exact hs a (b - 1) (by omega) (by omega)
  · rw [if_neg ha1, if_neg (show ¬ b < i by omega), if_neg (show ¬ b = i by omega)]
    by_cases ha2 : a = i
    · rw [if_pos ha2]
      have h4 := h3 (b - 1) (by omega) (by omega)
      show k < (l.getD (b - 1) (0, 0)).1
      rcases Nat.lt_or_ge i (b - 1) with h5 | h5
      · have := hs i (b - 1) h5 (by omega)
        have := h3 i (Nat.le_refl _) (by omega)
        omega
      · have h6 : b - 1 = i := by omega
        rw [h6] at h4 ⊢
        have : ¬ (l.getD i (0, 0)).1 = k := fun e => hh' ⟨by omega, e⟩
        omega
    · rw [if_neg ha2]; exact hs (a - 1) (b - 1) (by omega) (by omega)

namespace TTree
/-- A child more at a node. -/
def addKid (T : TTree) (n : Nat) (p : Int) : TTree := (T.setKids n (insAt (T.kids n) (place (T.kids n) p) (p, T.nodes.length))).pushNode ⟨n, p, (T.node n).depth + 1, [], []⟩
def addPath (T : TTree) (n : Nat) : List Int → TTree × Nat
  | [] => (T, n)
  | p :: l => (T.addKid n p).addPath T.nodes.length l
def addWord (T : TTree) (n : Nat) : TTree := (T.setNw n (T.nw n ++ [(T.words.length : Int)])).pushWord n
def put (T : TTree) (l : List Int) : TTree × Int × Int :=
  if l = [] then (T, -1, 1)
  else if (T.nodes.length : Int) + l.length - (T.walk l).2 > 1048576 then (T, -1, 8)
  else (((T.addPath (T.walk l).1.toNat (l.drop (T.walk l).2.toNat)).1.addWord (T.addPath (T.walk l).1.toNat (l.drop (T.walk l).2.toNat)).2), T.words.length, 0)

theorem len_addKid (T : TTree) (n : Nat) (p : Int) : (T.addKid n p).nodes.length = T.nodes.length + 1 := by simp [addKid, pushNode, setKids]
theorem words_addKid (T : TTree) (n : Nat) (p : Int) : (T.addKid n p).words = T.words := rfl
theorem node_addKid (T : TTree) (n : Nat) (p : Int) (hn : n < T.nodes.length) (i : Nat) : (T.addKid n p).node i =
    if i = T.nodes.length then ⟨n, p, (T.node n).depth + 1, [], []⟩ else if i = n then { T.node n with kids := insAt (T.kids n) (place (T.kids n) p) (p, T.nodes.length) } else T.node i := by
  have hl : (T.setKids n (insAt (T.kids n) (place (T.kids n) p) (p, T.nodes.length))).nodes.length = T.nodes.length := len_setKids _ _ _
  by_cases h1 : i < T.nodes.length
  · rw [if_neg (by omega), addKid, node_push_lt _ _ (by omega), node_setKids]
    by_cases h2 : i = n
    · subst h2; rw [if_pos ⟨rfl, hn⟩, if_pos rfl]
    · rw [if_neg (fun h => h2 h.1), if_neg h2]
  · by_cases h2 : i = T.nodes.length
    · rw [if_pos h2, h2]
      have := node_push_eq (T.setKids n (insAt (T.kids n) (place (T.kids n) p) (p, (T.nodes.length : Int)))) ⟨n, p, (T.node n).depth + 1, [], []⟩
      rw [hl] at this
      exact this
    · rw [if_neg h2, if_neg (by omega)]
      simp only [node, List.getD_eq_getElem?_getD]
      rw [List.getElem?_eq_none (by rw [len_addKid]; omega), List.getElem?_eq_none (by omega)]

theorem walkFrom_spec {T : TTree} (ok : TreeOk T) : ∀ (l : List Int) (n i : Int), 0 ≤ n → n < T.nodes.length →
    0 ≤ (T.walkFrom n i l).1 ∧ (T.walkFrom n i l).1 < T.nodes.length ∧ i ≤ (T.walkFrom n i l).2 ∧ (T.walkFrom n i l).2 ≤ i + l.length ∧
      ((T.walkFrom n i l).2 < i + l.length → T.child (T.walkFrom n i l).1 (l.getD ((T.walkFrom n i l).2 - i).toNat 0) = -1) := by
  intro l
  induction l with
  | nil => intro n i h0 h1; simp only [walkFrom]; refine ⟨h0, h1, by omega, by simp, fun h => by simp at h⟩
  | cons p l ih =>
    intro n i h0 h1
    simp only [walkFrom]
    by_cases hc : T.child n p = -1
    · rw [if_pos hc]
      exact ⟨h0, h1, by omega, by simp only [List.length_cons]; omega, fun _ => by simpa using hc⟩
    · rw [if_neg hc]
      have hr := (child_range ok n p).resolve_left hc
      obtain ⟨h2, h3, h4, h5, h6⟩ := ih (T.child n p) (i + 1) hr.1 hr.2
      refine ⟨h2, h3, by omega, by simp only [List.length_cons]; omega, fun h => ?_⟩
      have := h6 (by simp only [List.length_cons] at h; omega)
      rw [show ((T.walkFrom (T.child n p) (i + 1) l).2 - i).toNat = ((T.walkFrom (T.child n p) (i + 1) l).2 - (i + 1)).toNat + 1 by omega]
      simpa using this

/-- What a walk comes to, as natural numbers. -/
theorem walk_spec {T : TTree} (ok : TreeOk T) (l : List Int) : ∃ m d : Nat, T.walk l = ((m : Int), (d : Int)) ∧ m < T.nodes.length ∧ d ≤ l.length ∧ (d < l.length → hitB (T.kids m) (l.getD d 0) (place (T.kids m) (l.getD d 0)) = false) := by
  have hpos := ok.pos
  obtain ⟨h1, h2, h3, h4, h5⟩ := walkFrom_spec ok l 0 0 (by omega) (by omega)
  refine ⟨(T.walkFrom 0 0 l).1.toNat, (T.walkFrom 0 0 l).2.toNat, ?_, by omega, by omega, fun h => ?_⟩
  · unfold walk
    rw [Int.toNat_of_nonneg h1, Int.toNat_of_nonneg h3]
  · have h6 := h5 (by omega)
    rw [show ((T.walkFrom 0 0 l).2 - 0).toNat = (T.walkFrom 0 0 l).2.toNat by omega] at h6
    cases hh : hitB (T.kids (T.walkFrom 0 0 l).1.toNat) (l.getD (T.walkFrom 0 0 l).2.toNat 0) (place (T.kids (T.walkFrom 0 0 l).1.toNat) (l.getD (T.walkFrom 0 0 l).2.toNat 0)) with
    | false => rfl
    | true =>
      exfalso
      have hin : inB T (T.walkFrom 0 0 l).1 = true := by simp [inB, h1, h2]
      unfold child at h6
      rw [if_pos hin, if_pos hh] at h6
      have hh2 := of_decide_eq_true hh
      have := (ok.kid _ (by omega) _ hh2.1).1
      omega
end TTree

theorem TreeOk.addKid {T : TTree} (ok : TreeOk T) {n : Nat} (hn : n < T.nodes.length) {p : Int} (hp : hitB (T.kids n) p (place (T.kids n) p) = false) (hl : T.nodes.length < 1048576) : TreeOk (T.addKid n p) := by
  have hk : ∀ i, (T.addKid n p).kids i = if i = T.nodes.length then [] else if i = n then insAt (T.kids n) (place (T.kids n) p) (p, T.nodes.length) else T.kids i := by
    intro i
    unfold TTree.kids
    rw [TTree.node_addKid T n p hn i]
    split
    · rfl
    · split <;> rfl
  have hw : ∀ i, (T.addKid n p).nw i = if i = T.nodes.length then [] else T.nw i := by
    intro i
    unfold TTree.nw
    rw [TTree.node_addKid T n p hn i]
    split
    · rfl
    · split
      · rename_i h1 h2; rw [h2]
      · rfl
  have hil := insAt_length (T.kids n) (place (T.kids n) p) (p, (T.nodes.length : Int)) (place_le _ _)
  constructor
  · rw [TTree.len_addKid]; omega
  · rw [TTree.len_addKid]; omega
  · exact ok.words
  · intro i hi
    rw [hk i]
    split
    · intro a b _ hb; simp at hb
    · split
      · exact (ok.sorted n hn).ins _ hp
      · rw [TTree.len_addKid] at hi; exact ok.sorted i (by omega)
  · intro i hi
    rw [hk i, TTree.len_addKid]
    split
    · simp
    · split
      · rw [hil]; have := ok.few n hn; omega
      · rw [TTree.len_addKid] at hi; have := ok.few i (by omega); omega
  · intro i hi q
    rw [hk i, TTree.len_addKid]
    split
    · intro hq; simp at hq
    · split
      · intro hq
        rw [hil] at hq
        rw [insAt_getD _ _ _ _ _ (place_le _ _)]
        split
        · have := ok.kid n hn q (by rename_i h1 h2 h3; have := place_le (T.kids n) p; omega); omega
        · split
          · simp only; omega
          · have := ok.kid n hn (q - 1) (by omega); omega
      · intro hq
        rw [TTree.len_addKid] at hi
        have := ok.kid i (by omega) q hq
        omega
  · intro i hi
    rw [hw i]
    split
    · simp
    · rw [TTree.len_addKid] at hi; exact ok.nw i (by omega)
  · intro i hi
    rw [TTree.node_addKid T n p hn i, TTree.len_addKid]
    rw [TTree.len_addKid] at hi
    have h1 := ok.depth n hn
    split
    · simp only; omega
    · split
      · simp only; omega
      · have := ok.depth i (by omega); omega
  · intro i hi
    rw [TTree.node_addKid T n p hn i]
    rw [TTree.len_addKid] at hi
    split
    · simp only; omega
    · split
      · rename_i h1 h2; subst h2; exact ok.up i hn
      · exact ok.up i (by omega)

theorem TreeOk.addWord {T : TTree} (ok : TreeOk T) {n : Nat} (hw : T.words.length < 1073741824) : TreeOk (T.addWord n) := by
  have hnode : ∀ i, (T.addWord n).node i = (T.setNw n (T.nw n ++ [(T.words.length : Int)])).node i := fun i => rfl
  have hlen : (T.addWord n).nodes.length = T.nodes.length := by simp [TTree.addWord, TTree.pushWord, TTree.setNw]
  have hk : ∀ i, (T.addWord n).kids i = T.kids i := by
    intro i; unfold TTree.kids; rw [hnode, TTree.node_setNw]; split <;> rfl
  have hd : ∀ i, ((T.addWord n).node i).depth = (T.node i).depth := by
    intro i; rw [hnode, TTree.node_setNw]; split <;> rfl
  have hwl : (T.addWord n).words.length = T.words.length + 1 := by simp [TTree.addWord, TTree.pushWord, TTree.setNw]
  constructor
  · rw [hlen]; exact ok.pos
  · rw [hlen]; exact ok.le
  · rw [hwl]; omega
  · intro i hi; rw [hk]; rw [hlen] at hi; exact ok.sorted i hi
  · intro i hi; rw [hk, hlen]; rw [hlen] at hi; exact ok.few i hi
  · intro i hi; rw [hk, hlen]; rw [hlen] at hi; exact ok.kid i hi
  · intro i hi
    rw [hlen] at hi
    have := ok.nw i hi
    rw [hwl]
    unfold TTree.nw
    rw [hnode, TTree.node_setNw]
    split
    · rename_i h1
      have h2 := ok.nw n h1.2
      simp only [List.length_append, List.length_singleton]; omega
    · exact Nat.le_succ_of_le this
  · intro i hi; rw [hd, hlen]; rw [hlen] at hi; exact ok.depth i hi
  · intro i hi
    have hu : ((T.addWord n).node i).up = (T.node i).up := by rw [hnode, TTree.node_setNw]; split <;> rfl
    rw [hu]; rw [hlen] at hi; exact ok.up i hi
end Go.Proofs.Ytlkiajepahkliaa
