/- The search in a sorted list of edges (trie.seek, trie.at): what the calls answer. What may have turned in memory (Mods), rows of the calls' own by what blocks they lie in (Own), a copy of elements of more than one cell. -/
import Derived.Test.YtlkiajepahkliaaProg
import Derived.WalkKit
import Derived.WalkSpells
import Derived.WalkLawsBesides
import Derived.Lib.Hide
import Derived.Maps.AppendAt
import Derived.Laws.CopyRow
namespace Go.Proofs.Ytlkiajepahkliaa
open Go.RowKit

/-- -1, 0, 1: how two numbers stand. -/
def cmp3 (a b : Int) : Int := if a < b then -1 else if b < a then 1 else 0
theorem cmp3_lt {a b : Int} (h : a < b) : cmp3 a b = -1 := by simp [cmp3, h]
theorem cmp3_gt {a b : Int} (h : b < a) : cmp3 a b = 1 := by simp [cmp3, h]; omega
theorem cmp3_eq {a b : Int} (h : b ≤ a) (h' : a ≤ b) : cmp3 a b = 0 := by simp only [cmp3]; rw [if_neg (by omega), if_neg (by omega)]
theorem cmp3_neg {a b : Int} : cmp3 a b < 0 ↔ a < b := by simp only [cmp3]; (repeat' split) <;> omega
theorem cmp3_zero {a b : Int} : cmp3 a b = 0 ↔ a = b := by simp only [cmp3]; (repeat' split) <;> omega
theorem ret_int {k : IntKind} {a b : Int} (h : a = b) : Ending.returned (.int k a) = .returned (.int k b) := by rw [h]
theorem ret_ib {k : IntKind} {a a' : Int} {b b' : Bool} (h : a = a') (h' : b = b') : Ending.returned (.tuple #[.int k a, .bool b]) = .returned (.tuple #[.int k a', .bool b']) := by rw [h, h']
theorem ret_bool {a b : Bool} (h : a = b) : Ending.returned (.bool a) = .returned (.bool b) := by rw [h]

set_option maxHeartbeats 400000 in
theorem cmpPixel_calls (a b : Int) (w : World) :
    Calls Try.prog 137 #[.int .u64 a, .int .u64 b] w fun e w' => e = .returned (.int .i64 (cmp3 a b)) ∧ w = w' := by
  go_enter Try.func137, Try.ntmps137
  go_wp2
  · go_ret; exact ⟨ret_int (cmp3_lt (by assumption)).symm, rfl⟩
  · go_ret; exact ⟨ret_int (cmp3_gt (by assumption)).symm, rfl⟩
  · go_ret; exact ⟨ret_int (cmp3_eq (by assumption) (by assumption)).symm, rfl⟩

set_option maxHeartbeats 400000 in
theorem edgeKey_calls (p t : Int) (w : World) :
    Calls Try.prog 110 #[.agg #[.int .u64 p, .int .i64 t]] w fun e w' => e = .returned (.int .u64 p) ∧ Below w.heap.size w w' := by
  go_enter Try.func110, Try.ntmps110
  go_wp2
  go_ret
  exact ⟨rfl, (Below.refl _ _).alloc (Nat.le_refl _) _⟩

set_option maxHeartbeats 400000 in
theorem seekCmp_calls (p t k : Int) (bk : Nat) (w : World) (h : w.cell? ⟨bk, 0, none⟩ = some (.func (.func 110) #[] #[])) :
    Calls Try.prog 136 #[.agg #[.int .u64 p, .int .i64 t], .int .u64 k, .pointer (some ⟨bk, 0, none⟩)] w fun e w' => e = .returned (.int .i64 (cmp3 p k)) ∧ Below w.heap.size w w' := by
  have hb := World.block_lt_of_cell? w _ h
  simp only at hb
  go_enter Try.func136, Try.ntmps136
  go_wp2_with (first | (go_at_call 137; refine (cmpPixel_calls _ _ _).mono ?_; rintro e w' ⟨rfl, rfl⟩) | (go_at_call 110; refine (edgeKey_calls _ _ _).mono ?_; rintro e w1 ⟨rfl, hb1⟩))
  go_ret
  exact ⟨rfl, ((Below.refl _ _).alloc (Nat.le_refl _) _).trans (hb1.mono (by simp))⟩

/-- The cells of a row of edges. -/
def edgeCells (l : List (Int × Int)) : List Value := l.flatMap fun x => [.int .u64 x.1, .int .i64 x.2]

/-- Where a number stands, or would, in a sorted list of edges. -/
def seekAt (l : List (Int × Int)) (k : Int) : Nat := (l.takeWhile fun x => decide (x.1 < k)).length

set_option maxHeartbeats 400000 in
theorem search_calls (b off : Nat) (l : List (Int × Int)) (c : Nat) (k : Int) (bk : Nat) (w : World)
    (h : w.cell? ⟨bk, 0, none⟩ = some (.func (.func 110) #[] #[])) (hc : l.length ≤ 1099511627776) (hs : ∀ i j, i < j → j < l.length → (l.getD i (0, 0)).1 < (l.getD j (0, 0)).1)
    (hr : ∀ i, i < l.length → w.cell? ⟨b, off + i * 2, none⟩ = some (.int .u64 (l.getD i (0, 0)).1) ∧ w.cell? ⟨b, off + i * 2 + 1, none⟩ = some (.int .i64 (l.getD i (0, 0)).2)) :
    Calls Try.prog 135 #[.slice (some ⟨b, off, none⟩) l.length c, .int .u64 k, .func (.func 136) #[] #[.pointer (some ⟨bk, 0, none⟩)]] w fun e w' =>
      ∃ i : Nat, (i ≤ l.length ∧ (∀ q, q < i → (l.getD q (0, 0)).1 < k) ∧ (∀ q, i ≤ q → q < l.length → k ≤ (l.getD q (0, 0)).1)) ∧ e = .returned (.tuple #[.int .i64 i, .bool (decide (i < l.length ∧ (l.getD i (0, 0)).1 = k))]) ∧ Below w.heap.size w w' := by
  go_enter Try.func135, Try.ntmps135
  go_wp2_with fail
  go_loopw [9, 10] (fun x y wr => ∃ i j : Nat, x = .int .i64 i ∧ y = .int .i64 j ∧ i ≤ j ∧ j ≤ l.length ∧ (∀ q, q < i → (l.getD q (0, 0)).1 < k) ∧ (∀ q, j ≤ q → q < l.length → k ≤ (l.getD q (0, 0)).1) ∧ Below w.heap.size w wr) (fun x y _ => (intOf y - intOf x).toNat)
  case atStart => exact ⟨0, l.length, rfl, rfl, by omega, by omega, fun q hq => by omega, fun q hq hq' => by omega, Below.refl _ _⟩
  case round =>
    obtain ⟨i, j, rfl, rfl, hij, hj, h1, h2, hB⟩ := hrel
    have hbk := World.block_lt_of_cell? w _ h
    have hcb : wr.cell? ⟨bk, 0, none⟩ = some (.func (.func 110) #[] #[]) := by rw [hB.cell hbk]; exact h
    have h1' := Lib.hid h1
    have h2' := Lib.hid h2
    have hs' := Lib.hid hs
    have hr' := Lib.hid hr
    clear h1 h2 hs hr h hbk
    by_cases hlt : i < j
    · have hm := hr'.out ((i + j) / 2) (by omega)
      obtain ⟨px, tx, hx⟩ : ∃ px tx, l.getD ((i + j) / 2) (0, 0) = (px, tx) := ⟨_, _, rfl⟩
      rw [hx] at hm
      have e1 : wr.cell? ⟨b, off + (i + j) / 2 * 2, none⟩ = some (.int .u64 px) := by rw [hB.cell (World.block_lt_of_cell? w _ hm.1)]; exact hm.1
      have e2 : wr.cell? ⟨b, off + (i + j) / 2 * 2 + 1, none⟩ = some (.int .i64 tx) := by rw [hB.cell (World.block_lt_of_cell? w _ hm.2)]; exact hm.2
      have hx' := Lib.hid hx
      clear hm hx
      go_wp2_with fail
      refine (seekCmp_calls px tx k bk _ hcb).mono ?_
      rintro e w1 ⟨rfl, hb1⟩
      have hB1 : Below w.heap.size w w1 := hB.trans (hb1.mono hB.size)
      clear hcb e1 e2
      by_cases hpk : px < k
      · rw [cmp3_lt hpk]
        go_wp2_with fail
        go_roundw
        case rel =>
          refine ⟨(i + j) / 2 + 1, j, by go_num, rfl, by omega, by omega, fun q hq => ?_, h2'.out, hB1⟩
          rcases Nat.lt_or_ge q ((i + j) / 2) with hq' | hq'
          · have := hs'.out q ((i + j) / 2) hq' (by omega)
            rw [hx'.out] at this
            simp only at this; omega
          · rw [show q = (i + j) / 2 by omega, hx'.out]; exact hpk
        case measure => simp [intOf]; omega
      · have hle : ¬ cmp3 px k < 0 := by rw [cmp3_neg]; exact hpk
        go_wp2_with fail
        go_roundw
        case rel =>
          refine ⟨i, (i + j) / 2, rfl, by go_num, by omega, by omega, h1'.out, fun q hq hql => ?_, hB1⟩
          rcases Nat.lt_or_ge ((i + j) / 2) q with hq' | hq'
          · have := hs'.out ((i + j) / 2) q hq' hql
            rw [hx'.out] at this
            simp only at this; omega
          · rw [show q = (i + j) / 2 by omega, hx'.out]; show k ≤ px; omega
        case measure => simp [intOf]; omega
    · have hij' : j = i := by omega
      subst hij'
      by_cases hil : j < l.length
      · have hm := hr'.out j hil
        obtain ⟨px, tx, hx⟩ : ∃ px tx, l.getD j (0, 0) = (px, tx) := ⟨_, _, rfl⟩
        rw [hx] at hm
        have e1 : wr.cell? ⟨b, off + j * 2, none⟩ = some (.int .u64 px) := by rw [hB.cell (World.block_lt_of_cell? w _ hm.1)]; exact hm.1
        have e2 : wr.cell? ⟨b, off + j * 2 + 1, none⟩ = some (.int .i64 tx) := by rw [hB.cell (World.block_lt_of_cell? w _ hm.2)]; exact hm.2
        have hx' := Lib.hid hx
        clear hm hx
        go_wp2_with fail
        refine (seekCmp_calls px tx k bk _ hcb).mono ?_
        rintro e w1 ⟨rfl, hb1⟩
        have hB1 : Below w.heap.size w w1 := hB.trans (hb1.mono hB.size)
        go_wp2_with fail
        go_ret2
        refine ⟨j, ⟨by omega, h1'.out, fun q hq hql => h2'.out q hq hql⟩, ?_, hB1⟩
        rw [hx'.out]
        refine ret_ib rfl ?_
        rw [Bool.eq_iff_iff]
        simp [cmp3_zero, hil]
      · go_wp2_with fail
        go_ret2
        refine ⟨j, ⟨by omega, h1'.out, fun q hq hql => by omega⟩, ?_, hB⟩
        refine ret_ib rfl ?_
        simp [hil]

/-- A row of edges that is read. -/
def EdgeRow (w : World) (v : Value) (l : List (Int × Int)) : Prop :=
  ∃ A c, v = .slice A l.length c ∧ l.length ≤ c ∧ (l.length = 0 ∨ ∃ b off, A = some ⟨b, off, none⟩ ∧
    ∀ i, i < l.length → w.cell? ⟨b, off + i * 2, none⟩ = some (.int .u64 (l.getD i (0, 0)).1) ∧ w.cell? ⟨b, off + i * 2 + 1, none⟩ = some (.int .i64 (l.getD i (0, 0)).2))

theorem EdgeRow.below {w w' : World} {v : Value} {l : List (Int × Int)} (h : EdgeRow w v l) (hb : Below w.heap.size w w') : EdgeRow w' v l := by
  obtain ⟨A, c, hv, hc, hr⟩ := h
  refine ⟨A, c, hv, hc, ?_⟩
  rcases hr with h0 | ⟨b, off, hA, hr⟩
  · exact .inl h0
  · refine .inr ⟨b, off, hA, fun i hi => ?_⟩
    obtain ⟨h1, h2⟩ := hr i hi
    exact ⟨by rw [hb.cell (World.block_lt_of_cell? w _ h1)]; exact h1, by rw [hb.cell (World.block_lt_of_cell? w _ h2)]; exact h2⟩

/-- The keys rise. -/
def EdgeSorted (l : List (Int × Int)) : Prop := ∀ i j, i < j → j < l.length → (l.getD i (0, 0)).1 < (l.getD j (0, 0)).1

/-- i is the place of k in l. -/
def IsPlace (l : List (Int × Int)) (k : Int) (i : Nat) : Prop := i ≤ l.length ∧ (∀ q, q < i → (l.getD q (0, 0)).1 < k) ∧ (∀ q, i ≤ q → q < l.length → k ≤ (l.getD q (0, 0)).1)

/-- Whether k stands at i in l. -/
def hitB (l : List (Int × Int)) (k : Int) (i : Nat) : Bool := decide (i < l.length ∧ (l.getD i (0, 0)).1 = k)

set_option maxHeartbeats 400000 in
theorem search_any (v : Value) (l : List (Int × Int)) (k : Int) (bk : Nat) (w : World)
    (h : w.cell? ⟨bk, 0, none⟩ = some (.func (.func 110) #[] #[])) (hl : l.length ≤ 1099511627776) (hs : EdgeSorted l) (hr : EdgeRow w v l) :
    Calls Try.prog 135 #[v, .int .u64 k, .func (.func 136) #[] #[.pointer (some ⟨bk, 0, none⟩)]] w fun e w' =>
      ∃ i : Nat, IsPlace l k i ∧ e = .returned (.tuple #[.int .i64 i, .bool (hitB l k i)]) ∧ Below w.heap.size w w' := by
  obtain ⟨A, c, rfl, hc, hr⟩ := hr
  rcases hr with h0 | ⟨b, off, rfl, hr⟩
  · have hl0 : l = [] := List.eq_nil_of_length_eq_zero h0
    subst hl0
    clear hs
    go_enter Try.func135, Try.ntmps135
    go_wp2_with fail
    refine wp_loop_rounds 1 ?_
    rw [rounds_succ]
    go_wp2_with fail
    go_ret2
    exact ⟨0, ⟨Nat.le_refl _, fun q hq => by omega, fun q _ hq => by simp at hq⟩, ret_ib rfl rfl, Below.refl _ _⟩
  · exact search_calls b off l c k bk w h hl hs hr

set_option maxHeartbeats 400000 in
theorem seek_calls (v : Value) (l : List (Int × Int)) (k : Int) (w : World) (hl : l.length ≤ 1099511627776) (hs : EdgeSorted l) (hr : EdgeRow w v l) :
    Calls Try.prog 109 #[v, .int .u64 k, .func (.func 110) #[] #[]] w fun e w' =>
      ∃ i : Nat, IsPlace l k i ∧ e = .returned (.tuple #[.int .i64 i, .bool (hitB l k i)]) ∧ Below w.heap.size w w' := by
  have hr2 := Lib.hid hr
  have hs2 := Lib.hid hs
  clear hr hs
  go_enter Try.func109, Try.ntmps109
  go_wp2_with fail
  refine (search_any v l k _ _ (by simp) hl hs2.out (hr2.out.below ((Below.refl _ _).alloc (Nat.le_refl _) _))).mono ?_
  rintro e w1 ⟨i, hi, rfl, hb⟩
  have hi2 := Lib.hid hi
  clear hi
  go_wp2_with fail
  go_ret2
  exact ⟨i, hi2.out, rfl, ((Below.refl _ _).alloc (Nat.le_refl _) _).trans (hb.mono (by simp))⟩

set_option maxHeartbeats 400000 in
theorem at_calls (bt bl n c : Nat) (i : Nat) (v : Value) (l : List (Int × Int)) (k : Int) (w : World) (hc : w.cell? ⟨bt, 0, none⟩ = some (.slice (some ⟨bl, 0, none⟩) n c)) (hi : i < n)
    (hv : w.cell? ⟨bl, i * 5 + 3, none⟩ = some v) (hl : l.length ≤ 1099511627776) (hs : EdgeSorted l) (hr : EdgeRow w v l) :
    Calls Try.prog 77 #[.pointer (some ⟨bt, 0, none⟩), .int .i64 i, .int .u64 k] w fun e w' =>
      ∃ i : Nat, IsPlace l k i ∧ e = .returned (.tuple #[.int .i64 i, .bool (hitB l k i)]) ∧ Below w.heap.size w w' := by
  have hr2 := Lib.hid hr
  have hs2 := Lib.hid hs
  clear hr hs
  go_enter Try.func77, Try.ntmps77
  go_wp2_with fail
  refine (seek_calls v l k _ hl hs2.out hr2.out).mono ?_
  rintro e w1 ⟨j, hj, rfl, hb⟩
  have hj2 := Lib.hid hj
  clear hj
  go_wp2_with fail
  go_ret2
  exact ⟨j, hj2.out, rfl, hb⟩
end Go.Proofs.Ytlkiajepahkliaa

namespace Go.Proofs.Ytlkiajepahkliaa
open Go.RowKit

/-- Of the blocks that were there only S's may have turned. -/
structure Mods (S : Nat → Prop) (w w' : World) : Prop where
  os : w'.os = w.os
  tape : w'.tape = w.tape
  output : w'.output = w.output
  size : w.heap.size ≤ w'.heap.size
  block : ∀ k, k < w.heap.size → ¬ S k → w'.heap[k]? = w.heap[k]?

namespace Mods
variable {S S' : Nat → Prop} {w w1 w2 : World}
theorem refl (S : Nat → Prop) (w : World) : Mods S w w := ⟨rfl, rfl, rfl, Nat.le_refl _, fun _ _ _ => rfl⟩
theorem mono (h : Mods S w w1) (hs : ∀ k, k < w.heap.size → S k → S' k) : Mods S' w w1 :=
  ⟨h.os, h.tape, h.output, h.size, fun k hk hn => h.block k hk (fun h' => hn (hs k hk h'))⟩
theorem trans (h : Mods S w w1) (h' : Mods S' w1 w2) (hs : ∀ k, k < w.heap.size → S' k → S k) : Mods S w w2 :=
  ⟨h'.os.trans h.os, h'.tape.trans h.tape, h'.output.trans h.output, Nat.le_trans h.size h'.size,
    fun k hk hn => (h'.block k (Nat.lt_of_lt_of_le hk h.size) (fun h'' => hn (hs k hk h''))).trans (h.block k hk hn)⟩
theorem of_below (h : Below w.heap.size w w1) : Mods S w w1 := ⟨h.os, h.tape, h.output, h.size, fun k hk _ => h.block k hk⟩
theorem below (h : Mods S w w1) {B : Nat} (hB : B ≤ w.heap.size) (hs : ∀ k, k < B → ¬ S k) : Below B w w1 :=
  ⟨h.os, h.tape, h.output, h.size, fun k hk => h.block k (by omega) (hs k hk)⟩
theorem of_grown {row : Option Nat} (h : w.grownBy w1 row) (hs : ∀ k, row = some k → S k) : Mods S w w1 :=
  ⟨h.os, h.tape, h.output, h.size, fun k hk hn => h.block k hk (fun e => hn (hs k e.symm))⟩
theorem alloc (w : World) (o : Obj) : Mods S w (w.alloc o) := ⟨rfl, rfl, rfl, by simp, fun k hk _ => Below.heap_alloc _ _ _ hk⟩
theorem setCell (w : World) (p : Addr) (u : Value) (hp : S p.block) : Mods S w (w.setCell p u) :=
  ⟨rfl, rfl, rfl, by simp [World.setCell], fun k hk hn => Below.heap_setCell _ _ _ _ (fun e => hn (e ▸ hp))⟩
theorem drew (h : Mods S w w1) : Mods S w w1.drew := ⟨h.os, h.tape, h.output, h.size, h.block⟩
end Mods

/-- A row of the call's own whose block is one of S. -/
def Own (w : World) (e size : Nat) (v : Value) (n : Nat) (xs : List Value) (S : Nat → Prop) : Prop :=
  w.ownsRow 0 e size v n xs ∧ ∀ k, v.ownBlock = some k → S k

namespace Own
variable {w w1 : World} {e size n : Nat} {v : Value} {xs : List Value} {S S' : Nat → Prop}
theorem lt (h : Own w e size v n xs S) : ∀ k, v.ownBlock = some k → k < w.heap.size := fun k hk => (h.1.lt k hk).2
theorem mono (h : Own w e size v n xs S) (hs : ∀ k, k < w.heap.size → S k → S' k) : Own w e size v n xs S' :=
  ⟨h.1, fun k hk => hs k (h.lt k hk) (h.2 k hk)⟩
theorem move (h : Own w e size v n xs S) (hm : ∀ k, k < w.heap.size → S k → w1.heap[k]? = w.heap[k]?) : Own w1 e size v n xs S := by
  refine ⟨⟨h.1.1, ?_⟩, h.2⟩
  rcases h.1.2 with h2 | ⟨g, cap, cur, rfl, hg, hh, r⟩
  · exact .inl h2
  · exact .inr ⟨g, cap, cur, rfl, hg, (hm g (h.lt g rfl) (h.2 g rfl)).trans hh, r⟩
theorem mods {T : Nat → Prop} (h : Own w e size v n xs S) (hm : Mods T w w1) (hs : ∀ k, k < w.heap.size → S k → ¬ T k) : Own w1 e size v n xs S :=
  h.move (fun k hk hS => hm.block k hk (hs k hk hS))
theorem mono' (h : Own w1 e size v n xs S) (hlt : ∀ k, v.ownBlock = some k → k < w.heap.size) (hs : ∀ k, k < w.heap.size → S k → S' k) : Own w1 e size v n xs S' :=
  ⟨h.1, fun k hk => hs k (hlt k hk) (h.2 k hk)⟩
theorem nil (w : World) (e size : Nat) (S : Nat → Prop) : Own w e size (.slice none 0 0) 0 [] S := ⟨World.ownsRow_nil w 0 e size, fun k hk => by simp [Value.ownBlock] at hk⟩
/-- The value's form, and what the cells hold. -/
theorem form (h : Own w e size v n xs S) (hn : 0 < n) : ∃ g cap, v = .slice (some ⟨g, 0, none⟩) n cap ∧ S g ∧ g < w.heap.size ∧ n ≤ cap ∧ cap ≤ maxLen ∧ ∀ j, j < n * size → w.cell? ⟨g, j, none⟩ = xs[j]? ∧ w.frozen? ⟨g, j, none⟩ = false := by
  rcases h.1.2 with ⟨_, h2⟩ | ⟨g, cap, cur, rfl, hg, hh, hc, hm, r⟩
  · omega
  · exact ⟨g, cap, rfl, h.2 g rfl, h.lt g rfl, hc, hm, fun j hj => ⟨h.1.cellAt j hj, h.1.frozenAt j⟩⟩
/-- The value's form. -/
theorem shape (h : Own w e size v n xs S) : ∃ A cap, v = .slice A n cap ∧ n ≤ cap ∧ cap ≤ maxLen ∧ (n = 0 ∨ ∃ g, A = some ⟨g, 0, none⟩ ∧ S g ∧ g < w.heap.size ∧ ∀ j, j < n * size → w.cell? ⟨g, j, none⟩ = xs[j]? ∧ w.frozen? ⟨g, j, none⟩ = false) := by
  rcases h.1.2 with ⟨rfl, h2⟩ | ⟨g, cap, cur, rfl, hg, hh, hc, hm, r⟩
  · exact ⟨none, 0, by rw [h2], by omega, by simp [maxLen], .inl h2⟩
  · exact ⟨_, cap, rfl, hc, hm, .inr ⟨g, rfl, h.2 g rfl, h.lt g rfl, fun j hj => ⟨h.1.cellAt j hj, h.1.frozenAt j⟩⟩⟩
/-- A store into the row. -/
theorem stored (h : Own w e size v n xs S) {g : Nat} (hg : v.ownBlock = some g) (j : Nat) (u : Value) (hj : j < xs.length) : Own (w.setCell ⟨g, j, none⟩ u) e size v n (xs.set j u) S := by
  rcases h.1.2 with ⟨rfl, h2⟩ | ⟨g', cap, cur, rfl, hg', hh, hc, hm, hs, ht⟩
  · simp [Value.ownBlock] at hg
  · have e1 : g' = g := by simpa [Value.ownBlock] using hg
    subst e1
    refine ⟨⟨by rw [List.length_set]; exact h.1.1, .inr ⟨g', cap, cur.setIfInBounds j u, rfl, hg', ?_, hc, hm, by simp [hs], ?_⟩⟩, h.2⟩
    · simp [World.setCell, Array.getElem?_modify, hh]
    · rw [Array.toList_setIfInBounds, ← ht]
      apply List.ext_getElem?
      intro q
      simp only [List.getElem?_take, List.getElem?_set]
      rw [← ht] at hj
      simp only [List.length_take, Array.length_toList] at hj ⊢
      by_cases hjq : j = q
      · subst hjq
        have h1 : j < n * size := by omega
        have h2 : j < cur.size := by omega
        simp [h1, h2]; omega
      · by_cases hq : q < n * size <;> simp [hq, hjq]
end Own

theorem addr_add (b o j : Nat) : (⟨b, o, none⟩ : Addr).add j = ⟨b, o + j, none⟩ := by unfold Addr.add; split <;> simp_all

/-- A row of whole numbers that is read. -/
def IntRow (w : World) (k : IntKind) (v : Value) (l : List Int) : Prop :=
  ∃ A c, v = .slice A l.length c ∧ l.length ≤ c ∧ (l.length = 0 ∨ ∃ b off, A = some ⟨b, off, none⟩ ∧ ∀ i, i < l.length → w.cell? ⟨b, off + i, none⟩ = some (.int k (l.getD i 0)))

theorem IntRow.below {w w' : World} {k : IntKind} {v : Value} {l : List Int} (h : IntRow w k v l) (hb : Below w.heap.size w w') : IntRow w' k v l := by
  obtain ⟨A, c, hv, hc, hr⟩ := h
  refine ⟨A, c, hv, hc, ?_⟩
  rcases hr with h0 | ⟨b, off, hA, hr⟩
  · exact .inl h0
  · exact .inr ⟨b, off, hA, fun i hi => by have h1 := hr i hi; rw [hb.cell (World.block_lt_of_cell? w _ h1)]; exact h1⟩

theorem IntRow.of_own {w : World} {k : IntKind} {e : TypeId} {v : Value} {l : List Int} {S : Nat → Prop} (h : Own w e 1 v l.length (l.map (.int k)) S) : IntRow w k v l := by
  obtain ⟨A, c, hv, hc, _, hr⟩ := h.shape
  refine ⟨A, c, hv, hc, ?_⟩
  rcases hr with h0 | ⟨g, hA, _, _, hr⟩
  · exact .inl h0
  · refine .inr ⟨g, 0, hA, fun i hi => ?_⟩
    rw [Nat.zero_add, (hr i (by omega)).1]
    simp [hi]

section
variable {P : Program}
/-- A copy between rows, of elements of whatever size. -/
theorem run_copy_sized (w : World) (dT sT ty elem : TypeId) (i : TypeInfo) (g o dLen dCap : Nat) (a : Addr) (sLen sCap m : Nat) (cur : Array Value) (t : TypeId) (cs : List Value)
    (hu : P.underlying dT = some (.slice elem)) (hi : P.info? elem = some i)
    (hg : w.heap[g]? = some (.cells cur t (0, 0))) (hm : Nat.min sLen dLen = m) (hn : cs.length = m * i.size)
    (hsrc : ∀ j v, cs[j]? = some v → w.cell? (a.add j) = some v) (hfit : o + cs.length ≤ cur.size) (h1 : ∀ v ∈ cs, v.oneCell' = true) :
    (Builtin.copy_ #[dT, sT] ty #[.slice (some ⟨g, o, none⟩) dLen dCap, .slice (some a) sLen sCap]).run P w =
      .ok (goInt m) (w.setRow g (cur.toList.take o ++ cs ++ cur.toList.drop (o + cs.length)).toArray) := by
  have hl := run_firstCells_some (P := P) w i.size m a sLen sCap cs hn hsrc
  have hst := run_storeCells_at P g o t cs 0 cur w hg (by simpa using hfit) h1
  simp [Builtin.copy_, run_underlying hu, Builtin.lenOf, sizeOf, typeInfo, hi, hm, hl, hst]

theorem wpList_copy_run (w : World) {ops : Array Oper} {rest : List Oper} {o : Oper} {a : Act} {Q : Exit → Act → World → Prop} (hgd : o.guard = none) (d s : Operand) (t t' : TypeId)
    (ho : o.op = .call { callee := .builtin .copy, args := #[d, s], argTypes := #[t, t'] }) (v u : Value) (hd : a.eval d = v) (hs : a.eval s = u) {v' : Value} {w' : World}
    (hr : (Builtin.copy_ #[t, t'] o.type #[v, u]).run P w = .ok v' w') (h : wpList P ops Q rest (a.put o.dst v') w') : wpList P ops Q (o :: rest) a w := by
  refine wpList_plain hgd fun K hK => ?_
  unfold Oper.wp execOp
  simp only [ho, resolve, invoke, builtin, Sem.run_bind, Sem.run_pure, Result.andThen_ok, List.map_toArray, List.map_cons, List.map_nil, hd, hs, hr]
  exact hK _ _ h
end
end Go.Proofs.Ytlkiajepahkliaa
