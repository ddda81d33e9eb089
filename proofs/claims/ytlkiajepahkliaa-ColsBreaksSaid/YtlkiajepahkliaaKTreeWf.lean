/- The tree's numbers from the root down, and what holds of every tree that is made by the calls. automaton.New as plain data: each state's fall is the deepest node of its last numbers. The states while New lays their falls: what holds of them. A tree into which a word is put: its nodes' numbers, its words. The automaton of a tree: the state behind a number, what ends at a state. The tree of words, put into it one by one. -/
import Derived.Test.YtlkiajepahkliaaKSort
import Derived.Test.YtlkiajepahkliaaKAutoDef
namespace Go.Proofs.Ytlkiajepahkliaa
open Go.RowKit
set_option linter.unusedVariables false
set_option linter.unusedSimpArgs false

structure TreeWf (T : TTree) : Prop where
  ok : TreeOk T
  root : (T.node 0).depth = 0 ∧ (T.node 0).up = -1
  up : ∀ i, 0 < i → i < T.nodes.length → 0 ≤ (T.node i).up ∧ (T.node i).depth = (T.node (T.node i).up.toNat).depth + 1 ∧ ((T.node i).p, (i : Int)) ∈ T.kids (T.node i).up.toNat
  kid : ∀ i, i < T.nodes.length → ∀ x ∈ T.kids i, 0 < x.2 ∧ x.2 < T.nodes.length ∧ (T.node x.2.toNat).up = i ∧ (T.node x.2.toNat).p = x.1
  nw : ∀ i, i < T.nodes.length → T.nw i = ((List.range T.words.length).filter fun j => decide (T.words.getD j 0 = (i : Int))).map Int.ofNat
  word : ∀ j, j < T.words.length → 0 < T.words.getD j 0 ∧ T.words.getD j 0 < T.nodes.length

theorem mem_getD {l : List (Int × Int)} {x : Int × Int} (h : x ∈ l) : ∃ q, q < l.length ∧ l.getD q (0, 0) = x := by
  obtain ⟨q, hq, he⟩ := List.mem_iff_getElem.1 h
  exact ⟨q, hq, by simp [hq, he]⟩
theorem getD_mem {l : List (Int × Int)} {q : Nat} (h : q < l.length) : l.getD q (0, 0) ∈ l := by simp [h]

theorem place_of_mem {l : List (Int × Int)} (hs : EdgeSorted l) {q : Nat} (hq : q < l.length) : place l (l.getD q (0, 0)).1 = q :=
  (isPlace_eq (l := l) (i := q) ⟨by omega, fun r hr => hs r q hr hq, fun r hr hl => by
    rcases Nat.lt_or_ge q r with h | h
    · exact Int.le_of_lt (hs q r h hl)
    · obtain rfl : r = q := by omega
      exact Int.le_refl _⟩).symm

theorem child_of_mem {T : TTree} (ok : TreeOk T) {i : Nat} (hi : i < T.nodes.length) {x : Int × Int} (hx : x ∈ T.kids i) : T.child i x.1 = x.2 := by
  obtain ⟨q, hq, rfl⟩ := mem_getD hx
  have hp := place_of_mem (ok.sorted i hi) hq
  have hin : inB T i = true := decide_eq_true (by omega)
  unfold TTree.child
  rw [if_pos hin, Int.toNat_natCast, hp, if_pos (show hitB (T.kids i) ((T.kids i).getD q (0, 0)).1 q = true from decide_eq_true ⟨hq, rfl⟩)]

theorem child_hit {T : TTree} {i : Nat} {p : Int} (h : T.child i p ≠ -1) : (p, T.child i p) ∈ T.kids i := by
  unfold TTree.child at h ⊢
  split
  · split
    · rename_i h1 h2
      have h3 := of_decide_eq_true h2
      have h4 := getD_mem h3.1
      rw [Int.toNat_natCast] at h3 h4 ⊢
      rw [← h3.2]
      rw [h3.2]
      have h5 : (p, ((T.kids i).getD (place (T.kids i) p) (0, 0)).2) = (T.kids i).getD (place (T.kids i) p) (0, 0) := by rw [← h3.2, h3.2]; exact Prod.ext h3.2.symm rfl
      rw [h5]; exact h4
    · rename_i h1 h2; rw [if_pos h1, if_neg h2] at h; exact absurd rfl h
  · rename_i h1; rw [if_neg h1] at h; exact absurd rfl h

theorem child_in {T : TTree} {i : Nat} {p : Int} (h : T.child i p ≠ -1) : i < T.nodes.length := by
  unfold TTree.child at h
  split at h
  · rename_i h1; have := of_decide_eq_true h1; omega
  · exact absurd rfl h

theorem path_zero {T : TTree} : T.path 0 = [] := by simp [TTree.path, TTree.upFrom]
theorem path_up {T : TTree} (wf : TreeWf T) {i : Nat} (h0 : 0 < i) (hi : i < T.nodes.length) : T.path i = T.path (T.node i).up.toNat ++ [(T.node i).p] := by
  have h1 := (wf.up i h0 hi).1
  obtain ⟨u, hu⟩ : ∃ u : Nat, (T.node i).up = u := ⟨(T.node i).up.toNat, by omega⟩
  unfold TTree.path
  rw [path_step wf.ok h0 hi, List.reverse_cons, hu, Int.toNat_natCast]

theorem path_length {T : TTree} (wf : TreeWf T) : ∀ (n i : Nat), i ≤ n → i < T.nodes.length → ((T.path i).length : Int) = (T.node i).depth := by
  intro n
  induction n with
  | zero => intro i h hi; obtain rfl : i = 0 := by omega
            rw [path_zero, wf.root.1]; rfl
  | succ n ih =>
    intro i h hi
    rcases Nat.eq_zero_or_pos i with rfl | h0
    · rw [path_zero, wf.root.1]; rfl
    · have hu := wf.up i h0 hi
      have hu2 := wf.ok.up i hi
      rw [path_up wf h0 hi, List.length_append, hu.2.1]
      have := ih (T.node i).up.toNat (by omega) (by omega)
      simp only [List.length_cons, List.length_nil]
      omega
theorem path_len {T : TTree} (wf : TreeWf T) {i : Nat} (hi : i < T.nodes.length) : ((T.path i).length : Int) = (T.node i).depth := path_length wf i i (Nat.le_refl _) hi

theorem path_inj {T : TTree} (wf : TreeWf T) : ∀ (n i j : Nat), i ≤ n → i < T.nodes.length → j < T.nodes.length → T.path i = T.path j → i = j := by
  intro n
  induction n with
  | zero =>
    intro i j h hi hj he
    obtain rfl : i = 0 := by omega
    rcases Nat.eq_zero_or_pos j with rfl | h0
    · rfl
    · rw [path_zero, path_up wf h0 hj] at he
      have := congrArg List.length he
      simp at this
  | succ n ih =>
    intro i j h hi hj he
    rcases Nat.eq_zero_or_pos i with rfl | h0
    · rcases Nat.eq_zero_or_pos j with rfl | h1
      · rfl
      · rw [path_zero, path_up wf h1 hj] at he
        have := congrArg List.length he
        simp at this
    · rcases Nat.eq_zero_or_pos j with rfl | h1
      · rw [path_zero, path_up wf h0 hi] at he
        have := congrArg List.length he
        simp at this
      · rw [path_up wf h0 hi, path_up wf h1 hj] at he
        have hu := wf.up i h0 hi
        have hv := wf.up j h1 hj
        have hu2 := wf.ok.up i hi
        have hv2 := wf.ok.up j hj
        obtain ⟨e1, e2⟩ := List.append_inj' he rfl
        have e3 := ih (T.node i).up.toNat (T.node j).up.toNat (by omega) (by omega) (by omega) e1
        injection e2 with e2
        have c1 := child_of_mem wf.ok (i := (T.node i).up.toNat) (by omega) hu.2.2
        have c2 := child_of_mem wf.ok (i := (T.node j).up.toNat) (by omega) hv.2.2
        simp only at c1 c2
        rw [e3, e2, c2] at c1
        omega
theorem path_eq {T : TTree} (wf : TreeWf T) {i j : Nat} (hi : i < T.nodes.length) (hj : j < T.nodes.length) (h : T.path i = T.path j) : i = j := path_inj wf i i j (Nat.le_refl _) hi hj h

theorem path_child {T : TTree} (wf : TreeWf T) {i : Nat} {p : Int} (h : T.child i p ≠ -1) : 0 < T.child i p ∧ T.child i p < T.nodes.length ∧ T.path (T.child i p).toNat = T.path i ++ [p] := by
  have hi := child_in h
  have hm := child_hit h
  obtain ⟨k1, k2, k3, k4⟩ := wf.kid i hi _ hm
  refine ⟨k1, k2, ?_⟩
  simp only at k1 k2 k3 k4
  rw [path_up wf (by omega) (by omega), k3, k4]
  rfl

/-- Whatever node's numbers end so is a child. -/
theorem child_of_path {T : TTree} (wf : TreeWf T) {i j : Nat} {p : Int} (hi : i < T.nodes.length) (hj : j < T.nodes.length) (h : T.path j = T.path i ++ [p]) : T.child i p = j := by
  have h0 : 0 < j := by
    rcases Nat.eq_zero_or_pos j with rfl | h1
    · rw [path_zero] at h
      have := congrArg List.length h
      simp at this
    · exact h1
  have hu := wf.up j h0 hj
  have hu2 := wf.ok.up j hj
  rw [path_up wf h0 hj] at h
  obtain ⟨e1, e2⟩ := List.append_inj' h rfl
  have e3 := path_eq wf (by omega) hi e1
  injection e2 with e2
  have c := child_of_mem wf.ok (i := (T.node j).up.toNat) (by omega) hu.2.2
  simp only at c
  rw [e3, e2] at c
  exact c

/-- Whatever begins a node's numbers is a node's. -/
theorem path_prefix {T : TTree} (wf : TreeWf T) : ∀ (n i : Nat), i ≤ n → i < T.nodes.length → ∀ l, l <+: T.path i → ∃ j, j ≤ i ∧ j < T.nodes.length ∧ T.path j = l := by
  intro n
  induction n with
  | zero =>
    intro i h hi l hl
    obtain rfl : i = 0 := by omega
    rw [path_zero] at hl
    exact ⟨0, Nat.le_refl _, hi, by rw [path_zero, List.prefix_nil.1 hl]⟩
  | succ n ih =>
    intro i h hi l hl
    by_cases he : l = T.path i
    · exact ⟨i, Nat.le_refl _, hi, he.symm⟩
    · rcases Nat.eq_zero_or_pos i with rfl | h0
      · rw [path_zero] at hl he
        exact absurd (List.prefix_nil.1 hl) he
      · have hu := wf.up i h0 hi
        have hu2 := wf.ok.up i hi
        have h1 := path_up wf h0 hi
        rw [h1] at hl he
        have h2 : l <+: T.path (T.node i).up.toNat := by
          obtain ⟨t, ht⟩ := hl
          rcases List.eq_nil_or_concat t with rfl | ⟨t', x, rfl⟩
          · rw [List.append_nil] at ht; exact absurd ht he
          · rw [List.concat_eq_append, ← List.append_assoc] at ht
            exact ⟨t', (List.append_inj' ht rfl).1⟩
        obtain ⟨j, j1, j2, j3⟩ := ih _ (by omega) (by omega) l h2
        exact ⟨j, by omega, j2, j3⟩
end Go.Proofs.Ytlkiajepahkliaa

namespace Go.Proofs.Ytlkiajepahkliaa
open Go.RowKit
set_option linter.unusedVariables false
set_option linter.unusedSimpArgs false

/-- Node i is the deepest one whose numbers end l. -/
def IsDeep (T : TTree) (l : List Int) (i : Nat) : Prop :=
  i < T.nodes.length ∧ T.path i <:+ l ∧ ∀ j, j < T.nodes.length → T.path j <:+ l → (T.path j).length ≤ (T.path i).length

theorem IsDeep.unique {T : TTree} (wf : TreeWf T) {l : List Int} {i j : Nat} (h : IsDeep T l i) (k : IsDeep T l j) : i = j := by
  refine path_eq wf h.1 k.1 ?_
  have h1 := h.2.2 j k.1 k.2.1
  have h2 := k.2.2 i h.1 h.2.1
  obtain ⟨a, ha⟩ := h.2.1
  obtain ⟨b, hb⟩ := k.2.1
  exact (List.append_inj' (ha.trans hb.symm) (by omega)).2

theorem suffix_le {α : Type} {a b l : List α} (h : a <:+ l) (k : b <:+ l) (hl : a.length ≤ b.length) : a <:+ b := List.suffix_of_suffix_length_le h k hl

theorem suffix_snoc {l s : List Int} {p : Int} (h : s <:+ l) : s ++ [p] <:+ l ++ [p] := by
  obtain ⟨t, rfl⟩ := h
  exact ⟨t, by simp⟩
theorem suffix_snoc_iff {l m : List Int} {p : Int} (h : m <:+ l ++ [p]) : m = [] ∨ ∃ s, m = s ++ [p] ∧ s <:+ l := by
  rcases List.eq_nil_or_concat m with rfl | ⟨s, x, rfl⟩
  · exact .inl rfl
  · refine .inr ?_
    obtain ⟨t, ht⟩ := h
    rw [List.concat_eq_append, ← List.append_assoc] at ht
    obtain ⟨e1, e2⟩ := List.append_inj' ht rfl
    injection e2 with e2
    exact ⟨s, by rw [List.concat_eq_append, e2], t, e1⟩

/-- findKid answers what Child does. -/
theorem findKid_mem {p t : Int} {l : List (Int × Int)} (h : findKid p l = some t) : (p, t) ∈ l := by
  induction l with
  | nil => cases h
  | cons x l ih =>
    simp only [findKid] at h
    split at h
    · rename_i h1; injection h with h; subst h; subst h1; exact List.mem_cons_self
    · split at h
      · cases h
      · exact List.mem_cons_of_mem _ (ih h)
theorem findKid_none {p t : Int} {l : List (Int × Int)} (hs : EdgeSorted l) (h : findKid p l = none) : (p, t) ∉ l := by
  induction l with
  | nil => simp
  | cons x l ih =>
    have hs' : EdgeSorted l := fun i j hij hj => by
      have := hs (i + 1) (j + 1) (by omega) (by simpa using hj)
      simpa using this
    have hlt : ∀ y ∈ l, x.1 < y.1 := fun y hy => by
      obtain ⟨q, hq, rfl⟩ := mem_getD hy
      have := hs 0 (q + 1) (by omega) (by simpa using hq)
      simpa using this
    simp only [findKid] at h
    split at h
    · cases h
    · rename_i h1
      intro hm
      rcases List.mem_cons.1 hm with he | hm
      · exact h1 (by rw [← he])
      · split at h
        · rename_i h2
          have := hlt _ hm
          simp only at this
          omega
        · exact ih hs' h hm

theorem TTree.kidsA_eq {T : TTree} (ok : TreeOk T) {i : Nat} (hi : i < T.nodes.length) : T.kidsA i = T.kids i := by
  unfold TTree.kidsA
  conv => rhs; rw [← List.map_id (T.kids i)]
  exact List.map_congr_left fun x hx => by rw [child_of_mem ok hi hx]; rfl

theorem findKid_child {T : TTree} (wf : TreeWf T) {i : Nat} (hi : i < T.nodes.length) (p : Int) : findKid p (T.kids i) = if T.child i p = -1 then none else some (T.child i p) := by
  cases h : findKid p (T.kids i) with
  | some t =>
    have hm := findKid_mem h
    have hc := child_of_mem wf.ok hi hm
    have hk := wf.kid i hi _ hm
    simp only at hc hk
    rw [hc, if_neg (by omega)]
  | none =>
    by_cases hc : T.child i p = -1
    · rw [if_pos hc]
    · exact absurd (child_hit hc) (findKid_none (wf.ok.sorted i hi) h)

/-- One state of New's second loop, x: the node and its parent. -/
def Auto.fall1 (S : Auto) (x : Nat × Int) : Auto := S.modify x.1 fun s => { s with fall := 0 }
def Auto.fall2 (T : TTree) (S : Auto) (x : Nat × Int) : Auto := if x.2 = 0 then S else S.modify x.1 fun s => { s with fall := S.next (S.st x.2.toNat).fall (T.node x.1).p }
def Auto.fall3 (S : Auto) (x : Nat × Int) : Auto := S.modify x.1 fun s => { s with link := (S.st (S.st x.1).fall.toNat).link }
def Auto.fall4 (S : Auto) (x : Nat × Int) : Auto := if 0 < (S.st (S.st x.1).fall.toNat).words.length then S.modify x.1 fun s => { s with link := (S.st x.1).fall } else S
def Auto.fallStep (T : TTree) (S : Auto) (x : Nat × Int) : Auto := ((Auto.fall2 T (S.fall1 x) x).fall3 x).fall4 x

def TTree.laid (T : TTree) : Auto := (List.range T.nodes.length).map fun i => ⟨T.kidsA i, -1, -1, T.nw i⟩
def TTree.autoTo (T : TTree) (pre : List (Nat × Int)) : Auto := pre.foldl (Auto.fallStep T) T.laid
/-- The automaton of a tree. -/
def TTree.auto (T : TTree) : Auto := T.autoTo T.levels
theorem TTree.autoTo_snoc (T : TTree) (pre : List (Nat × Int)) (x : Nat × Int) : T.autoTo (pre ++ [x]) = Auto.fallStep T (T.autoTo pre) x := by simp [TTree.autoTo]

theorem Laid.eq {T : TTree} {S : Auto} (h : Laid T T.nodes.length S) : S = T.laid := by
  apply List.ext_getElem
  · rw [h.len]; simp [TTree.laid]
  · intro i h1 h2
    have h3 : i < T.nodes.length := by rw [← h.len]; exact h1
    have := h.done i h3
    unfold Auto.st at this
    rw [List.getD_eq_getElem?_getD, List.getElem?_eq_getElem h1] at this
    simpa [TTree.laid] using this

/-- What holds of the states when pre's falls are laid. -/
structure Half (T : TTree) (pre : List Nat) (S : Auto) : Prop where
  len : S.length = T.nodes.length
  same : ∀ i, i < T.nodes.length → (S.st i).kids = T.kids i ∧ (S.st i).words = T.nw i
  done : ∀ i, i < T.nodes.length → i ∈ pre → 0 ≤ (S.st i).fall ∧ IsDeep T (T.path i).tail (S.st i).fall.toNat ∧ (S.st i).link = if T.nw (S.st i).fall.toNat = [] then (S.st (S.st i).fall.toNat).link else (S.st i).fall
  todo : ∀ i, i < T.nodes.length → i ∉ pre → (S.st i).fall = -1 ∧ (S.st i).link = -1
  link : ∀ i, i < T.nodes.length → (S.st i).link = -1 ∨ (0 ≤ (S.st i).link ∧ (S.st i).link < T.nodes.length ∧ (T.path (S.st i).link.toNat).length < (T.path i).length)

theorem tail_lt {T : TTree} (wf : TreeWf T) {i f : Nat} (h0 : 0 < i) (hi : i < T.nodes.length) (h : IsDeep T (T.path i).tail f) : (T.path f).length < (T.path i).length := by
  have h1 := h.2.1.length_le
  have h2 := congrArg List.length (path_up wf h0 hi)
  simp at h1 h2
  omega

/-- Next from a state whose falls are right: the deepest node of the numbers and p. T's states: those that the walk visits. -/
theorem nextF_deep {T : TTree} (wf : TreeWf T) {S : Auto} (hlen : S.length = T.nodes.length) (hk : ∀ i, i < T.nodes.length → (S.st i).kids = T.kids i) (hr : (S.st 0).fall = -1) (p : Int) (l : List Int) :
    ∀ (f q : Nat), q < T.nodes.length → (T.path q).length < f → T.path q <:+ l →
      (∀ i, 0 < i → i < T.nodes.length → (T.path i).length ≤ (T.path q).length → 0 ≤ (S.st i).fall ∧ IsDeep T (T.path i).tail (S.st i).fall.toNat) →
      (∀ j s, j < T.nodes.length → T.path j = s ++ [p] → s <:+ l → s.length ≤ (T.path q).length) →
      0 ≤ S.nextF f q p ∧ IsDeep T (l ++ [p]) (S.nextF f q p).toNat := by
  intro f
  induction f with
  | zero => intro q _ h; omega
  | succ f ih =>
    intro q hq hf hs hd hmax
    rw [Auto.nextF, if_pos (by omega)]
    simp only [Int.toNat_natCast]
    rw [hk q hq, findKid_child wf hq]
    by_cases hc : T.child q p = -1
    · rw [if_pos hc]
      simp only
      rcases Nat.eq_zero_or_pos q with rfl | h0
      · rw [hr]
        have hz : S.nextF f (-1) p = 0 := by
          cases f with
          | zero => rfl
          | succ f => rw [Auto.nextF, if_neg (by omega)]
        rw [hz]
        refine ⟨Int.le_refl _, wf.ok.pos, by rw [show (0 : Int).toNat = 0 from rfl, path_zero]; exact List.nil_suffix, fun j hj hjs => ?_⟩
        rcases suffix_snoc_iff hjs with h1 | ⟨s, h1, h2⟩
        · rw [h1]; exact Nat.zero_le _
        · have h3 := hmax j s hj h1 h2
          rw [path_zero] at h3
          have h4 : s = [] := List.eq_nil_of_length_eq_zero (by simpa using h3)
          subst h4
          have := child_of_path wf (i := 0) (p := p) wf.ok.pos hj (by rw [h1, path_zero])
          omega
      · obtain ⟨d1, d2⟩ := hd q h0 hq (Nat.le_refl _)
        have hlt := tail_lt wf h0 hq d2
        obtain ⟨m, hm⟩ : ∃ m : Nat, (S.st q).fall = m := ⟨(S.st q).fall.toNat, by omega⟩
        rw [hm, Int.toNat_natCast] at d2 hlt
        rw [hm]
        refine ih m d2.1 (by omega) ((d2.2.1.trans (List.tail_suffix _)).trans hs) (fun i hi0 hi hle => hd i hi0 hi (by omega)) (fun j s hj h1 h2 => ?_)
        have h3 := hmax j s hj h1 h2
        have h4 : s <:+ T.path q := suffix_le h2 hs h3
        obtain ⟨k, _, hk2, hk3⟩ := path_prefix wf j j (Nat.le_refl _) hj s (by rw [h1]; exact List.prefix_append _ _)
        have hne : s ≠ T.path q := by
          intro he
          have := child_of_path wf hq hj (by rw [h1, he])
          omega
        have h5 : s <:+ (T.path q).tail := by
          obtain ⟨t, ht⟩ := h4
          cases t with
          | nil => exact absurd (by simpa using ht) hne
          | cons x t => exact ⟨t, by rw [← ht]; rfl⟩
        rw [← hk3]
        exact d2.2.2 k hk2 (by rw [hk3]; exact h5)
    · rw [if_neg hc]
      simp only
      obtain ⟨c1, c2, c3⟩ := path_child wf hc
      refine ⟨by omega, by omega, by rw [c3]; exact suffix_snoc hs, fun j hj hjs => ?_⟩
      rcases suffix_snoc_iff hjs with h1 | ⟨s, h1, h2⟩
      · rw [h1]; exact Nat.zero_le _
      · have h3 := hmax j s hj h1 h2
        rw [h1, c3]
        simp only [List.length_append]
        omega

/-- .. where no node's numbers but m's .. end l. -/
theorem next_deep {T : TTree} (wf : TreeWf T) {S : Auto} (hlen : S.length = T.nodes.length) (hk : ∀ i, i < T.nodes.length → (S.st i).kids = T.kids i) (hr : (S.st 0).fall = -1) (p : Int) (l : List Int) {m : Nat} (hm : IsDeep T l m)
    (hd : ∀ i, 0 < i → i < T.nodes.length → (T.path i).length ≤ (T.path m).length → 0 ≤ (S.st i).fall ∧ IsDeep T (T.path i).tail (S.st i).fall.toNat) :
    0 ≤ S.next m p ∧ IsDeep T (l ++ [p]) (S.next m p).toNat := by
  have hin : inA S m = true := decide_eq_true (by have := hm.1; omega)
  unfold Auto.next
  rw [if_pos hin]
  have hlm := path_len wf hm.1
  have hdm := wf.ok.depth m hm.1
  refine nextF_deep wf hlen hk hr p l (S.length + 2) m hm.1 (by omega) hm.2.1 hd (fun j s hj h1 h2 => ?_)
  obtain ⟨k, _, hk2, hk3⟩ := path_prefix wf j j (Nat.le_refl _) hj s (by rw [h1]; exact List.prefix_append _ _)
  rw [← hk3]
  exact hm.2.2 k hk2 (by rw [hk3]; exact h2)
end Go.Proofs.Ytlkiajepahkliaa

namespace Go.Proofs.Ytlkiajepahkliaa
open Go.RowKit
set_option linter.unusedVariables false
set_option linter.unusedSimpArgs false

namespace TTree
theorem level_mem {T : TTree} {d k : Nat} {x : Nat × Int} : x ∈ T.level d k ↔ x.1 < k ∧ (T.node x.1).depth = (d : Int) ∧ x.2 = (T.node x.1).up := by
  unfold level
  simp only [List.mem_map, List.mem_filter, List.mem_range, decide_eq_true_eq]
  constructor
  · rintro ⟨i, ⟨h1, h2⟩, rfl⟩; exact ⟨h1, h2, rfl⟩
  · rintro ⟨h1, h2, h3⟩; exact ⟨x.1, ⟨h1, h2⟩, by rw [← h3]⟩
theorem levels_mem {T : TTree} {x : Nat × Int} : x ∈ T.levels ↔ x.1 < T.nodes.length ∧ 1 ≤ (T.node x.1).depth ∧ (T.node x.1).depth ≤ T.nodes.length ∧ x.2 = (T.node x.1).up := by
  unfold levels levelsTo
  simp only [List.mem_flatMap, List.mem_range, level_mem]
  constructor
  · rintro ⟨k, hk, h1, h2, h3⟩; exact ⟨h1, by omega, by omega, h3⟩
  · rintro ⟨h1, h2, h3, h4⟩; exact ⟨(T.node x.1).depth.toNat - 1, by omega, h1, by omega, h4⟩
theorem levels_order (T : TTree) : T.levels.Pairwise fun a b => (T.node a.1).depth ≤ (T.node b.1).depth ∧ a.1 ≠ b.1 := by
  unfold levels levelsTo
  rw [List.pairwise_flatMap]
  refine ⟨fun k _ => ?_, ?_⟩
  · unfold level
    rw [List.pairwise_map]
    refine List.Pairwise.imp_of_mem ?_ (List.nodup_range.filter _)
    intro a b ha hb hne
    simp only [List.mem_filter, decide_eq_true_eq] at ha hb
    exact ⟨by simp only; omega, hne⟩
  · refine List.Pairwise.imp ?_ List.pairwise_lt_range
    intro a b hab x hx y hy
    rw [level_mem] at hx hy
    refine ⟨by omega, fun e => ?_⟩
    rw [e] at hx
    omega
end TTree

/-- What is known of the next node of the levels. -/
theorem levels_next {T : TTree} (wf : TreeWf T) {pre : List (Nat × Int)} {x : Nat × Int} (hx : pre ++ [x] <+: T.levels) :
    0 < x.1 ∧ x.1 < T.nodes.length ∧ x.2 = (T.node x.1).up ∧ x.1 ∉ pre.map (·.1) ∧ (∀ i, 0 < i → i < T.nodes.length → (T.path i).length < (T.path x.1).length → i ∈ pre.map (·.1)) ∧ (∀ i ∈ pre.map (·.1), i < T.nodes.length ∧ 0 < i ∧ (T.path i).length ≤ (T.path x.1).length) := by
  obtain ⟨rest, hr⟩ := hx
  have ho := T.levels_order
  rw [← hr, List.append_assoc, List.pairwise_append] at ho
  obtain ⟨_, ho2, ho3⟩ := ho
  have hxm : x ∈ T.levels := by rw [← hr]; simp
  have hx1 := TTree.levels_mem.1 hxm
  have hx0 : 0 < x.1 := by
    rcases Nat.eq_zero_or_pos x.1 with h | h
    · rw [h, wf.root.1] at hx1; omega
    · exact h
  have hlx := path_len wf hx1.1
  refine ⟨hx0, hx1.1, hx1.2.2.2, ?_, ?_, ?_⟩
  · intro hm
    obtain ⟨y, hy, he⟩ := List.mem_map.1 hm
    exact (ho3 y hy x (by simp)).2 he
  · intro i hi0 hi hlt
    have hli := path_len wf hi
    have hdi := wf.ok.depth i hi
    have hui := (wf.up i hi0 hi).2.1
    have hui2 := wf.ok.up i hi
    have hdu := wf.ok.depth (T.node i).up.toNat (by omega)
    have him : (i, (T.node i).up) ∈ T.levels := TTree.levels_mem.2 ⟨hi, by simp only; omega, by simp only; omega, rfl⟩
    rw [← hr, List.append_assoc, List.mem_append] at him
    rcases him with him | him
    · exact List.mem_map.2 ⟨_, him, rfl⟩
    · exfalso
      rcases List.mem_append.1 him with h1 | h1
      · rw [List.mem_singleton] at h1
        rw [← h1] at hlt
        simp only at hlt
        omega
      · rw [List.singleton_append, List.pairwise_cons] at ho2
        have := (ho2.1 _ h1).1
        simp only at this
        omega
  · intro i hm
    obtain ⟨y, hy, rfl⟩ := List.mem_map.1 hm
    have hym : y ∈ T.levels := by rw [← hr]; simp [hy]
    have hy1 := TTree.levels_mem.1 hym
    have hly := path_len wf hy1.1
    have := (ho3 y hy x (by simp)).1
    refine ⟨hy1.1, ?_, by omega⟩
    rcases Nat.eq_zero_or_pos y.1 with h | h
    · rw [h, wf.root.1] at hy1; omega
    · exact h

theorem isDeep_nil {T : TTree} (wf : TreeWf T) : IsDeep T [] 0 := ⟨wf.ok.pos, by rw [path_zero]; exact List.suffix_refl _, fun j _ h => by rw [List.suffix_nil.1 h]; exact Nat.zero_le _⟩

/-- What one step does to the states. -/
theorem Half.step_spec {T : TTree} (wf : TreeWf T) {pre : List (Nat × Int)} {S : Auto} (h : Half T (pre.map (·.1)) S) {x : Nat × Int} (hx : pre ++ [x] <+: T.levels) :
    ∃ f : Nat, IsDeep T (T.path x.1).tail f ∧ (T.path f).length < (T.path x.1).length ∧ ((Auto.fall2 T (S.fall1 x) x).st x.1).fall = f ∧
      (∀ i, (Auto.fall2 T (S.fall1 x) x).st i = if i = x.1 then { S.st x.1 with fall := (f : Int) } else S.st i) ∧
      (∀ i, (Auto.fallStep T S x).st i = if i = x.1 then { S.st x.1 with fall := (f : Int), link := if T.nw f = [] then (S.st f).link else (f : Int) } else S.st i) := by
  obtain ⟨hx0, hx1, hx2, hx3, hx4, hx5⟩ := levels_next wf hx
  have hxl : x.1 < S.length := by rw [h.len]; exact hx1
  have hu := wf.up x.1 hx0 hx1
  have hu2 := wf.ok.up x.1 hx1
  have hpu := path_up wf hx0 hx1
  rw [← hx2] at hu hu2 hpu
  have s1 : ∀ i, (S.fall1 x).st i = if i = x.1 then { S.st x.1 with fall := 0 } else S.st i := fun i => by
    unfold Auto.fall1
    rw [Auto.st_modify]
    by_cases hi : i = x.1
    · subst hi; simp [hxl]
    · simp [hi]
  have l1 : (S.fall1 x).length = S.length := by simp [Auto.fall1]
  have hf2 : ∃ f : Nat, IsDeep T (T.path x.1).tail f ∧ (T.path f).length < (T.path x.1).length ∧ (∀ i, (Auto.fall2 T (S.fall1 x) x).st i = if i = x.1 then { S.st x.1 with fall := (f : Int) } else S.st i) ∧ (Auto.fall2 T (S.fall1 x) x).length = S.length := by
    by_cases hz : x.2 = 0
    · refine ⟨0, ?_, ?_, fun i => ?_, ?_⟩
      · rw [hpu, hz, show (0 : Int).toNat = 0 from rfl, path_zero]; exact isDeep_nil wf
      · rw [path_zero, hpu]; simp
      · unfold Auto.fall2; rw [if_pos hz, s1]; rfl
      · unfold Auto.fall2; rw [if_pos hz, l1]
    · have hui : x.2.toNat < T.nodes.length := by omega
      have hu0 : 0 < x.2.toNat := by omega
      have hul : (T.path x.2.toNat).length < (T.path x.1).length := by rw [hpu]; simp
      have hum := hx4 x.2.toNat hu0 hui hul
      obtain ⟨d1, d2, _⟩ := h.done _ hui hum
      have hlt := tail_lt wf hu0 hui d2
      have hne : x.2.toNat ≠ x.1 := fun e => by rw [e] at hul; omega
      have hsu : (S.fall1 x).st x.2.toNat = S.st x.2.toNat := by rw [s1, if_neg hne]
      obtain ⟨m, hm⟩ : ∃ m : Nat, (S.st x.2.toNat).fall = m := ⟨(S.st x.2.toNat).fall.toNat, by omega⟩
      rw [hm, Int.toNat_natCast] at d2 hlt
      have h00 : (0 : Nat) ∉ pre.map (·.1) := fun h0 => by have := (hx5 0 h0).2.1; omega
      have hks : ∀ i, i < T.nodes.length → ((S.fall1 x).st i).kids = T.kids i := fun i hi => by
        rw [s1]
        by_cases hi2 : i = x.1
        · rw [if_pos hi2, hi2]; exact (h.same _ hx1).1
        · rw [if_neg hi2]; exact (h.same i hi).1
      have hnd := next_deep wf (S := S.fall1 x) (by rw [l1, h.len]) hks (by rw [s1, if_neg (by omega)]; exact (h.todo 0 wf.ok.pos h00).1) (T.node x.1).p _ d2
        (fun i hi0 hi hle => by
          have hne2 : i ≠ x.1 := fun e => by subst e; omega
          rw [s1, if_neg hne2]
          have := h.done i hi (hx4 i hi0 hi (by omega))
          exact ⟨this.1, this.2.1⟩)
      obtain ⟨n1, n2⟩ := hnd
      have htl : (T.path x.1).tail = (T.path x.2.toNat).tail ++ [(T.node x.1).p] := by
        rw [hpu]
        have : T.path x.2.toNat ≠ [] := by rw [path_up wf hu0 hui]; simp
        obtain ⟨a, b, hab⟩ := List.exists_cons_of_ne_nil this
        rw [hab]; rfl
      rw [← htl] at n2
      refine ⟨((S.fall1 x).next m (T.node x.1).p).toNat, n2, tail_lt wf hx0 hx1 n2, fun i => ?_, ?_⟩
      · unfold Auto.fall2
        rw [if_neg hz, Auto.st_modify, hsu, hm, Int.toNat_of_nonneg n1, s1 i, l1]
        by_cases hi : i = x.1
        · subst hi; simp [hxl]
        · simp [hi]
      · unfold Auto.fall2; rw [if_neg hz]; simp [l1]
  obtain ⟨f, f1, f2, f3, f4⟩ := hf2
  have hfx : f ≠ x.1 := fun e => by subst e; omega
  have f5 : ((Auto.fall2 T (S.fall1 x) x).st x.1).fall = f := by rw [f3, if_pos rfl]
  refine ⟨f, f1, f2, f5, f3, fun i => ?_⟩
  have s3 : ∀ i, ((Auto.fall2 T (S.fall1 x) x).fall3 x).st i = if i = x.1 then { S.st x.1 with fall := (f : Int), link := (S.st f).link } else S.st i := fun i => by
    unfold Auto.fall3
    rw [Auto.st_modify, f5, Int.toNat_natCast, f4, f3 f, if_neg hfx, f3 i]
    by_cases hi : i = x.1
    · subst hi; simp [hxl]
    · simp [hi]
  unfold Auto.fallStep Auto.fall4
  rw [s3 x.1, if_pos rfl]
  simp only [Int.toNat_natCast]
  rw [s3 f, if_neg hfx, (h.same f f1.1).2]
  have l3 : ((Auto.fall2 T (S.fall1 x) x).fall3 x).length = S.length := by simp [Auto.fall3, f4]
  by_cases hw : T.nw f = []
  · rw [if_neg (by rw [hw]; simp), s3]
    simp [hw]
  · rw [if_pos (List.length_pos_iff.2 hw), Auto.st_modify, l3, s3 i]
    by_cases hi : i = x.1
    · subst hi; simp [hxl, hw]
    · simp [hi]

theorem len_fallStep (T : TTree) (S : Auto) (x : Nat × Int) : (Auto.fallStep T S x).length = S.length := by
  have h1 : (S.fall1 x).length = S.length := by simp [Auto.fall1]
  have h2 : (Auto.fall2 T (S.fall1 x) x).length = S.length := by unfold Auto.fall2; split <;> simp [h1]
  have h3 : ((Auto.fall2 T (S.fall1 x) x).fall3 x).length = S.length := by simp [Auto.fall3, h2]
  unfold Auto.fallStep Auto.fall4
  split <;> simp [h3]

theorem Half.step {T : TTree} (wf : TreeWf T) {pre : List (Nat × Int)} {S : Auto} (h : Half T (pre.map (·.1)) S) {x : Nat × Int} (hx : pre ++ [x] <+: T.levels) : Half T ((pre ++ [x]).map (·.1)) (Auto.fallStep T S x) := by
  obtain ⟨f, f1, f2, _, _, f4⟩ := h.step_spec wf hx
  obtain ⟨hx0, hx1, hx2, hx3, hx4, hx5⟩ := levels_next wf hx
  have hfx : f ≠ x.1 := fun e => by subst e; omega
  refine ⟨by rw [len_fallStep, h.len], fun i hi => ?_, fun i hi him => ?_, fun i hi him => ?_, fun i hi => ?_⟩
  · rw [f4]; split
    · rename_i e; subst e; exact h.same _ hi
    · exact h.same i hi
  · rw [f4 i]
    by_cases hix : i = x.1
    · subst hix
      rw [if_pos rfl]
      simp only [Int.toNat_natCast]
      refine ⟨by omega, f1, ?_⟩
      rw [f4, if_neg hfx]
    · rw [if_neg hix]
      have him2 : i ∈ pre.map (·.1) := by
        rw [List.map_append, List.mem_append] at him
        rcases him with h1 | h1
        · exact h1
        · exact absurd (by simpa using h1) hix
      obtain ⟨d1, d2, d3⟩ := h.done i hi him2
      refine ⟨d1, d2, ?_⟩
      have hb := hx5 i him2
      have := tail_lt wf hb.2.1 hi d2
      have hne3 : (S.st i).fall.toNat ≠ x.1 := fun e => by rw [e] at this; omega
      rw [f4 (S.st i).fall.toNat, if_neg hne3]
      exact d3
  · rw [List.map_append, List.mem_append] at him
    rw [f4, if_neg (fun e => him (.inr (by simp [e])))]
    exact h.todo i hi (fun e => him (.inl e))
  · rw [f4 i]
    by_cases hix : i = x.1
    · subst hix
      rw [if_pos rfl]
      simp only
      by_cases hw : T.nw f = []
      · rw [if_pos hw]
        rcases h.link f f1.1 with h1 | ⟨h1, h2, h3⟩
        · exact .inl h1
        · exact .inr ⟨h1, h2, by omega⟩
      · rw [if_neg hw]
        exact .inr ⟨by omega, by have := f1.1; omega, by rw [Int.toNat_natCast]; exact f2⟩
    · rw [if_neg hix]
      exact h.link i hi

theorem Half.start {T : TTree} (ok : TreeOk T) : Half T [] T.laid := by
  have hs : ∀ i, i < T.nodes.length → T.laid.st i = ⟨T.kidsA i, -1, -1, T.nw i⟩ := fun i hi => by simp [Auto.st, TTree.laid, hi]
  refine ⟨by simp [TTree.laid], fun i hi => ?_, (fun i hi h => by cases h), fun i hi _ => ?_, fun i hi => ?_⟩
  · rw [hs i hi]; exact ⟨TTree.kidsA_eq ok hi, rfl⟩
  · rw [hs i hi]; exact ⟨rfl, rfl⟩
  · rw [hs i hi]; exact .inl rfl

theorem Half.autoTo {T : TTree} (wf : TreeWf T) : ∀ (n : Nat) (pre : List (Nat × Int)), pre.length = n → pre <+: T.levels → Half T (pre.map (·.1)) (T.autoTo pre) := by
  intro n
  induction n with
  | zero => intro pre hl _; rw [List.eq_nil_of_length_eq_zero hl]; exact Half.start wf.ok
  | succ n ih =>
    intro pre hl hp
    rcases List.eq_nil_or_concat pre with rfl | ⟨l, x, rfl⟩
    · simp at hl
    · rw [List.concat_eq_append] at hl hp ⊢
      rw [TTree.autoTo_snoc]
      exact (ih l (by simpa using hl) ((List.prefix_append _ _).trans hp)).step wf hp

/-- Such states are an automaton, wherever falls go towards the root. -/
theorem autoOk_of {T : TTree} (wf : TreeWf T) (hw : T.words.length ≤ 1048576) {S : Auto} (hlen : S.length = T.nodes.length) (hs : ∀ i, i < T.nodes.length → (S.st i).kids = T.kids i ∧ (S.st i).words = T.nw i)
    (hf : ∀ i, i < T.nodes.length → (S.st i).fall = -1 ∨ (0 ≤ (S.st i).fall ∧ (S.st i).fall < T.nodes.length ∧ (T.path (S.st i).fall.toNat).length < (T.path i).length))
    (hl : ∀ i, i < T.nodes.length → (S.st i).link = -1 ∨ (0 ≤ (S.st i).link ∧ (S.st i).link < T.nodes.length ∧ (T.path (S.st i).link.toNat).length < (T.path i).length)) : AutoOk S := by
  refine ⟨by rw [hlen]; exact wf.ok.pos, by rw [hlen]; exact wf.ok.le, fun i hi => ?_, fun i hi => ?_, fun i => (T.path i).length, fun i hi => ?_, fun i hi => ?_⟩
  · rw [hlen] at hi; rw [(hs i hi).1]; have := wf.ok.few i hi; have := wf.ok.le; omega
  · rw [hlen] at hi; rw [(hs i hi).2]; have := wf.ok.nw i hi; omega
  · rw [hlen] at hi ⊢; have := path_len wf hi; have := wf.ok.depth i hi; show (T.path i).length < _; omega
  · rw [hlen] at hi ⊢; exact ⟨hf i hi, hl i hi⟩

theorem Half.falls {T : TTree} (wf : TreeWf T) {pre : List (Nat × Int)} {S : Auto} (h : Half T (pre.map (·.1)) S) (hp : pre <+: T.levels) : ∀ i, i < T.nodes.length → (S.st i).fall = -1 ∨ (0 ≤ (S.st i).fall ∧ (S.st i).fall < T.nodes.length ∧ (T.path (S.st i).fall.toNat).length < (T.path i).length) := by
  intro i hi
  by_cases him : i ∈ pre.map (·.1)
  · obtain ⟨d1, d2, _⟩ := h.done i hi him
    have hi0 : 0 < i := by
      obtain ⟨y, hy, rfl⟩ := List.mem_map.1 him
      have hy1 := TTree.levels_mem.1 (hp.subset hy)
      rcases Nat.eq_zero_or_pos y.1 with h0 | h0
      · rw [h0, wf.root.1] at hy1; omega
      · exact h0
    exact .inr ⟨d1, by have := d2.1; omega, tail_lt wf hi0 hi d2⟩
  · exact .inl (h.todo i hi him).1
theorem Half.ok {T : TTree} (wf : TreeWf T) (hw : T.words.length ≤ 1048576) {pre : List (Nat × Int)} {S : Auto} (h : Half T (pre.map (·.1)) S) (hp : pre <+: T.levels) : AutoOk S :=
  autoOk_of wf hw h.len h.same (h.falls wf hp) h.link
theorem Half.ok1 {T : TTree} (wf : TreeWf T) (hw : T.words.length ≤ 1048576) {pre : List (Nat × Int)} {S : Auto} (h : Half T (pre.map (·.1)) S) {x : Nat × Int} (hx : pre ++ [x] <+: T.levels) : AutoOk (S.fall1 x) := by
  obtain ⟨hx0, hx1, _⟩ := levels_next wf hx
  have hxl : x.1 < S.length := by rw [h.len]; exact hx1
  have s1 : ∀ i, (S.fall1 x).st i = if i = x.1 then { S.st x.1 with fall := 0 } else S.st i := fun i => by
    unfold Auto.fall1
    rw [Auto.st_modify]
    by_cases hi : i = x.1
    · subst hi; simp [hxl]
    · simp [hi]
  have hpp : pre <+: T.levels := (List.prefix_append _ _).trans hx
  refine autoOk_of wf hw (by simp [Auto.fall1, h.len]) (fun i hi => ?_) (fun i hi => ?_) (fun i hi => ?_)
  · rw [s1]; split
    · rename_i e; subst e; exact h.same _ hi
    · exact h.same i hi
  · rw [s1]; split
    · rename_i e; subst e
      refine .inr ⟨Int.le_refl _, by have := wf.ok.pos; simp only; omega, ?_⟩
      rw [show (0 : Int).toNat = 0 from rfl, path_zero, path_up wf hx0 hx1]; simp
    · exact h.falls wf hpp i hi
  · rw [s1]; split
    · rename_i e; subst e; exact h.link _ hi
    · exact h.link i hi
end Go.Proofs.Ytlkiajepahkliaa

namespace Go.Proofs.Ytlkiajepahkliaa
set_option linter.unusedVariables false
set_option linter.unusedSimpArgs false

namespace TTree
theorem kids_addKid (T : TTree) {n : Nat} (hn : n < T.nodes.length) (p : Int) (i : Nat) : (T.addKid n p).kids i = if i = T.nodes.length then [] else if i = n then insAt (T.kids n) (place (T.kids n) p) (p, T.nodes.length) else T.kids i := by
  unfold TTree.kids
  rw [TTree.node_addKid T n p hn i]
  split
  · rfl
  · split <;> rfl
theorem nw_addKid (T : TTree) {n : Nat} (hn : n < T.nodes.length) (p : Int) (i : Nat) : (T.addKid n p).nw i = if i = T.nodes.length then [] else T.nw i := by
  unfold TTree.nw
  rw [TTree.node_addKid T n p hn i]
  split
  · rfl
  · split
    · rename_i h1 h2; rw [h2]
    · rfl
theorem updp_addKid (T : TTree) {n : Nat} (hn : n < T.nodes.length) (p : Int) {i : Nat} (hi : i < T.nodes.length) : ((T.addKid n p).node i).up = (T.node i).up ∧ ((T.addKid n p).node i).depth = (T.node i).depth ∧ ((T.addKid n p).node i).p = (T.node i).p := by
  rw [TTree.node_addKid T n p hn i, if_neg (by omega)]
  split
  · rename_i h; subst h; exact ⟨rfl, rfl, rfl⟩
  · exact ⟨rfl, rfl, rfl⟩
theorem node_addKid_new (T : TTree) {n : Nat} (hn : n < T.nodes.length) (p : Int) : (T.addKid n p).node T.nodes.length = ⟨n, p, (T.node n).depth + 1, [], []⟩ := by rw [TTree.node_addKid T n p hn, if_pos rfl]
end TTree

theorem mem_insAt {α : Type} (l : List α) (i : Nat) (x y : α) : y ∈ insAt l i x ↔ y = x ∨ y ∈ l := by
  unfold insAt
  conv => rhs; rw [← List.take_append_drop i l]
  simp only [List.mem_append, List.mem_cons]
  constructor
  · rintro (h | h | h)
    · exact .inr (.inl h)
    · exact .inl h
    · exact .inr (.inr h)
  · rintro (h | h | h)
    · exact .inr (.inl h)
    · exact .inl h
    · exact .inr (.inr h)

theorem hit_false {T : TTree} (wf : TreeWf T) {n : Nat} (hn : n < T.nodes.length) {p : Int} (hc : T.child n p = -1) : hitB (T.kids n) p (place (T.kids n) p) = false := by
  cases hh : hitB (T.kids n) p (place (T.kids n) p) with
  | false => rfl
  | true =>
    exfalso
    have hin : inB T n = true := decide_eq_true (by omega)
    unfold TTree.child at hc
    rw [if_pos hin, Int.toNat_natCast, if_pos hh] at hc
    have hh2 := of_decide_eq_true hh
    have := (wf.kid n hn _ (getD_mem hh2.1)).1
    omega

theorem TreeWf.addKid {T : TTree} (wf : TreeWf T) {n : Nat} (hn : n < T.nodes.length) {p : Int} (hc : T.child n p = -1) (hl : T.nodes.length < 1048576) : TreeWf (T.addKid n p) := by
  have hk := T.kids_addKid hn p
  refine ⟨wf.ok.addKid hn (hit_false wf hn hc) hl, ?_, fun i h0 hi => ?_, fun i hi x hx => ?_, fun i hi => ?_, fun j hj => ?_⟩
  · have := T.updp_addKid hn p wf.ok.pos
    rw [this.1, this.2.1]; exact wf.root
  · rw [TTree.len_addKid] at hi
    by_cases hin : i = T.nodes.length
    · subst hin
      rw [T.node_addKid_new hn p]
      simp only [Int.toNat_natCast]
      refine ⟨by omega, by rw [(T.updp_addKid hn p hn).2.1], ?_⟩
      rw [hk, if_neg (by omega), if_pos rfl, mem_insAt]
      exact .inl rfl
    · have hi2 : i < T.nodes.length := by omega
      obtain ⟨u1, u2, u3⟩ := T.updp_addKid hn p hi2
      have hu := wf.up i h0 hi2
      have hu2 := wf.ok.up i hi2
      have hul : (T.node i).up.toNat < T.nodes.length := by omega
      rw [u1, u2, u3, (T.updp_addKid hn p hul).2.1]
      refine ⟨hu.1, hu.2.1, ?_⟩
      rw [hk, if_neg (by omega)]
      by_cases he : (T.node i).up.toNat = n
      · rw [if_pos he, mem_insAt, ← he]; exact .inr hu.2.2
      · rw [if_neg he]; exact hu.2.2
  · rw [TTree.len_addKid] at hi ⊢
    rw [hk] at hx
    by_cases hin : i = T.nodes.length
    · rw [if_pos hin] at hx; cases hx
    · rw [if_neg hin] at hx
      have hold : ∀ x ∈ T.kids i, 0 < x.2 ∧ x.2 < ((T.nodes.length + 1 : Nat) : Int) ∧ ((T.addKid n p).node x.2.toNat).up = i ∧ ((T.addKid n p).node x.2.toNat).p = x.1 := fun x hx => by
        obtain ⟨k1, k2, k3, k4⟩ := wf.kid i (by omega) x hx
        have := T.updp_addKid hn p (i := x.2.toNat) (by omega)
        exact ⟨k1, by omega, by rw [this.1]; exact k3, by rw [this.2.2]; exact k4⟩
      by_cases he : i = n
      · rw [if_pos he, mem_insAt] at hx
        rcases hx with rfl | hx
        · have hp := wf.ok.pos
          simp only [Int.toNat_natCast]
          rw [T.node_addKid_new hn p]
          exact ⟨by omega, by omega, by rw [he], rfl⟩
        · exact hold x (by rw [he]; exact hx)
      · rw [if_neg he] at hx
        exact hold x hx
  · rw [TTree.len_addKid] at hi
    rw [T.nw_addKid hn p, TTree.words_addKid]
    by_cases hin : i = T.nodes.length
    · rw [if_pos hin, List.filter_eq_nil_iff.2, List.map_nil]
      intro j hj
      have := (wf.word j (by simpa using hj)).2
      simp only [decide_eq_true_eq]
      omega
    · rw [if_neg hin]; exact wf.nw i (by omega)
  · rw [TTree.words_addKid] at hj ⊢
    rw [TTree.len_addKid]
    have := wf.word j hj
    omega

theorem path_addKid_old {T : TTree} (wf : TreeWf T) {n : Nat} (hn : n < T.nodes.length) {p : Int} (wf' : TreeWf (T.addKid n p)) : ∀ (m i : Nat), i ≤ m → i < T.nodes.length → (T.addKid n p).path i = T.path i := by
  intro m
  induction m with
  | zero => intro i h hi; obtain rfl : i = 0 := by omega
            rw [path_zero, path_zero]
  | succ m ih =>
    intro i h hi
    rcases Nat.eq_zero_or_pos i with rfl | h0
    · rw [path_zero, path_zero]
    · have hu2 := wf.ok.up i hi
      have hu := (wf.up i h0 hi).1
      obtain ⟨u1, u2, u3⟩ := T.updp_addKid hn p hi
      rw [path_up wf' h0 (by rw [TTree.len_addKid]; omega), path_up wf h0 hi, u1, u3, ih _ (by omega) (by omega)]
theorem path_addKid_new {T : TTree} (wf : TreeWf T) {n : Nat} (hn : n < T.nodes.length) {p : Int} (wf' : TreeWf (T.addKid n p)) : (T.addKid n p).path T.nodes.length = T.path n ++ [p] := by
  rw [path_up wf' wf.ok.pos (by rw [TTree.len_addKid]; omega), T.node_addKid_new hn p]
  simp only [Int.toNat_natCast]
  rw [path_addKid_old wf hn wf' n n (Nat.le_refl _) hn]

namespace TTree
/-- All nodes' numbers. -/
def paths (T : TTree) : List (List Int) := (List.range T.nodes.length).map T.path
/-- All words. -/
def wpaths (T : TTree) : List (List Int) := T.words.map fun n => T.path n.toNat
end TTree

theorem paths_addKid {T : TTree} (wf : TreeWf T) {n : Nat} (hn : n < T.nodes.length) {p : Int} (wf' : TreeWf (T.addKid n p)) : (T.addKid n p).paths = T.paths ++ [T.path n ++ [p]] := by
  unfold TTree.paths
  rw [TTree.len_addKid, List.range_succ, List.map_append, List.map_cons, List.map_nil, path_addKid_new wf hn wf']
  congr 1
  exact List.map_congr_left fun i hi => path_addKid_old wf hn wf' i i (Nat.le_refl _) (by simpa using hi)
theorem wpaths_addKid {T : TTree} (wf : TreeWf T) {n : Nat} (hn : n < T.nodes.length) {p : Int} (wf' : TreeWf (T.addKid n p)) : (T.addKid n p).wpaths = T.wpaths := by
  unfold TTree.wpaths
  rw [TTree.words_addKid]
  refine List.map_congr_left fun x hx => ?_
  obtain ⟨j, hj, he⟩ := List.mem_iff_getElem.1 hx
  have := wf.word j hj
  rw [List.getD_eq_getElem?_getD, List.getElem?_eq_getElem hj, he] at this
  simp only [Option.getD_some] at this
  exact path_addKid_old wf hn wf' _ _ (Nat.le_refl _) (by omega)

/-- The beginnings of l behind s. -/
def begins (s : List Int) : List Int → List (List Int)
  | [] => []
  | p :: l => (s ++ [p]) :: begins (s ++ [p]) l

theorem addPath_spec : ∀ (l : List Int) (T : TTree) (n : Nat), TreeWf T → n < T.nodes.length → (∀ p l', l = p :: l' → T.child n p = -1) → T.nodes.length + l.length ≤ 1048576 →
    TreeWf (T.addPath n l).1 ∧ (T.addPath n l).2 < (T.addPath n l).1.nodes.length ∧ (T.addPath n l).1.path (T.addPath n l).2 = T.path n ++ l ∧
      (T.addPath n l).1.paths = T.paths ++ begins (T.path n) l ∧ (T.addPath n l).1.wpaths = T.wpaths ∧ (T.addPath n l).1.words = T.words ∧ (T.addPath n l).1.nodes.length = T.nodes.length + l.length := by
  intro l
  induction l with
  | nil => intro T n wf hn _ _; exact ⟨wf, hn, by simp [TTree.addPath], by simp [TTree.addPath, begins], rfl, rfl, rfl⟩
  | cons p l ih =>
    intro T n wf hn hc hl
    simp only [List.length_cons] at hl
    have hcp := hc p l rfl
    have wf' := wf.addKid hn hcp (by omega)
    have hnew := path_addKid_new wf hn wf'
    obtain ⟨a1, a2, a3, a4, a5, a6, a7⟩ := ih (T.addKid n p) T.nodes.length wf' (by rw [TTree.len_addKid]; omega) (fun q l' _ => by
      have hin : inB (T.addKid n p) T.nodes.length = true := decide_eq_true (by rw [TTree.len_addKid]; omega)
      unfold TTree.child
      rw [if_pos hin, Int.toNat_natCast, T.kids_addKid hn p, if_pos rfl, if_neg (by simp [hitB])]) (by rw [TTree.len_addKid]; omega)
    simp only [TTree.addPath]
    refine ⟨a1, a2, by rw [a3, hnew]; simp, by rw [a4, hnew, paths_addKid wf hn wf']; simp [begins], by rw [a5, wpaths_addKid wf hn wf'], a6, by rw [a7, TTree.len_addKid]; simp only [List.length_cons]; omega⟩

theorem node_addWord (T : TTree) (n i : Nat) : (T.addWord n).node i = if i = n ∧ n < T.nodes.length then { T.node i with words := T.nw n ++ [(T.words.length : Int)] } else T.node i := by
  show (T.setNw n (T.nw n ++ [(T.words.length : Int)])).node i = _
  rw [TTree.node_setNw]
theorem len_addWord (T : TTree) (n : Nat) : (T.addWord n).nodes.length = T.nodes.length := by simp [TTree.addWord, TTree.pushWord, TTree.setNw]
theorem words_addWord (T : TTree) (n : Nat) : (T.addWord n).words = T.words ++ [(n : Int)] := rfl
theorem updp_addWord (T : TTree) (n i : Nat) : ((T.addWord n).node i).up = (T.node i).up ∧ ((T.addWord n).node i).depth = (T.node i).depth ∧ ((T.addWord n).node i).p = (T.node i).p ∧ (T.addWord n).kids i = T.kids i := by
  unfold TTree.kids
  rw [node_addWord]
  split <;> exact ⟨rfl, rfl, rfl, rfl⟩

theorem TreeWf.addWord {T : TTree} (wf : TreeWf T) {n : Nat} (h0 : 0 < n) (hn : n < T.nodes.length) (hw : T.words.length < 1073741824) : TreeWf (T.addWord n) := by
  refine ⟨wf.ok.addWord hw, ?_, fun i hi0 hi => ?_, fun i hi x hx => ?_, fun i hi => ?_, fun j hj => ?_⟩
  · have := updp_addWord T n 0
    rw [this.1, this.2.1]; exact wf.root
  · rw [len_addWord] at hi
    obtain ⟨u1, u2, u3, u4⟩ := updp_addWord T n i
    rw [u1, u2, u3, (updp_addWord T n _).2.1, (updp_addWord T n _).2.2.2]
    exact wf.up i hi0 hi
  · rw [len_addWord] at hi ⊢
    rw [(updp_addWord T n i).2.2.2] at hx
    obtain ⟨u1, u2, u3, u4⟩ := updp_addWord T n x.2.toNat
    rw [u1, u3]
    exact wf.kid i hi x hx
  · rw [len_addWord] at hi
    have hold := wf.nw i hi
    rw [words_addWord, List.length_append, List.length_singleton, List.range_succ, List.filter_append, List.map_append]
    have e1 : ((List.range T.words.length).filter fun j => decide ((T.words ++ [(n : Int)]).getD j 0 = (i : Int))) = (List.range T.words.length).filter fun j => decide (T.words.getD j 0 = (i : Int)) := by
      refine List.filter_congr fun j hj => ?_
      rw [List.mem_range] at hj
      rw [List.getD_eq_getElem?_getD, List.getD_eq_getElem?_getD, List.getElem?_append_left hj]
    rw [e1, ← hold]
    have e2 : (T.words ++ [(n : Int)]).getD T.words.length 0 = (n : Int) := by simp
    unfold TTree.nw
    rw [node_addWord]
    by_cases he : i = n
    · subst he
      rw [if_pos ⟨rfl, hn⟩]
      simp [TTree.nw]
    · rw [if_neg (fun h => he h.1)]
      have h3 : ¬ ((n : Int) = (i : Int)) := by omega
      simp [h3]
  · rw [words_addWord] at hj ⊢
    rw [len_addWord]
    rw [List.length_append, List.length_singleton] at hj
    rw [List.getD_eq_getElem?_getD]
    by_cases hj2 : j < T.words.length
    · rw [List.getElem?_append_left hj2, ← List.getD_eq_getElem?_getD]; exact wf.word j hj2
    · obtain rfl : j = T.words.length := by omega
      simp; omega

theorem path_addWord {T : TTree} (n i : Nat) : (T.addWord n).path i = T.path i := by
  have : ∀ (f : Nat) (m : Int), (T.addWord n).upFrom f m = T.upFrom f m := by
    intro f
    induction f with
    | zero => intro m; rfl
    | succ f ih =>
      intro m
      simp only [TTree.upFrom]
      rw [len_addWord, (updp_addWord T n _).1, (updp_addWord T n _).2.2.1, ih]
  unfold TTree.path
  rw [this]
theorem paths_addWord {T : TTree} (n : Nat) : (T.addWord n).paths = T.paths := by
  unfold TTree.paths
  rw [len_addWord]
  exact List.map_congr_left fun i _ => path_addWord n i
theorem wpaths_addWord {T : TTree} (n : Nat) : (T.addWord n).wpaths = T.wpaths ++ [T.path n] := by
  unfold TTree.wpaths
  rw [words_addWord, List.map_append, List.map_cons, List.map_nil, Int.toNat_natCast, path_addWord]
  congr 1
  exact List.map_congr_left fun i _ => path_addWord n _

/-- What a walk comes to, with the numbers. -/
theorem walkFrom_path {T : TTree} (wf : TreeWf T) : ∀ (l : List Int) (n : Nat) (i : Int), n < T.nodes.length →
    ∃ m d : Nat, T.walkFrom n i l = ((m : Int), i + d) ∧ m < T.nodes.length ∧ d ≤ l.length ∧ T.path m = T.path n ++ l.take d ∧ (∀ p l', l.drop d = p :: l' → T.child m p = -1) := by
  intro l
  induction l with
  | nil => intro n i hn; exact ⟨n, 0, by simp [TTree.walkFrom], hn, Nat.le_refl _, by simp, by simp⟩
  | cons p l ih =>
    intro n i hn
    simp only [TTree.walkFrom]
    by_cases hc : T.child n p = -1
    · rw [if_pos hc]
      refine ⟨n, 0, by simp, hn, Nat.zero_le _, by simp, fun q l' h => ?_⟩
      simp at h
      rw [← h.1]; exact hc
    · rw [if_neg hc]
      obtain ⟨c1, c2, c3⟩ := path_child wf hc
      obtain ⟨t, ht⟩ : ∃ t : Nat, T.child n p = t := ⟨(T.child n p).toNat, by omega⟩
      rw [ht, Int.toNat_natCast] at c3
      obtain ⟨m, d, h1, h2, h3, h4, h5⟩ := ih t (i + 1) (by omega)
      refine ⟨m, d + 1, by rw [ht, h1]; congr 1; omega, h2, by simp only [List.length_cons]; omega, by rw [h4, c3]; simp, fun q l' h => h5 q l' (by simpa using h)⟩
theorem walk_path {T : TTree} (wf : TreeWf T) (l : List Int) : ∃ m d : Nat, T.walk l = ((m : Int), (d : Int)) ∧ m < T.nodes.length ∧ d ≤ l.length ∧ T.path m = l.take d ∧ (∀ p l', l.drop d = p :: l' → T.child m p = -1) := by
  obtain ⟨m, d, h1, h2, h3, h4, h5⟩ := walkFrom_path wf l 0 0 wf.ok.pos
  exact ⟨m, d, by unfold TTree.walk; rw [show (0 : Int) = ((0 : Nat) : Int) from rfl] at h1; rw [← show (0 : Int) = ((0 : Nat) : Int) from rfl] at h1; rw [h1]; simp, h2, h3, by rw [h4, path_zero]; rfl, h5⟩

/-- Put, of a word that has a number, where there is room. -/
theorem put_spec {T : TTree} (wf : TreeWf T) {l : List Int} (hl0 : l ≠ []) (hl : T.nodes.length + l.length ≤ 1048576) (hw : T.words.length < 1073741824) :
    ∃ d : Nat, d ≤ l.length ∧ l.take d ∈ T.paths ∧ (∀ e, d < e → e ≤ l.length → l.take e ∉ T.paths) ∧ TreeWf (T.put l).1 ∧ (T.put l).2 = ((T.words.length : Int), 0) ∧
      (T.put l).1.paths = T.paths ++ begins (l.take d) (l.drop d) ∧ (T.put l).1.wpaths = T.wpaths ++ [l] ∧ (T.put l).1.words.length = T.words.length + 1 ∧ (T.put l).1.nodes.length ≤ T.nodes.length + l.length := by
  obtain ⟨m, d, h1, h2, h3, h4, h5⟩ := walk_path wf l
  have hput : T.put l = ((T.addPath m (l.drop d)).1.addWord (T.addPath m (l.drop d)).2, (T.words.length : Int), 0) := by
    unfold TTree.put
    rw [if_neg hl0, h1, if_neg (by simp only; omega)]
    simp only [Int.toNat_natCast]
  obtain ⟨a1, a2, a3, a4, a5, a6, a7⟩ := addPath_spec (l.drop d) T m wf h2 h5 (by rw [List.length_drop]; omega)
  have hpl : T.path m ++ l.drop d = l := by rw [h4, List.take_append_drop]
  rw [hpl] at a3
  have hpos : 0 < (T.addPath m (l.drop d)).2 := by
    rcases Nat.eq_zero_or_pos (T.addPath m (l.drop d)).2 with h | h
    · rw [h, path_zero] at a3; exact absurd a3.symm hl0
    · exact h
  refine ⟨d, h3, ?_, fun e he1 he2 hm => ?_, ?_, by rw [hput], ?_, ?_, ?_, ?_⟩
  · unfold TTree.paths; rw [List.mem_map]; exact ⟨m, by simpa using h2, h4⟩
  · unfold TTree.paths at hm
    rw [List.mem_map] at hm
    obtain ⟨j, hj, hje⟩ := hm
    rw [List.mem_range] at hj
    have hd1 : d < l.length := by omega
    obtain ⟨k, _, hk2, hk3⟩ := path_prefix wf j j (Nat.le_refl _) hj (l.take (d + 1)) (by rw [hje]; exact (List.take_prefix_take_left (by omega)))
    have hdd : l.drop d = l[d] :: l.drop (d + 1) := List.drop_eq_getElem_cons hd1
    have hc := h5 _ _ hdd
    have := child_of_path wf (p := l[d]) h2 hk2 (by rw [hk3, h4, List.take_succ_eq_append_getElem hd1])
    omega
  · rw [hput]; exact a1.addWord hpos a2 (by rw [a6]; exact hw)
  · rw [hput]; simp only; rw [paths_addWord, a4, h4]
  · rw [hput]; simp only; rw [wpaths_addWord, a5, a3]
  · rw [hput]; simp only; rw [words_addWord, a6]; simp
  · rw [hput]; simp only; rw [len_addWord, a7, List.length_drop]; omega

theorem rootTree_wf : TreeWf rootTree := by
  have h0 : ∀ i, i < rootTree.nodes.length → i = 0 := fun i hi => by simp [rootTree] at hi; exact hi
  refine ⟨rootTree_ok, by simp [rootTree, TTree.node], fun i h hi => by rw [h0 i hi] at h; omega, fun i hi x hx => ?_, fun i hi => ?_, fun j hj => by simp [rootTree] at hj⟩
  · rw [h0 i hi] at hx; simp [rootTree, TTree.kids, TTree.node] at hx
  · rw [h0 i hi]; simp [rootTree, TTree.nw, TTree.node]
theorem rootTree_paths : rootTree.paths = [[]] := by
  unfold TTree.paths
  simp [rootTree, TTree.path, TTree.upFrom]
end Go.Proofs.Ytlkiajepahkliaa

namespace Go.Proofs.Ytlkiajepahkliaa
open Go.RowKit
set_option linter.unusedVariables false
set_option linter.unusedSimpArgs false

/-- Whole numbers sorted: a row that rises, of the same numbers. -/
theorem sortInts_eq {l m : List Int} (hl : l.Nodup) (hm : m.Pairwise (· < ·)) (h : ∀ x, x ∈ l ↔ x ∈ m) : sortInts l = m := by
  have hmn : m.Nodup := hm.imp (fun h => by omega)
  have hp : (sortInts l).Perm m := (List.mergeSort_perm l _).trans ((List.perm_ext_iff_of_nodup hl hmn).2 h)
  refine hp.eq_of_pairwise (le := fun x y => decide (x ≤ y)) ?_ ?_ ?_
  · intro a b _ _ h1 h2
    simp only [decide_eq_true_eq] at h1 h2
    omega
  · exact List.pairwise_mergeSort (by intro a b c h1 h2; simp only [decide_eq_true_eq] at *; omega) (by intro a b; simp; omega) l
  · exact hm.imp (fun h => by simp; omega)

theorem auto_half {T : TTree} (wf : TreeWf T) : Half T (T.levels.map (·.1)) T.auto := Half.autoTo wf _ T.levels rfl (List.prefix_refl _)
theorem levels_all {T : TTree} (wf : TreeWf T) {i : Nat} (h0 : 0 < i) (hi : i < T.nodes.length) : i ∈ T.levels.map (·.1) := by
  have hu := wf.up i h0 hi
  have hu2 := wf.ok.up i hi
  have hd := wf.ok.depth i hi
  have hd2 := wf.ok.depth (T.node i).up.toNat (by omega)
  exact List.mem_map.2 ⟨(i, (T.node i).up), TTree.levels_mem.2 ⟨hi, by simp only; omega, by simp only; omega, rfl⟩, rfl⟩
theorem levels_root {T : TTree} (wf : TreeWf T) : (0 : Nat) ∉ T.levels.map (·.1) := by
  intro h
  obtain ⟨y, hy, he⟩ := List.mem_map.1 h
  have hy1 := TTree.levels_mem.1 hy
  rw [he, wf.root.1] at hy1
  omega
theorem auto_len {T : TTree} (wf : TreeWf T) : List.length T.auto = T.nodes.length := (auto_half wf).len
theorem auto_ok {T : TTree} (wf : TreeWf T) (hw : T.words.length ≤ 1048576) : AutoOk T.auto := (auto_half wf).ok wf hw (List.prefix_refl _)

/-- The state behind a number. -/
theorem auto_next {T : TTree} (wf : TreeWf T) (p : Int) {l : List Int} {m : Nat} (hm : IsDeep T l m) : 0 ≤ T.auto.next m p ∧ IsDeep T (l ++ [p]) (T.auto.next m p).toNat := by
  have hh := auto_half wf
  exact next_deep wf hh.len (fun i hi => (hh.same i hi).1) (hh.todo 0 wf.ok.pos (levels_root wf)).1 p l hm (fun i h0 hi _ => ⟨(hh.done i hi (levels_all wf h0 hi)).1, (hh.done i hi (levels_all wf h0 hi)).2.1⟩)

/-- The words that end l. -/
def TTree.ending (T : TTree) (l : List Int) : List Int := ((List.range T.words.length).filter fun j => decide (T.path (T.words.getD j 0).toNat <:+ l)).map Int.ofNat

theorem ending_mem {T : TTree} {l : List Int} {x : Int} : x ∈ T.ending l ↔ ∃ j : Nat, x = j ∧ j < T.words.length ∧ T.path (T.words.getD j 0).toNat <:+ l := by
  unfold TTree.ending
  simp only [List.mem_map, List.mem_filter, List.mem_range, decide_eq_true_eq]
  constructor
  · rintro ⟨j, ⟨h1, h2⟩, rfl⟩; exact ⟨j, rfl, h1, h2⟩
  · rintro ⟨j, rfl, h1, h2⟩; exact ⟨j, ⟨h1, h2⟩, rfl⟩

theorem nw_mem {T : TTree} (wf : TreeWf T) {i : Nat} (hi : i < T.nodes.length) {x : Int} : x ∈ T.nw i ↔ ∃ j : Nat, x = j ∧ j < T.words.length ∧ T.words.getD j 0 = (i : Int) := by
  rw [wf.nw i hi]
  simp only [List.mem_map, List.mem_filter, List.mem_range, decide_eq_true_eq]
  constructor
  · rintro ⟨j, ⟨h1, h2⟩, rfl⟩; exact ⟨j, rfl, h1, h2⟩
  · rintro ⟨j, rfl, h1, h2⟩; exact ⟨j, ⟨h1, h2⟩, rfl⟩
theorem nw_nodup {T : TTree} (wf : TreeWf T) {i : Nat} (hi : i < T.nodes.length) : (T.nw i).Nodup := by
  rw [wf.nw i hi]
  refine List.Pairwise.map _ ?_ (List.nodup_range.filter _)
  intro a b h e
  exact h (Int.ofNat.inj e)

/-- What stands behind a state's link ends with its fall. -/
theorem endsF_spec {T : TTree} (wf : TreeWf T) (hw : T.words.length ≤ 1048576) : ∀ (d i : Nat), i < T.nodes.length → (T.path i).length ≤ d →
    (T.auto.endsF (T.auto.length + 2) i).Nodup ∧ ∀ x, x ∈ T.auto.endsF (T.auto.length + 2) i ↔ ∃ j : Nat, x = j ∧ j < T.words.length ∧ T.path (T.words.getD j 0).toNat <:+ T.path i := by
  have hh := auto_half wf
  have hok := auto_ok wf hw
  have hword : ∀ j, j < T.words.length → ∃ v : Nat, T.words.getD j 0 = v ∧ 0 < v ∧ v < T.nodes.length := fun j hj => by
    have := wf.word j hj
    exact ⟨(T.words.getD j 0).toNat, by omega, by omega, by omega⟩
  intro d
  induction d with
  | zero =>
    intro i hi hl
    have h0 : i = 0 := by
      rcases Nat.eq_zero_or_pos i with h | h
      · exact h
      · rw [path_up wf h hi] at hl; simp at hl
    subst h0
    have hst := Auto.ends_step hok (m := 0) (by rw [hh.len]; exact hi)
    rw [(hh.same 0 hi).2, (hh.todo 0 hi (levels_root wf)).2, Auto.ends_end, List.append_nil] at hst
    rw [hst]
    refine ⟨nw_nodup wf hi, fun x => ?_⟩
    rw [nw_mem wf hi]
    constructor
    · rintro ⟨j, h1, h2, h3⟩
      obtain ⟨v, hv1, hv2, hv3⟩ := hword j h2
      omega
    · rintro ⟨j, h1, h2, h3⟩
      obtain ⟨v, hv1, hv2, hv3⟩ := hword j h2
      rw [hv1, Int.toNat_natCast, path_zero, path_up wf hv2 hv3] at h3
      have := List.suffix_nil.1 h3
      simp at this
  | succ d ih =>
    intro i hi hl
    rcases Nat.eq_zero_or_pos i with rfl | h0
    · exact ih 0 hi (by rw [path_zero]; exact Nat.zero_le _)
    obtain ⟨d1, d2, d3⟩ := hh.done i hi (levels_all wf h0 hi)
    obtain ⟨f, hf⟩ : ∃ f : Nat, (T.auto.st i).fall = f := ⟨(T.auto.st i).fall.toNat, by omega⟩
    rw [hf, Int.toNat_natCast] at d2 d3
    have hlt := tail_lt wf h0 hi d2
    have hpi : ∃ a, T.path i = a :: (T.path i).tail := by
      rw [path_up wf h0 hi]
      cases T.path (T.node i).up.toNat with
      | nil => exact ⟨_, rfl⟩
      | cons a b => exact ⟨a, rfl⟩
    obtain ⟨a, ha⟩ := hpi
    obtain ⟨e1, e2⟩ := ih f d2.1 (by omega)
    have hst := Auto.ends_step hok (m := i) (by rw [hh.len]; exact hi)
    have hsf := Auto.ends_step hok (m := f) (by rw [hh.len]; exact d2.1)
    rw [(hh.same f d2.1).2] at hsf
    have hlink : T.auto.endsF (T.auto.length + 2) (T.auto.st i).link = T.auto.endsF (T.auto.length + 2) f := by
      rw [d3]
      by_cases hn : T.nw f = []
      · rw [if_pos hn, hsf, hn, List.nil_append]
      · rw [if_neg hn]
    rw [(hh.same i hi).2, hlink] at hst
    rw [hst]
    refine ⟨List.nodup_append.2 ⟨nw_nodup wf hi, e1, fun x hx y hy he => ?_⟩, fun x => ?_⟩
    · subst he
      obtain ⟨j, h1, h2, h3⟩ := (nw_mem wf hi).1 hx
      obtain ⟨k, h4, h5, h6⟩ := (e2 x).1 hy
      have hjk : j = k := by omega
      subst hjk
      rw [h3, Int.toNat_natCast] at h6
      have := h6.length_le
      omega
    · rw [List.mem_append, nw_mem wf hi, e2]
      constructor
      · rintro (⟨j, h1, h2, h3⟩ | ⟨j, h1, h2, h3⟩)
        · exact ⟨j, h1, h2, by rw [h3, Int.toNat_natCast]; exact List.suffix_refl _⟩
        · exact ⟨j, h1, h2, h3.trans (d2.2.1.trans (List.tail_suffix _))⟩
      · rintro ⟨j, h1, h2, h3⟩
        obtain ⟨v, hv1, hv2, hv3⟩ := hword j h2
        rw [hv1, Int.toNat_natCast] at h3
        by_cases he : v = i
        · exact .inl ⟨j, h1, h2, by rw [hv1, he]⟩
        · refine .inr ⟨j, h1, h2, ?_⟩
          rw [hv1, Int.toNat_natCast]
          have h4 : T.path v <:+ (T.path i).tail := by
            rw [ha] at h3
            rcases List.suffix_cons_iff.1 h3 with h5 | h5
            · rw [← ha] at h5; exact absurd (path_eq wf hv3 hi h5) he
            · exact h5
          exact suffix_le h4 d2.2.1 (d2.2.2 v hv3 h4)

theorem auto_ends {T : TTree} (wf : TreeWf T) (hw : T.words.length ≤ 1048576) {l : List Int} {m : Nat} (hm : IsDeep T l m) : T.auto.ends m = T.ending l := by
  obtain ⟨h1, h2⟩ := endsF_spec wf hw (T.path m).length m hm.1 (Nat.le_refl _)
  unfold Auto.ends
  refine sortInts_eq h1 ?_ (fun x => ?_)
  · unfold TTree.ending
    refine List.Pairwise.map _ ?_ (List.pairwise_lt_range.filter _)
    intro a b h
    exact Int.ofNat_lt.2 h
  · rw [h2, ending_mem]
    constructor
    · rintro ⟨j, h3, h4, h5⟩; exact ⟨j, h3, h4, h5.trans hm.2.1⟩
    · rintro ⟨j, h3, h4, h5⟩
      have := wf.word j h4
      exact ⟨j, h3, h4, suffix_le h5 hm.2.1 (hm.2.2 _ (by omega) h5)⟩
end Go.Proofs.Ytlkiajepahkliaa

namespace Go.Proofs.Ytlkiajepahkliaa
set_option linter.unusedVariables false
set_option linter.unusedSimpArgs false

def treeOf (ls : List (List Int)) : TTree := ls.foldl (fun T l => (T.put l).1) rootTree
theorem treeOf_snoc (ls : List (List Int)) (l : List Int) : treeOf (ls ++ [l]) = ((treeOf ls).put l).1 := by simp [treeOf]

/-- The beginnings of l that are not there are laid behind. -/
def addTo (L : List (List Int)) (l : List Int) : Nat → List (List Int)
  | 0 => L
  | n + 1 => if l.take (n + 1) ∈ addTo L l n then addTo L l n else addTo L l n ++ [l.take (n + 1)]
/-- The nodes' numbers of a tree of words. -/
def pathsOf (ls : List (List Int)) : List (List Int) := ls.foldl (fun L l => addTo L l l.length) [[]]
theorem pathsOf_snoc (ls : List (List Int)) (l : List Int) : pathsOf (ls ++ [l]) = addTo (pathsOf ls) l l.length := by simp [pathsOf]

theorem begins_take : ∀ (r s : List Int) (n : Nat), n ≤ r.length → (begins s r).take n = begins s (r.take n) := by
  intro r
  induction r with
  | nil => intro s n h; simp at h; subst h; rfl
  | cons p r ih =>
    intro s n h
    cases n with
    | zero => rfl
    | succ n => simp only [begins, List.take_succ_cons, ih _ n (by simpa using h)]
theorem begins_length : ∀ (r s : List Int), (begins s r).length = r.length := by
  intro r
  induction r with
  | nil => intro s; rfl
  | cons p r ih => intro s; simp [begins, ih]
theorem begins_snoc : ∀ (r s : List Int) (p : Int), begins s (r ++ [p]) = begins s r ++ [s ++ r ++ [p]] := by
  intro r
  induction r with
  | nil => intro s p; simp [begins]
  | cons q r ih => intro s p; simp [begins, ih]
theorem mem_begins_len : ∀ (r s : List Int) (x : List Int), x ∈ begins s r → x.length ≤ s.length + r.length := by
  intro r
  induction r with
  | nil => intro s x h; simp [begins] at h
  | cons q r ih =>
    intro s x h
    simp only [begins, List.mem_cons] at h
    rcases h with rfl | h
    · simp
    · have := ih _ _ h; simp at this ⊢; omega

theorem addTo_spec {L : List (List Int)} {l : List Int} {d : Nat} (hd : d ≤ l.length) (hin : ∀ e, e ≤ d → l.take e ∈ L) (hout : ∀ e, d < e → e ≤ l.length → l.take e ∉ L) : ∀ n, n ≤ l.length → addTo L l n = L ++ begins (l.take d) ((l.drop d).take (n - d)) := by
  intro n
  induction n with
  | zero => intro _; simp [addTo, begins]
  | succ n ih =>
    intro hn
    rw [addTo, ih (by omega)]
    by_cases h : n + 1 ≤ d
    · have e1 : n - d = 0 := by omega
      have e2 : n + 1 - d = 0 := by omega
      rw [e1, e2, if_pos (by simp [begins]; exact hin _ h)]
    · have hnd : d ≤ n := by omega
      have hlt : n - d < (l.drop d).length := by rw [List.length_drop]; omega
      have e3 : n + 1 - d = n - d + 1 := by omega
      have htk : l.take (n + 1) = l.take d ++ (l.drop d).take (n - d) ++ [(l.drop d)[n - d]] := by
        rw [List.append_assoc, ← List.take_succ_eq_append_getElem hlt, ← e3, ← List.drop_take]
        conv => lhs; rw [← List.take_append_drop d (l.take (n + 1)), List.take_take, Nat.min_eq_left (by omega)]
      have hni : l.take (n + 1) ∉ L ++ begins (l.take d) ((l.drop d).take (n - d)) := by
        intro hm
        rcases List.mem_append.1 hm with h1 | h1
        · exact hout _ (by omega) hn h1
        · have := mem_begins_len _ _ _ h1
          simp at this
          omega
      rw [if_neg hni, e3, List.take_succ_eq_append_getElem hlt, begins_snoc, htk, List.append_assoc]

structure TreeGood (T : TTree) (ls : List (List Int)) (B : Nat) : Prop where
  wf : TreeWf T
  words : T.words.length = ls.length
  nodes : T.nodes.length ≤ 1 + B * ls.length
  wpaths : T.wpaths = ls
  paths : T.paths = pathsOf ls

theorem treeGood_put {T : TTree} {ls : List (List Int)} {B : Nat} (h : TreeGood T ls B) {l : List Int} (hl0 : l ≠ []) (hl : l.length ≤ B) (hB : 1 + B * (ls.length + 1) ≤ 1048576) (hn : ls.length < 1048576) : TreeGood (T.put l).1 (ls ++ [l]) B ∧ (T.put l).2 = ((ls.length : Int), 0) := by
  have hm : B * (ls.length + 1) = B * ls.length + B := by rw [Nat.mul_add, Nat.mul_one]
  have hnodes := h.nodes
  have hwords := h.words
  obtain ⟨d, d1, d2, d3, d4, d5, d6, d7, d8, d9⟩ := put_spec h.wf hl0 (by omega) (by omega)
  refine ⟨⟨d4, by rw [d8, h.words]; simp, by rw [List.length_append, List.length_singleton, hm]; omega, by rw [d7, h.wpaths], ?_⟩, by rw [d5, h.words]⟩
  rw [d6, h.paths, pathsOf_snoc]
  rw [h.paths] at d2 d3
  have hin : ∀ e, e ≤ d → l.take e ∈ pathsOf ls := fun e he => by
    rw [← h.paths] at d2 ⊢
    unfold TTree.paths at d2 ⊢
    rw [List.mem_map] at d2 ⊢
    obtain ⟨i, hi, hie⟩ := d2
    rw [List.mem_range] at hi
    obtain ⟨j, _, hj2, hj3⟩ := path_prefix h.wf i i (Nat.le_refl _) hi (l.take e) (by rw [hie]; exact List.take_prefix_take_left he)
    exact ⟨j, by simpa using hj2, hj3⟩
  rw [addTo_spec d1 hin d3 l.length (Nat.le_refl _)]
  congr 2
  rw [List.take_of_length_le (by rw [List.length_drop]; exact Nat.le_refl _)]

theorem treeGood_root (B : Nat) : TreeGood rootTree [] B := ⟨rootTree_wf, rfl, by simp [rootTree], rfl, rootTree_paths⟩

theorem treeOf_good (B : Nat) (hB : 1 + B * 64 ≤ 1048576) : ∀ (n : Nat) (ls : List (List Int)), ls.length = n → ls.length ≤ 64 → (∀ l ∈ ls, l ≠ [] ∧ l.length ≤ B) → TreeGood (treeOf ls) ls B := by
  intro n
  induction n with
  | zero => intro ls h _ _; rw [List.eq_nil_of_length_eq_zero h]; exact treeGood_root B
  | succ n ih =>
    intro ls h hle hl
    rcases List.eq_nil_or_concat ls with rfl | ⟨m, x, rfl⟩
    · simp at h
    · rw [List.concat_eq_append] at h hle hl ⊢
      rw [List.length_append, List.length_singleton] at h hle
      rw [treeOf_snoc]
      have hx := hl x (by simp)
      have hmul : B * (m.length + 1) ≤ B * 64 := Nat.mul_le_mul_left _ (by omega)
      exact (treeGood_put (ih m (by omega) (by omega) (fun l hm => hl l (by simp [hm]))) hx.1 hx.2 (by omega) (by omega)).1
theorem treeOf_put (B : Nat) (hB : 1 + B * 64 ≤ 1048576) {ls : List (List Int)} {x : List Int} (hle : ls.length < 64) (hl : ∀ l ∈ ls, l ≠ [] ∧ l.length ≤ B) (hx : x ≠ [] ∧ x.length ≤ B) : ((treeOf ls).put x).2 = ((ls.length : Int), 0) := by
  have hmul : B * (ls.length + 1) ≤ B * 64 := Nat.mul_le_mul_left _ (by omega)
  exact (treeGood_put (treeOf_good B hB _ ls rfl (by omega) hl) hx.1 hx.2 (by omega) (by omega)).2
end Go.Proofs.Ytlkiajepahkliaa
