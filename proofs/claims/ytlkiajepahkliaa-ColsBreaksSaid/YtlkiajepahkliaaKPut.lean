/- trie.Put: what it answers, and the tree behind it. -/
import Derived.Test.YtlkiajepahkliaaKInsert
import Derived.Test.YtlkiajepahkliaaWTab
namespace Go.Proofs.Ytlkiajepahkliaa
open Go.RowKit Go.Proofs.YtlkiajepahkliaaW.PrintWords Go.Proofs.YtlkiajepahkliaaW.PrintLast
set_option linter.unusedVariables false
set_option linter.unusedSimpArgs false

def put10_T : Bool × List (List Nat × List Nat) := (true, [([], []), ([0], [0]), ([1], [1]), ([2], [2]), ([], []), ([], []), ([5], [5]), ([6], [6]), ([7], [7]), ([], []), ([8, 9], [8, 9]), ([10], [10]), ([11], [11]), ([], []), ([], []), ([], []), ([15], [15]), ([16], [16]), ([17], [17]), ([18], [18]), ([14, 19], [14, 19]), ([20], [20]), ([12, 13, 21], [12, 13, 21]), ([3, 4, 0, 1, 2, 3, 4, 5, 6, 7, 8, 9, 10, 11, 12, 13, 14, 15, 16, 17, 18, 19, 20, 21, 22], [3, 4]), ([23, 0, 1, 2, 3, 4, 5, 6, 7, 8, 9, 10, 11, 12, 13, 14, 15, 16, 17, 18, 19, 20, 21, 22], [23]), ([24, 22, 22, 0, 1, 2, 3, 4, 5, 6, 7, 8, 9, 10, 11, 12, 13, 14, 15, 16, 17, 18, 19, 20, 21, 22], [22, 24])])
def put10_B : List Nat := [0, 1, 3, 7, 0, 0, 32, 96, 224, 0, 992, 2016, 4064, 0, 0, 0, 32768, 98304, 229376, 491520, 1032192, 2080768, 4194272, 8388607, 16777215, 33554431]
theorem put10_tab : rtab .any (opsOf Try.f51 10) = put10_T := by kernel_rfl
theorem put10_bits : waitsOk put10_T.2 put10_B = true := by kernel_rfl
def put11_T : Bool × List (List Nat × List Nat) := (true, [([], []), ([], []), ([1], [1]), ([2], [2]), ([3], [3]), ([], []), ([], []), ([], []), ([7], [7]), ([8], [8]), ([9], [9]), ([], []), ([10, 11], [10, 11]), ([12], [12]), ([13], [13]), ([14], [14]), ([5, 6, 15], [5, 6, 15]), ([16], [16]), ([4, 17], [4, 17]), ([0, 0, 1, 2, 3, 4, 5, 6, 7, 8, 9, 10, 11, 12, 13, 14, 15, 16, 17, 18], [0]), ([19, 0, 1, 2, 3, 4, 5, 6, 7, 8, 9, 10, 11, 12, 13, 14, 15, 16, 17, 18], [19]), ([20, 18, 18, 0, 1, 2, 3, 4, 5, 6, 7, 8, 9, 10, 11, 12, 13, 14, 15, 16, 17, 18], [18, 20])])
def put11_B : List Nat := [0, 0, 2, 6, 14, 0, 0, 0, 128, 384, 896, 0, 3968, 8064, 16256, 32640, 65504, 131040, 262142, 524287, 1048575, 2097151]
theorem put11_tab : rtab .any (opsOf Try.f51 11) = put11_T := by kernel_rfl
theorem put11_bits : waitsOk put11_T.2 put11_B = true := by kernel_rfl
def put14_T : Bool × List (List Nat × List Nat) := (true, [([], []), ([0], [0]), ([1], [1]), ([2], [2]), ([], []), ([], []), ([5], [5]), ([6], [6]), ([7], [7]), ([], []), ([8, 9], [8, 9]), ([10], [10]), ([11], [11]), ([], []), ([13], [13]), ([14], [14]), ([15], [15]), ([16], [16]), ([17], [17]), ([12, 18], [12, 18]), ([3, 4, 0, 1, 2, 3, 4, 5, 6, 7, 8, 9, 10, 11, 12, 13, 14, 15, 16, 17, 18, 19], [3, 4]), ([20, 0, 1, 2, 3, 4, 5, 6, 7, 8, 9, 10, 11, 12, 13, 14, 15, 16, 17, 18, 19], [20]), ([21, 19, 19, 0, 1, 2, 3, 4, 5, 6, 7, 8, 9, 10, 11, 12, 13, 14, 15, 16, 17, 18, 19], [19, 21])])
def put14_B : List Nat := [0, 1, 3, 7, 0, 0, 32, 96, 224, 0, 992, 2016, 4064, 0, 8192, 24576, 57344, 122880, 253952, 524256, 1048575, 2097151, 4194303]
theorem put14_tab : rtab .any (opsOf Try.f51 14) = put14_T := by kernel_rfl
theorem put14_bits : waitsOk put14_T.2 put14_B = true := by kernel_rfl
theorem infoNode : (Try.prog.info? 128).map (fun i => (i.zero, i.size, i.bytes)) = some (some (.agg #[.int .i64 0, .int .u64 0, .int .i64 0, .slice none 0 0, .slice none 0 0]), 5, 72) := by kernel_rfl
theorem node_cells_of {w : World} {bv : Nat} {a b c d e : Value} {t : TypeId} (hb : w.heap[bv]? = some (.cells #[a, b, c, d, e] t (0, 0))) : ∀ j u, [a, b, c, d, e][j]? = some u → w.cell? ((⟨bv, 0, none⟩ : Addr).add j) = some u := by
  intro j u hj
  rw [addr_add, cell_of_row w bv _ _ _ (0, 0) hb, Nat.zero_add]
  match j, hj with
  | 0, hj => simpa using hj
  | 1, hj => simpa using hj
  | 2, hj => simpa using hj
  | 3, hj => simpa using hj
  | 4, hj => simpa using hj
theorem node_one (a b c : Int) : ∀ u ∈ [Value.int .i64 a, .int .u64 b, .int .i64 c, .slice none 0 0, .slice none 0 0], u.oneCell' = true := by
  intro u hu
  simp at hu
  rcases hu with rfl | rfl | rfl | rfl <;> rfl
theorem exec_append {P : Program} {oi : Oper} {a : Act} {w : World} (s x : Operand) (t : TypeId) (ho : oi.op = .call { callee := .builtin .append, args := #[s, x], argTypes := #[t, t] }) {v u : Value} (hs : a.eval s = v) (hx : a.eval x = u) {v' : Value} {w' : World}
    (hr : (Builtin.append_ #[t, t] oi.type #[v, u]).run P w = .ok v' w') : (execOp a.eval oi).run P w = .ok (.value v') w' := by
  unfold execOp
  simp only [ho, resolve, invoke, builtin, Sem.run_bind, Sem.run_pure, Result.andThen_ok, List.map_toArray, List.map_cons, List.map_nil, hs, hx, hr]
theorem infoInt : (Try.prog.info? 3).map (fun i => (i.zero, i.size, i.bytes)) = some (some (.int .i64 0), 1, 8) := by kernel_rfl
theorem int_one (k : IntKind) (x : Int) : ∀ u ∈ [Value.int k x], u.oneCell' = true := by
  intro u hu
  simp at hu
  rw [hu]
  rfl
theorem below_alloc_drew (w : World) (o : Obj) : Below w.heap.size w (w.alloc o).drew := ((Below.refl _ _).alloc (Nat.le_refl _) _).drew

set_option maxRecDepth 100000 in
set_option maxHeartbeats 1000000 in
theorem put_calls (bt : Nat) (T : TTree) (col : Nat → Option Nat) (v : Value) (l : List Int) (w : World) (h : TreeAt w bt T col) (ok : TreeOk T) (hv : IntRow w .u64 v l) (hl : l.length ≤ 1048576) (hw : T.words.length < 1073741824)
    (hfar : ∀ b off n c, v = .slice (some ⟨b, off, none⟩) n c → col b = none) :
    Calls Try.prog 51 #[.pointer (some ⟨bt, 0, none⟩), v] w fun e w' =>
      ∃ col', e = .returned (.tuple #[.int .i64 (T.put l).2.1, .int .i64 (T.put l).2.2]) ∧ TreeAt w' bt (T.put l).1 col' ∧ (∀ k, k < w.heap.size → col' k = col k) ∧ Mods (fun k => col k ≠ none) w w' := by
  have h' := Lib.hid h
  have ok' := Lib.hid ok
  have hv' := Lib.hid hv
  have hfar' := Lib.hid hfar
  obtain ⟨m, d, hwk, hm, hd, hfirst⟩ := TTree.walk_spec ok l
  have hwk' := Lib.hid hwk
  have hfirst' := Lib.hid hfirst
  have hnl := ok.le
  obtain ⟨A, c, rfl, hc, hr⟩ := hv
  clear hfar hfirst
  by_cases hl0 : l = []
  · subst hl0
    have hput : Hid (T.put [] = (T, -1, 1)) := rfl
    clear h ok hr hwk
    go_enter Try.func51, Try.ntmps51
    go_wp2_with fail
    refine (walk_calls bt T col _ [] _ h'.out ok'.out hv'.out (by simp)).mono ?_
    rintro e w1 ⟨rfl, hb⟩
    rw [hwk'.out]
    go_wp2_with fail
    go_ret2
    rw [hput.out]
    exact ⟨col, ret_ii rfl rfl, h'.out.below hb, fun _ _ => rfl, Mods.of_below hb⟩
  · have hl1 : 0 < l.length := List.length_pos_iff.2 hl0
    have hl2 : ¬ ((l.length : Int) = 0) := by omega
    obtain ⟨b, off, hA, hrc⟩ := hr.resolve_left (by omega)
    clear hr
    subst hA
    have hr' := Lib.hid hrc
    have hbc : Hid (col b = none) := hfar'.out b off l.length c rfl
    clear h ok hrc hwk
    by_cases hfull : 1048576 < (T.nodes.length : Int) + l.length - d
    · have hput : Hid (T.put l = (T, -1, 8)) := by
        show T.put l = (T, -1, 8)
        unfold TTree.put
        rw [if_neg hl0, hwk'.out, if_pos (by simp only; omega)]
      have hfd : decide ((1048576 : Int) < (T.nodes.length : Int) + l.length - d) = true := decide_eq_true hfull
      have hld : ((l.length : Int) == 0) = false := by simpa using hl0
      go_enter Try.func51, Try.ntmps51
      go_wp2_with fail
      refine (walk_calls bt T col _ l _ h'.out ok'.out hv'.out (by omega)).mono ?_
      rintro e w1 ⟨rfl, hb⟩
      rw [hwk'.out]
      have h1 := h'.out.below hb
      obtain ⟨g, c0, hc0, hcc, _, hcells⟩ := h1.cells ok'.out.pos
      have h1' := Lib.hid h1
      clear h1 hcells
      go_wp2_with fail
      go_ret2
      rw [hput.out]
      exact ⟨col, ret_ii rfl rfl, h1'.out, fun _ _ => rfl, Mods.of_below hb⟩
    · have hcdo : d = c ∨ ¬ d = c := Decidable.em _
      rcases hcdo with rfl | hcd
      all_goals
        have hfd : decide ((1048576 : Int) < (T.nodes.length : Int) + l.length - d) = false := decide_eq_false hfull
        have hld : ((l.length : Int) == 0) = false := by simpa using hl0
        go_enter Try.func51, Try.ntmps51
        go_wp2_with fail
        refine (walk_calls bt T col _ l _ h'.out ok'.out hv'.out (by omega)).mono ?_
        rintro e w1 ⟨rfl, hb⟩
        rw [hwk'.out]
        have h1 := h'.out.below hb
        obtain ⟨g, c0, hc0, hcc, _, hcells⟩ := h1.cells ok'.out.pos
        have h1' := Lib.hid h1
        clear h1 hcells
        go_wp2_with fail
        clear hc0
        go_loopw [6, 38] (fun x y wr => ∃ (Ti : TTree) (ni i : Nat) (ci : Nat → Option Nat), x = .int .i64 ni ∧ y = .int .i64 i ∧ d + i ≤ l.length ∧ TreeAt wr bt Ti ci ∧ TreeOk Ti ∧ Ti.nodes.length = T.nodes.length + i ∧ Ti.words = T.words ∧ ni < Ti.nodes.length ∧
          Ti.addPath ni (l.drop (d + i)) = T.addPath m (l.drop d) ∧ (d + i < l.length → hitB (Ti.kids ni) (l.getD (d + i) 0) (place (Ti.kids ni) (l.getD (d + i) 0)) = false) ∧ (∀ k, k < w.heap.size → ci k = col k) ∧ Mods (fun k => col k ≠ none) w wr) (fun _ y _ => l.length - (intOf y).toNat)
        case atStart => exact ⟨T, m, 0, col, rfl, rfl, by omega, h1'.out, ok'.out, rfl, rfl, hm, rfl, hfirst'.out, fun _ _ => rfl, Mods.of_below hb⟩
        case round =>
          obtain ⟨Ti, ni, i, ci, rfl, rfl, hi, hT, hok, hTl, hTw, hni, hpath, hhit, hcol, hM⟩ := hrel
          have hT' := Lib.hid hT
          have hok' := Lib.hid hok
          have hTl' := Lib.hid hTl
          have hTw' := Lib.hid hTw
          have hpath' := Lib.hid hpath
          have hhit' := Lib.hid hhit
          have hcol' := Lib.hid hcol
          have hTl2 : Ti.nodes.length ≤ 1048576 := hok.le
          clear hTl hTw hpath hhit hcol
          by_cases hlt : d + i < l.length
          · first
            | (exfalso; omega)
            | (
              have hTl3 : Ti.nodes.length < 1048576 := by have := hTl'.out; omega
              obtain ⟨p, hp⟩ : ∃ p, l.getD (d + i) 0 = p := ⟨_, rfl⟩
              have h1c := hr'.out (d + i) hlt
              rw [hp] at h1c
              have hbw := World.block_lt_of_cell? w _ h1c
              have e1 : wr.cell? ⟨b, off + (d + i), none⟩ = some (.int .u64 p) := (World.cell?_of_block (hM.block b hbw (by simpa using hbc.out))).trans h1c
              rw [← Nat.add_assoc] at e1
              have hp' := Lib.hid hp
              have hhit2 := hhit'.out hlt
              rw [hp] at hhit2
              have hhit3 := Lib.hid hhit2
              clear h1c hbw hp hhit2 hT hok
              go_wp2_with fail
              refine (treeAt_calls bt Ti ci ni p _ hT'.out hok'.out hni).mono ?_
              rintro e w2 ⟨rfl, hb2⟩
              rw [hhit3.out]
              have hT2 := hT'.out.below hb2
              have hM2 := hM.trans (Mods.of_below (S := fun k => col k ≠ none) hb2) (fun _ _ h => h)
              clear e1
              obtain ⟨g2, c2, q1, hcc2, _, hcells2⟩ := hT2.cells hok'.out.pos
              obtain ⟨k0, k1, k2, k3, k4, k5, xs, k6⟩ := hT2.more q1
              obtain ⟨kv, wv, _, _, q2, q3, _, hkv, _⟩ := hcells2 ni hni
              have hT2' := Lib.hid hT2
              have hkv' := Lib.hid hkv
              have k6' := Lib.hid k6
              have k0' := Lib.hid k0
              have k1' := Lib.hid k1
              obtain ⟨pl, hpl⟩ : ∃ pl, place (Ti.kids ni) p = pl := ⟨_, rfl⟩
              have hple : pl ≤ (Ti.kids ni).length := by rw [← hpl]; exact place_le _ _
              have hkl : (Ti.kids ni).length ≤ 1099511627776 := by have := hok'.out.few ni hni; omega
              rw [hpl]
              have hpl' := Lib.hid hpl
              have hn0 : (0 : Int) ≤ (ni : Int) := by omega
              have hn1 : (ni : Int) < (Ti.nodes.length : Int) := by omega
              have hnkb : Hid (kv.ownBlock ≠ some bt) := fun e => by have h9 : ci bt = some (3 + 2 * ni) := hkv'.out.2 bt e; rw [k0'.out] at h9; injection h9 with h9; omega
              have hnkg : Hid (kv.ownBlock ≠ some g2) := fun e => by have h9 : ci g2 = some (3 + 2 * ni) := hkv'.out.2 g2 e; rw [k1'.out] at h9; injection h9 with h9; omega
              have hnkn : Hid (kv.ownBlock ≠ some w2.heap.size) := fun e => by have := hkv'.out.lt _ e; omega
              clear hT2 hcells2 hkv k6 k0 k1 hpl
              go_wp2_with fail
              refine start_ (n := 26) (S := fun w' => w'.cell? ⟨bt, 0, none⟩ = some (.slice (some ⟨g2, 0, none⟩) Ti.nodes.length c2) ∧ w'.cell? ⟨g2, ni * 5 + 3, none⟩ = some kv) (ds := [25]) #[false, false, false, false, false, false, false, false, false, false, false, false, false, false, false, false, false, false, false, false, false, false, false, false, false, false] (by kernel_rfl) rfl rfl ⟨q1, q3⟩ (fun hHeld => ?_); refine with_tabW put10_tab put10_bits (fun HT_ HW_ => ?_)
              refine pure_ (i := 0) (N := some 49) (v := ?_) (a' := ?_) #[true, false, false, false, false, false, false, false, false, false, false, false, false, false, false, false, false, false, false, false, false, false, false, false, false, false] rfl rfl (any_of HT_.out (by kernel_rfl)) (fun _ _ _ h => h) (Or.inl ⟨by rfl, ?_⟩) ?_ ?_
              rotate_left
              · intro w'
                go_simp
                with_reducible rfl
              rotate_left
              · simp only [Act.put, List.setIfInBounds_toArray, List.set_cons_zero, List.set_cons_succ, i64_w, i32_w]
                rfl
              refine pure_ (i := 1) (N := some 50) (v := ?_) (a' := ?_) #[true, true, false, false, false, false, false, false, false, false, false, false, false, false, false, false, false, false, false, false, false, false, false, false, false, false] rfl rfl (any_of HT_.out (by kernel_rfl)) (fun _ _ _ h => h) (Or.inl ⟨by rfl, ?_⟩) ?_ ?_
              rotate_left
              · intro w'
                go_simp
                with_reducible rfl
              rotate_left
              · simp only [Act.put, List.setIfInBounds_toArray, List.set_cons_zero, List.set_cons_succ, i64_w, i32_w]
                rfl
              refine pure_ (i := 2) (N := some 51) (v := ?_) (a' := ?_) #[true, true, true, false, false, false, false, false, false, false, false, false, false, false, false, false, false, false, false, false, false, false, false, false, false, false] rfl rfl (any_of HT_.out (by kernel_rfl)) (fun _ _ _ h => h) (Or.inl ⟨by rfl, ?_⟩) ?_ ?_
              rotate_left
              · intro w'
                go_simp
                with_reducible rfl
              rotate_left
              · simp only [Act.put, List.setIfInBounds_toArray, List.set_cons_zero, List.set_cons_succ, i64_w, i32_w]
                rfl
              refine pure_ (i := 4) (N := some 53) (v := ?_) (a' := ?_) #[true, true, true, false, true, false, false, false, false, false, false, false, false, false, false, false, false, false, false, false, false, false, false, false, false, false] rfl rfl (any_of HT_.out (by kernel_rfl)) (fun _ _ _ h => h) (Or.inl ⟨by rfl, ?_⟩) ?_ ?_
              rotate_left
              · intro w'
                go_simp
                with_reducible rfl
              rotate_left
              · simp only [Act.put, List.setIfInBounds_toArray, List.set_cons_zero, List.set_cons_succ, i64_w, i32_w]
                rfl
              refine pure_ (i := 5) (N := some 54) (v := ?_) (a' := ?_) #[true, true, true, false, true, true, false, false, false, false, false, false, false, false, false, false, false, false, false, false, false, false, false, false, false, false] rfl rfl (any_of HT_.out (by kernel_rfl)) (fun _ _ _ h => h) (Or.inl ⟨by rfl, ?_⟩) ?_ ?_
              rotate_left
              · intro w'
                go_simp
                with_reducible rfl
              rotate_left
              · simp only [Act.put, List.setIfInBounds_toArray, List.set_cons_zero, List.set_cons_succ, i64_w, i32_w]
                rfl
              refine pure_ (i := 6) (N := some 55) (v := ?_) (a' := ?_) #[true, true, true, false, true, true, true, false, false, false, false, false, false, false, false, false, false, false, false, false, false, false, false, false, false, false] rfl rfl (any_of HT_.out (by kernel_rfl)) (fun _ _ _ h => h) (Or.inl ⟨by rfl, ?_⟩) ?_ ?_
              rotate_left
              · intro w'
                go_simp
                with_reducible rfl
              rotate_left
              · simp only [Act.put, List.setIfInBounds_toArray, List.set_cons_zero, List.set_cons_succ, i64_w, i32_w]
                rfl
              refine pure_ (i := 7) (N := some 56) (v := ?_) (a' := ?_) #[true, true, true, false, true, true, true, true, false, false, false, false, false, false, false, false, false, false, false, false, false, false, false, false, false, false] rfl rfl (any_of HT_.out (by kernel_rfl)) (fun _ _ _ h => h) (Or.inl ⟨by rfl, ?_⟩) ?_ ?_
              rotate_left
              · intro w'
                go_simp
                with_reducible rfl
              rotate_left
              · simp only [Act.put, List.setIfInBounds_toArray, List.set_cons_zero, List.set_cons_succ, i64_w, i32_w]
                rfl
              refine pure_ (i := 9) (N := some 58) (v := ?_) (a' := ?_) #[true, true, true, false, true, true, true, true, false, true, false, false, false, false, false, false, false, false, false, false, false, false, false, false, false, false] rfl rfl (any_of HT_.out (by kernel_rfl)) (fun _ _ _ h => h) (Or.inl ⟨by rfl, ?_⟩) ?_ ?_
              rotate_left
              · intro w'
                go_simp
                with_reducible rfl
              rotate_left
              · simp only [Act.put, List.setIfInBounds_toArray, List.set_cons_zero, List.set_cons_succ, i64_w, i32_w]
                rfl
              refine pure_ (i := 13) (N := some 62) (v := ?_) (a' := ?_) #[true, true, true, false, true, true, true, true, false, true, false, false, false, true, false, false, false, false, false, false, false, false, false, false, false, false] rfl rfl (any_of HT_.out (by kernel_rfl)) (fun _ _ _ h => h) (Or.inl ⟨by rfl, ?_⟩) ?_ ?_
              rotate_left
              · intro w'
                go_simp
                with_reducible rfl
              rotate_left
              · simp only [Act.put, List.setIfInBounds_toArray, List.set_cons_zero, List.set_cons_succ, i64_w, i32_w]
                rfl
              refine pure_ (i := 14) (N := some 63) (v := ?_) (a' := ?_) #[true, true, true, false, true, true, true, true, false, true, false, false, false, true, true, false, false, false, false, false, false, false, false, false, false, false] rfl rfl (any_of HT_.out (by kernel_rfl)) (fun _ _ _ h => h) (Or.inl ⟨by rfl, ?_⟩) ?_ ?_
              rotate_left
              · intro w'
                go_simp
                with_reducible rfl
              rotate_left
              · simp only [Act.put, List.setIfInBounds_toArray, List.set_cons_zero, List.set_cons_succ, i64_w, i32_w]
                rfl
              refine pure_ (i := 15) (N := some 64) (v := ?_) (a' := ?_) #[true, true, true, false, true, true, true, true, false, true, false, false, false, true, true, true, false, false, false, false, false, false, false, false, false, false] rfl rfl (any_of HT_.out (by kernel_rfl)) (fun _ _ _ h => h) (Or.inl ⟨by rfl, ?_⟩) ?_ ?_
              rotate_left
              · intro w'
                go_simp
                with_reducible rfl
              rotate_left
              · simp only [Act.put, List.setIfInBounds_toArray, List.set_cons_zero, List.set_cons_succ, i64_w, i32_w]
                rfl
              refine pure_ (i := 16) (N := some 65) (v := ?_) (a' := ?_) #[true, true, true, false, true, true, true, true, false, true, false, false, false, true, true, true, true, false, false, false, false, false, false, false, false, false] rfl rfl (any_of HT_.out (by kernel_rfl)) (fun _ _ _ h => h) (Or.inl ⟨by rfl, ?_⟩) ?_ ?_
              rotate_left
              · intro w'
                go_simp
                with_reducible rfl
              rotate_left
              · simp only [Act.put, List.setIfInBounds_toArray, List.set_cons_zero, List.set_cons_succ, i64_w, i32_w]
                rfl
              refine pure_ (i := 17) (N := some 66) (v := ?_) (a' := ?_) #[true, true, true, false, true, true, true, true, false, true, false, false, false, true, true, true, true, true, false, false, false, false, false, false, false, false] rfl rfl (any_of HT_.out (by kernel_rfl)) (fun _ _ _ h => h) (Or.inl ⟨by rfl, ?_⟩) ?_ ?_
              rotate_left
              · intro w'
                go_simp
                with_reducible rfl
              rotate_left
              · simp only [Act.put, List.setIfInBounds_toArray, List.set_cons_zero, List.set_cons_succ, i64_w, i32_w]
                rfl
              refine take_ (i := 3) (N := some 52) (v := ?_) (a' := ?_) #[true, true, true, true, true, true, true, true, false, true, false, false, false, true, true, true, true, true, false, false, false, false, false, false, false, false] rfl rfl (take_ofW HT_.out HW_.out (by kernel_rfl)) (fun _ _ _ h => h) (Or.inl ⟨by rfl, ?_⟩) hHeld ?_ ?_
              rotate_left
              · rintro w' ⟨s0, s1⟩
                go_simp
                with_reducible rfl
              rotate_left
              · simp only [Act.put, List.setIfInBounds_toArray, List.set_cons_zero, List.set_cons_succ, i64_w, i32_w]
                rfl
              refine take_ (i := 8) (N := some 57) (v := ?_) (a' := ?_) #[true, true, true, true, true, true, true, true, true, true, false, false, false, true, true, true, true, true, false, false, false, false, false, false, false, false] rfl rfl (take_ofW HT_.out HW_.out (by kernel_rfl)) (fun _ _ _ h => h) (Or.inl ⟨by rfl, ?_⟩) hHeld ?_ ?_
              rotate_left
              · rintro w' ⟨s0, s1⟩
                go_simp
                with_reducible rfl
              rotate_left
              · simp only [Act.put, List.setIfInBounds_toArray, List.set_cons_zero, List.set_cons_succ, i64_w, i32_w]
                rfl
              refine pure_ (i := 10) (N := some 59) (v := ?_) (a' := ?_) #[true, true, true, true, true, true, true, true, true, true, true, false, false, true, true, true, true, true, false, false, false, false, false, false, false, false] rfl rfl (any_of HT_.out (by kernel_rfl)) (fun _ _ _ h => h) (Or.inl ⟨by rfl, ?_⟩) ?_ ?_
              rotate_left
              · intro w'
                go_simp
                with_reducible rfl
              rotate_left
              · simp only [Act.put, List.setIfInBounds_toArray, List.set_cons_zero, List.set_cons_succ, i64_w, i32_w]
                rfl
              refine pure_ (i := 11) (N := some 60) (v := ?_) (a' := ?_) #[true, true, true, true, true, true, true, true, true, true, true, true, false, true, true, true, true, true, false, false, false, false, false, false, false, false] rfl rfl (any_of HT_.out (by kernel_rfl)) (fun _ _ _ h => h) (Or.inl ⟨by rfl, ?_⟩) ?_ ?_
              rotate_left
              · intro w'
                go_simp
                with_reducible rfl
              rotate_left
              · simp only [Act.put, List.setIfInBounds_toArray, List.set_cons_zero, List.set_cons_succ, i64_w, i32_w]
                rfl
              refine take_ (i := 12) (N := some 61) (v := ?_) (a' := ?_) #[true, true, true, true, true, true, true, true, true, true, true, true, true, true, true, true, true, true, false, false, false, false, false, false, false, false] rfl rfl (take_ofW HT_.out HW_.out (by kernel_rfl)) (fun _ _ _ h => h) (Or.inl ⟨by rfl, ?_⟩) hHeld ?_ ?_
              rotate_left
              · rintro w' ⟨s0, s1⟩
                go_simp
                with_reducible rfl
              rotate_left
              · simp only [Act.put, List.setIfInBounds_toArray, List.set_cons_zero, List.set_cons_succ, i64_w, i32_w]
                rfl
              refine take_ (i := 18) (N := some 67) (v := ?_) (a' := ?_) #[true, true, true, true, true, true, true, true, true, true, true, true, true, true, true, true, true, true, true, false, false, false, false, false, false, false] rfl rfl (take_ofW HT_.out HW_.out (by kernel_rfl)) (fun _ _ _ h => h) (Or.inl ⟨by rfl, ?_⟩) hHeld ?_ ?_
              rotate_left
              · rintro w' ⟨s0, s1⟩
                go_simp
                with_reducible rfl
              rotate_left
              · simp only [Act.put, List.setIfInBounds_toArray, List.set_cons_zero, List.set_cons_succ, i64_w, i32_w]
                rfl
              refine pure_ (i := 19) (N := some 68) (v := ?_) (a' := ?_) #[true, true, true, true, true, true, true, true, true, true, true, true, true, true, true, true, true, true, true, true, false, false, false, false, false, false] rfl rfl (any_of HT_.out (by kernel_rfl)) (fun _ _ _ h => h) (Or.inl ⟨by rfl, ?_⟩) ?_ ?_
              rotate_left
              · intro w'
                go_simp
                with_reducible rfl
              rotate_left
              · simp only [Act.put, List.setIfInBounds_toArray, List.set_cons_zero, List.set_cons_succ, i64_w, i32_w]
                rfl
              refine pure_ (i := 20) (N := some 69) (v := ?_) (a' := ?_) #[true, true, true, true, true, true, true, true, true, true, true, true, true, true, true, true, true, true, true, true, true, false, false, false, false, false] rfl rfl (any_of HT_.out (by kernel_rfl)) (fun _ _ _ h => h) (Or.inl ⟨by rfl, ?_⟩) ?_ ?_
              rotate_left
              · intro w'
                go_simp
                with_reducible rfl
              rotate_left
              · simp only [Act.put, List.setIfInBounds_toArray, List.set_cons_zero, List.set_cons_succ, i64_w, i32_w]
                rfl
              refine one_ (i := 21) (N := some 70) #[true, true, true, true, true, true, true, true, true, true, true, true, true, true, true, true, true, true, true, true, true, true, false, false, false, false] rfl rfl (one_of HT_.out (by kernel_rfl)) (by decide) (fun K hK => ?_)
              refine value_ (v := .slice (some ⟨w2.heap.size, 0, none⟩) 1 1) (w1 := (w2.alloc (.cells #[.int .u64 p, .int .i64 Ti.nodes.length] 136)).drew) (by rfl) rfl (by go_simp) ?_
              refine hK.out _ _ ⟨by go_simp, by go_simp⟩ (fun hHeld => ?_)
              clear hK K
              refine norm_ (a' := ?_) ?_ ?_
              rotate_left
              · show Act.put _ (some 70) _ = _
                simp only [Act.put, List.setIfInBounds_toArray, List.set_cons_zero, List.set_cons_succ, i64_w, i32_w]
                rfl
              refine one_ (i := 22) (N := some 71) #[true, true, true, true, true, true, true, true, true, true, true, true, true, true, true, true, true, true, true, true, true, true, true, false, false, false] rfl rfl (one_of HT_.out (by kernel_rfl)) (by decide) (fun K hK => ?_)
              refine goes_ Try.func78 (by kernel_rfl) rfl #[kv, .int .i64 pl, .slice (some ⟨w2.heap.size, 0, none⟩) 1 1] (by rfl) rfl rfl (by (try simp only [List.map_toArray, List.map_cons, List.map_nil]); first | done | rfl) ?_
              refine (insert_calls kv (Ti.kids ni) pl p Ti.nodes.length w2.heap.size ((w2.alloc (.cells #[.int .u64 p, .int .i64 Ti.nodes.length] 136)).drew) (hkv'.out.1.alloc _).drew hple hkl (heap_alloc_new w2 _) hnkn.out).mono ?_
              rintro e w3 ⟨A3, c3, rfl, ho3, hg3, hb3⟩
              have z1 : w3.cell? ⟨g2, ni * 5 + 3, none⟩ = some kv := (World.cell?_of_block (hg3.block g2 (by simp; omega) (Ne.symm hnkg.out))).trans (by go_simp)
              have z2 : w3.frozen? ⟨g2, ni * 5 + 3, none⟩ = false := (World.frozen?_of_block (hg3.block g2 (by simp; omega) (Ne.symm hnkg.out))).trans (by go_simp)
              have z3 : w3.cell? ⟨bt, 0, none⟩ = some (.slice (some ⟨g2, 0, none⟩) Ti.nodes.length c2) := (World.cell?_of_block (hg3.block bt (by simp; omega) (Ne.symm hnkb.out))).trans (by go_simp)
              refine ⟨_, rfl, ?_⟩
              refine hK.out _ _ ⟨z3, z1⟩ (fun hHeld => ?_)
              clear hK K
              refine norm_ (a' := ?_) ?_ ?_
              rotate_left
              · show Act.put _ (some 71) _ = _
                simp only [Act.put, List.setIfInBounds_toArray, List.set_cons_zero, List.set_cons_succ, i64_w, i32_w]
                rfl
              refine pure_ (i := 23) (N := some 72) (v := ?_) (a' := ?_) #[true, true, true, true, true, true, true, true, true, true, true, true, true, true, true, true, true, true, true, true, true, true, true, true, false, false] rfl rfl (any_of HT_.out (by kernel_rfl)) (fun _ _ _ h => h) (Or.inl ⟨by rfl, ?_⟩) ?_ ?_
              rotate_left
              · intro w'
                go_simp
                with_reducible rfl
              rotate_left
              · simp only [Act.put, List.setIfInBounds_toArray, List.set_cons_zero, List.set_cons_succ, i64_w, i32_w]
                rfl
              refine pure_ (i := 24) (N := some 73) (v := ?_) (a' := ?_) #[true, true, true, true, true, true, true, true, true, true, true, true, true, true, true, true, true, true, true, true, true, true, true, true, true, false] rfl rfl (any_of HT_.out (by kernel_rfl)) (fun _ _ _ h => h) (Or.inl ⟨by rfl, ?_⟩) ?_ ?_
              rotate_left
              · intro w'
                go_simp
                with_reducible rfl
              rotate_left
              · simp only [Act.put, List.setIfInBounds_toArray, List.set_cons_zero, List.set_cons_succ, i64_w, i32_w]
                rfl
              refine last_ (i := 25) (N := none) #[true, true, true, true, true, true, true, true, true, true, true, true, true, true, true, true, true, true, true, true, true, true, true, true, true, true] rfl rfl (one_of HT_.out (by kernel_rfl)) (by decide) (fun K hK => ?_)
              refine skip_ (w1 := ?_) (by rfl) rfl ?_ ?_
              rotate_left
              · go_simp
                rfl
              refine hK.out _ _ ?_
              clear hK K
              refine done_ (done_of HT_.out (by kernel_rfl)) ?_
              have hil := insAt_length (Ti.kids ni) pl (p, (Ti.nodes.length : Int)) hple
              have ho3' : w3.ownsRow 0 136 2 (.slice A3 ((Ti.kids ni).length + 1) c3) (insAt (Ti.kids ni) pl (p, (Ti.nodes.length : Int))).length (edgeCells (insAt (Ti.kids ni) pl (p, (Ti.nodes.length : Int)))) := by rw [hil]; exact ho3
              have hT3 : TreeAt ((w2.alloc (.cells #[.int .u64 p, .int .i64 Ti.nodes.length] 136)).drew) bt Ti ci := hT2'.out.below (below_alloc_drew _ _)
              obtain ⟨hT4, hM4, hc4⟩ := hT3.setKids hni (g := g2) (c := c2) (kv := kv) (by go_simp) (by go_simp) ho3' hg3 hb3
              generalize w3.setCell ⟨g2, ni * 5 + 3, none⟩ (.slice A3 ((Ti.kids ni).length + 1) c3) = w4 at hT4 hM4 ⊢
              have hM4' : Mods (fun k => col k ≠ none) w w4 := (hM2.trans (Mods.of_below (S := fun k => col k ≠ none) (below_alloc_drew w2 (.cells #[.int .u64 p, .int .i64 Ti.nodes.length] 136))) (fun _ _ h => h)).trans hM4 (fun k hk h => by rw [← hcol'.out k hk]; exact h)
              have hszM := hM2.size
              clear hHeld z1 z2 z3 q1 q2 q3 ho3 ho3' hg3 hb3 hT3 hM2 hM hn0 hn1 hnkb hnkg hnkn hkv' k6' k0' k1' hT2' hT' k2 k3 k4 k5 hb2 hcc2
              obtain ⟨T4, hT4e⟩ : ∃ T4, T4 = Ti.setKids ni (insAt (Ti.kids ni) pl (p, (Ti.nodes.length : Int))) := ⟨_, rfl⟩
              obtain ⟨c4, hc4e⟩ : ∃ c4, c4 = paint ci (.slice A3 ((Ti.kids ni).length + 1) c3) (3 + 2 * ni) := ⟨_, rfl⟩
              rw [← hT4e, ← hc4e] at hT4
              have hT4l : T4.nodes.length = Ti.nodes.length := by rw [hT4e]; exact TTree.len_setKids _ _ _
              have hT4d : (T4.node ni).depth = (Ti.node ni).depth := by rw [hT4e, TTree.node_setKids]; split <;> rfl
              have hd4 := hok'.out.depth ni hni
              rw [← hT4d] at hd4
              obtain ⟨dp, hdp⟩ : ∃ dp, (T4.node ni).depth = dp := ⟨_, rfl⟩
              rw [hdp] at hd4
              obtain ⟨g4, cap4, q1, hcc4, _, hcells4⟩ := hT4.cells (by omega)
              obtain ⟨k0, k1, k2, k3, k4, k5, xs4, k6⟩ := hT4.more q1
              obtain ⟨_, _, _, _, q2, _⟩ := hcells4 ni (by omega)
              rw [hdp] at q2
              rw [hT4l] at q1 k6
              obtain ⟨i1, hi1, hz1, hzs1, hzb1⟩ := info_parts infoNode
              have hT4' := Lib.hid hT4
              have k6' := Lib.hid k6
              have hbg : Hid (bt ≠ g4) := fun e => by rw [e, k1] at k0; injection k0 with k0; omega
              have hn0 : (0 : Int) ≤ (ni : Int) := by omega
              have hn1 : (ni : Int) < (Ti.nodes.length : Int) := by omega
              have hdw : IntKind.i64.wrap (dp + 1) = dp + 1 := IntWalk.i64_in _ (by omega)
              have hM4h := Lib.hid hM4'
              have hdp' := Lib.hid hdp
              have hT4l' := Lib.hid hT4l
              have hT4d' := Lib.hid hT4d
              have hT4e' := Lib.hid hT4e
              have hc4e' := Lib.hid hc4e
              have hcc4' : ∀ k, k < w.heap.size → paint ci (.slice A3 ((Ti.kids ni).length + 1) c3) (3 + 2 * ni) k = ci k := fun k hk => hc4 k (Nat.lt_of_lt_of_le hk (Nat.le_trans hszM (by simp)))
              have hcc4x := Lib.hid hcc4'
              clear hcc4'
              clear hT4 k6 k0 k1 hcells4 hM4 hM4' hdp hT4l hT4d hT4e hc4e hc4
              go_wp2_with fail
              refine start_ (n := 22) (S := fun w' => w'.cell? ⟨bt, 0, none⟩ = some (.slice (some ⟨g4, 0, none⟩) Ti.nodes.length cap4) ∧ w'.cell? ⟨g4, ni * 5 + 2, none⟩ = some (.int .i64 dp)) (ds := [18, 21]) #[false, false, false, false, false, false, false, false, false, false, false, false, false, false, false, false, false, false, false, false, false, false] (by kernel_rfl) rfl rfl ⟨q1, q2⟩ (fun hHeld => ?_); refine with_tabW put11_tab put11_bits (fun HT_ HW_ => ?_)
              refine pure_ (i := 0) (N := some 74) (v := ?_) (a' := ?_) #[true, false, false, false, false, false, false, false, false, false, false, false, false, false, false, false, false, false, false, false, false, false] rfl rfl (any_of HT_.out (by kernel_rfl)) (fun _ _ _ h => h) (Or.inl ⟨by rfl, ?_⟩) ?_ ?_
              rotate_left
              · intro w'
                go_simp
                with_reducible rfl
              rotate_left
              · simp only [Act.put, List.setIfInBounds_toArray, List.set_cons_zero, List.set_cons_succ, i64_w, i32_w]
                rfl
              refine pure_ (i := 1) (N := some 75) (v := ?_) (a' := ?_) #[true, true, false, false, false, false, false, false, false, false, false, false, false, false, false, false, false, false, false, false, false, false] rfl rfl (any_of HT_.out (by kernel_rfl)) (fun _ _ _ h => h) (Or.inl ⟨by rfl, ?_⟩) ?_ ?_
              rotate_left
              · intro w'
                go_simp
                with_reducible rfl
              rotate_left
              · simp only [Act.put, List.setIfInBounds_toArray, List.set_cons_zero, List.set_cons_succ, i64_w, i32_w]
                rfl
              refine pure_ (i := 2) (N := some 76) (v := ?_) (a' := ?_) #[true, true, true, false, false, false, false, false, false, false, false, false, false, false, false, false, false, false, false, false, false, false] rfl rfl (any_of HT_.out (by kernel_rfl)) (fun _ _ _ h => h) (Or.inl ⟨by rfl, ?_⟩) ?_ ?_
              rotate_left
              · intro w'
                go_simp
                with_reducible rfl
              rotate_left
              · simp only [Act.put, List.setIfInBounds_toArray, List.set_cons_zero, List.set_cons_succ, i64_w, i32_w]
                rfl
              refine pure_ (i := 3) (N := some 77) (v := ?_) (a' := ?_) #[true, true, true, true, false, false, false, false, false, false, false, false, false, false, false, false, false, false, false, false, false, false] rfl rfl (any_of HT_.out (by kernel_rfl)) (fun _ _ _ h => h) (Or.inl ⟨by rfl, ?_⟩) ?_ ?_
              rotate_left
              · intro w'
                go_simp
                with_reducible rfl
              rotate_left
              · simp only [Act.put, List.setIfInBounds_toArray, List.set_cons_zero, List.set_cons_succ, i64_w, i32_w]
                rfl
              refine pure_ (i := 5) (N := some 79) (v := ?_) (a' := ?_) #[true, true, true, true, false, true, false, false, false, false, false, false, false, false, false, false, false, false, false, false, false, false] rfl rfl (any_of HT_.out (by kernel_rfl)) (fun _ _ _ h => h) (Or.inl ⟨by rfl, ?_⟩) ?_ ?_
              rotate_left
              · intro w'
                go_simp
                with_reducible rfl
              rotate_left
              · simp only [Act.put, List.setIfInBounds_toArray, List.set_cons_zero, List.set_cons_succ, i64_w, i32_w]
                rfl
              refine pure_ (i := 6) (N := some 80) (v := ?_) (a' := ?_) #[true, true, true, true, false, true, true, false, false, false, false, false, false, false, false, false, false, false, false, false, false, false] rfl rfl (any_of HT_.out (by kernel_rfl)) (fun _ _ _ h => h) (Or.inl ⟨by rfl, ?_⟩) ?_ ?_
              rotate_left
              · intro w'
                go_simp
                with_reducible rfl
              rotate_left
              · simp only [Act.put, List.setIfInBounds_toArray, List.set_cons_zero, List.set_cons_succ, i64_w, i32_w]
                rfl
              refine pure_ (i := 7) (N := some 81) (v := ?_) (a' := ?_) #[true, true, true, true, false, true, true, true, false, false, false, false, false, false, false, false, false, false, false, false, false, false] rfl rfl (any_of HT_.out (by kernel_rfl)) (fun _ _ _ h => h) (Or.inl ⟨by rfl, ?_⟩) ?_ ?_
              rotate_left
              · intro w'
                go_simp
                with_reducible rfl
              rotate_left
              · simp only [Act.put, List.setIfInBounds_toArray, List.set_cons_zero, List.set_cons_succ, i64_w, i32_w]
                rfl
              refine pure_ (i := 8) (N := some 82) (v := ?_) (a' := ?_) #[true, true, true, true, false, true, true, true, true, false, false, false, false, false, false, false, false, false, false, false, false, false] rfl rfl (any_of HT_.out (by kernel_rfl)) (fun _ _ _ h => h) (Or.inl ⟨by rfl, ?_⟩) ?_ ?_
              rotate_left
              · intro w'
                go_simp
                with_reducible rfl
              rotate_left
              · simp only [Act.put, List.setIfInBounds_toArray, List.set_cons_zero, List.set_cons_succ, i64_w, i32_w]
                rfl
              refine pure_ (i := 9) (N := some 83) (v := ?_) (a' := ?_) #[true, true, true, true, false, true, true, true, true, true, false, false, false, false, false, false, false, false, false, false, false, false] rfl rfl (any_of HT_.out (by kernel_rfl)) (fun _ _ _ h => h) (Or.inl ⟨by rfl, ?_⟩) ?_ ?_
              rotate_left
              · intro w'
                go_simp
                with_reducible rfl
              rotate_left
              · simp only [Act.put, List.setIfInBounds_toArray, List.set_cons_zero, List.set_cons_succ, i64_w, i32_w]
                rfl
              refine pure_ (i := 11) (N := some 85) (v := ?_) (a' := ?_) #[true, true, true, true, false, true, true, true, true, true, false, true, false, false, false, false, false, false, false, false, false, false] rfl rfl (any_of HT_.out (by kernel_rfl)) (fun _ _ _ h => h) (Or.inl ⟨by rfl, ?_⟩) ?_ ?_
              rotate_left
              · intro w'
                go_simp
                with_reducible rfl
              rotate_left
              · simp only [Act.put, List.setIfInBounds_toArray, List.set_cons_zero, List.set_cons_succ, i64_w, i32_w]
                rfl
              refine take_ (i := 4) (N := some 78) (v := ?_) (a' := ?_) #[true, true, true, true, true, true, true, true, true, true, false, true, false, false, false, false, false, false, false, false, false, false] rfl rfl (take_ofW HT_.out HW_.out (by kernel_rfl)) (fun _ _ _ h => h) (Or.inl ⟨by rfl, ?_⟩) hHeld ?_ ?_
              rotate_left
              · rintro w' ⟨s0, s1⟩
                go_simp
                with_reducible rfl
              rotate_left
              · simp only [Act.put, List.setIfInBounds_toArray, List.set_cons_zero, List.set_cons_succ, i64_w, i32_w]
                rfl
              refine take_ (i := 10) (N := some 84) (v := ?_) (a' := ?_) #[true, true, true, true, true, true, true, true, true, true, true, true, false, false, false, false, false, false, false, false, false, false] rfl rfl (take_ofW HT_.out HW_.out (by kernel_rfl)) (fun _ _ _ h => h) (Or.inl ⟨by rfl, ?_⟩) hHeld ?_ ?_
              rotate_left
              · rintro w' ⟨s0, s1⟩
                go_simp
                with_reducible rfl
              rotate_left
              · simp only [Act.put, List.setIfInBounds_toArray, List.set_cons_zero, List.set_cons_succ, i64_w, i32_w]
                rfl
              refine pure_ (i := 12) (N := some 86) (v := ?_) (a' := ?_) #[true, true, true, true, true, true, true, true, true, true, true, true, true, false, false, false, false, false, false, false, false, false] rfl rfl (any_of HT_.out (by kernel_rfl)) (fun _ _ _ h => h) (Or.inl ⟨by rfl, ?_⟩) ?_ ?_
              rotate_left
              · intro w'
                go_simp
                with_reducible rfl
              rotate_left
              · simp only [Act.put, List.setIfInBounds_toArray, List.set_cons_zero, List.set_cons_succ, i64_w, i32_w]
                rfl
              refine pure_ (i := 13) (N := some 87) (v := ?_) (a' := ?_) #[true, true, true, true, true, true, true, true, true, true, true, true, true, true, false, false, false, false, false, false, false, false] rfl rfl (any_of HT_.out (by kernel_rfl)) (fun _ _ _ h => h) (Or.inl ⟨by rfl, ?_⟩) ?_ ?_
              rotate_left
              · intro w'
                go_simp
                with_reducible rfl
              rotate_left
              · simp only [Act.put, List.setIfInBounds_toArray, List.set_cons_zero, List.set_cons_succ, i64_w, i32_w]
                rfl
              refine take_ (i := 14) (N := some 88) (v := ?_) (a' := ?_) #[true, true, true, true, true, true, true, true, true, true, true, true, true, true, true, false, false, false, false, false, false, false] rfl rfl (take_ofW HT_.out HW_.out (by kernel_rfl)) (fun _ _ _ h => h) (Or.inl ⟨by rfl, ?_⟩) hHeld ?_ ?_
              rotate_left
              · rintro w' ⟨s0, s1⟩
                go_simp
                with_reducible rfl
              rotate_left
              · simp only [Act.put, List.setIfInBounds_toArray, List.set_cons_zero, List.set_cons_succ, i64_w, i32_w]
                rfl
              refine pure_ (i := 15) (N := some 89) (v := ?_) (a' := ?_) #[true, true, true, true, true, true, true, true, true, true, true, true, true, true, true, true, false, false, false, false, false, false] rfl rfl (any_of HT_.out (by kernel_rfl)) (fun _ _ _ h => h) (Or.inl ⟨by rfl, ?_⟩) ?_ ?_
              rotate_left
              · intro w'
                go_simp
                with_reducible rfl
              rotate_left
              · simp only [Act.put, List.setIfInBounds_toArray, List.set_cons_zero, List.set_cons_succ, i64_w, i32_w]
                rfl
              refine pure_ (i := 16) (N := some 90) (v := ?_) (a' := ?_) #[true, true, true, true, true, true, true, true, true, true, true, true, true, true, true, true, true, false, false, false, false, false] rfl rfl (any_of HT_.out (by kernel_rfl)) (fun _ _ _ h => h) (Or.inl ⟨by rfl, ?_⟩) ?_ ?_
              rotate_left
              · intro w'
                go_simp
                with_reducible rfl
              rotate_left
              · simp only [Act.put, List.setIfInBounds_toArray, List.set_cons_zero, List.set_cons_succ, i64_w, i32_w]
                rfl
              refine one_ (i := 17) (N := some 91) #[true, true, true, true, true, true, true, true, true, true, true, true, true, true, true, true, true, true, false, false, false, false] rfl rfl (one_of HT_.out (by kernel_rfl)) (by decide) (fun K hK => ?_)
              refine value_ (v := .slice (some ⟨w4.heap.size, 0, none⟩) 1 1) (w1 := (w4.alloc (.cells #[.int .i64 ni, .int .u64 p, .int .i64 (dp + 1), .slice none 0 0, .slice none 0 0] 128)).drew) (by rfl) rfl (by go_simp) ?_
              refine hK.out _ _ ⟨by go_simp, by go_simp⟩ (fun hHeld => ?_)
              clear hK K
              refine norm_ (a' := ?_) ?_ ?_
              rotate_left
              · show Act.put _ (some 91) _ = _
                simp only [Act.put, List.setIfInBounds_toArray, List.set_cons_zero, List.set_cons_succ, i64_w, i32_w]
                rfl
              refine last_ (i := 18) (N := some 92) #[true, true, true, true, true, true, true, true, true, true, true, true, true, true, true, true, true, true, true, false, false, false] rfl rfl (one_of HT_.out (by kernel_rfl)) (by decide) (fun K hK => ?_)
              obtain ⟨v5, w5, hr5, ho5, hg5, _, hat5⟩ := run_append_own_at (P := Try.prog) ((w4.alloc (.cells #[.int .i64 ni, .int .u64 p, .int .i64 (dp + 1), .slice none 0 0, .slice none 0 0] 128)).drew) 0 129 129 128 i1 _ 5 72 Try.underlying129 hi1 hz1 hzs1 hzb1 rfl (by decide) _ Ti.nodes.length xs4 ((k6'.out.alloc _).drew) ⟨w4.heap.size, 0, none⟩ 1 1 [.int .i64 ni, .int .u64 p, .int .i64 (dp + 1), .slice none 0 0, .slice none 0 0] rfl (node_cells_of (heap_alloc_new w4 _)) (node_one ni p (dp + 1)) (by unfold maxLen; omega) (by omega) (Nat.zero_le _)
              obtain ⟨A5, c5, rfl⟩ := ownsRow_slice ho5
              have z1 : w5.cell? ⟨bt, 0, none⟩ = some (.slice (some ⟨g4, 0, none⟩) Ti.nodes.length cap4) := (World.cell?_of_block (hg5.block bt (by simp; omega) (by simpa [Value.ownBlock] using hbg.out))).trans (by go_simp)
              have z2 : w5.frozen? ⟨bt, 0, none⟩ = false := (World.frozen?_of_block (hg5.block bt (by simp; omega) (by simpa [Value.ownBlock] using hbg.out))).trans (by go_simp)
              refine value_ (v := .slice A5 (Ti.nodes.length + 1) c5) (w1 := w5) (by rfl) rfl (exec_append (.tmp 78) (.tmp 91) 129 rfl rfl rfl hr5) ?_
              clear hr5
              refine hK.out _ _ ?_
              clear hK K
              refine norm_ (a' := ?_) ?_ ?_
              rotate_left
              · show Act.put _ (some 92) _ = _
                simp only [Act.put, List.setIfInBounds_toArray, List.set_cons_zero, List.set_cons_succ, i64_w, i32_w]
                rfl
              refine pure_ (i := 19) (N := some 93) (v := ?_) (a' := ?_) #[true, true, true, true, true, true, true, true, true, true, true, true, true, true, true, true, true, true, true, true, false, false] rfl rfl (any_of HT_.out (by kernel_rfl)) (fun _ _ _ h => h) (Or.inl ⟨by rfl, ?_⟩) ?_ ?_
              rotate_left
              · intro w'
                go_simp
                with_reducible rfl
              rotate_left
              · simp only [Act.put, List.setIfInBounds_toArray, List.set_cons_zero, List.set_cons_succ, i64_w, i32_w]
                rfl
              refine pure_ (i := 20) (N := some 94) (v := ?_) (a' := ?_) #[true, true, true, true, true, true, true, true, true, true, true, true, true, true, true, true, true, true, true, true, true, false] rfl rfl (any_of HT_.out (by kernel_rfl)) (fun _ _ _ h => h) (Or.inl ⟨by rfl, ?_⟩) ?_ ?_
              rotate_left
              · intro w'
                go_simp
                with_reducible rfl
              rotate_left
              · simp only [Act.put, List.setIfInBounds_toArray, List.set_cons_zero, List.set_cons_succ, i64_w, i32_w]
                rfl
              refine last_ (i := 21) (N := none) #[true, true, true, true, true, true, true, true, true, true, true, true, true, true, true, true, true, true, true, true, true, true] rfl rfl (one_of HT_.out (by kernel_rfl)) (by decide) (fun K hK => ?_)
              refine skip_ (w1 := ?_) (by rfl) rfl ?_ ?_
              rotate_left
              · go_simp
                rfl
              refine hK.out _ _ ?_
              clear hK K
              refine done_ (done_of HT_.out (by kernel_rfl)) ?_
              have hT5 : TreeAt ((w4.alloc (.cells #[.int .i64 ni, .int .u64 p, .int .i64 (dp + 1), .slice none 0 0, .slice none 0 0] 128)).drew) bt T4 c4 := hT4'.out.below (below_alloc_drew _ _)
              have ho5' : w5.ownsRow 0 128 5 (.slice A5 (Ti.nodes.length + 1) c5) (T4.nodes.length + 1) (xs4 ++ [.int .i64 ni, .int .u64 p, .int .i64 (dp + 1), .slice none 0 0, .slice none 0 0]) := by rw [hT4l'.out]; exact ho5
              have k6x : ((w4.alloc (.cells #[.int .i64 ni, .int .u64 p, .int .i64 (dp + 1), .slice none 0 0, .slice none 0 0] 128)).drew).ownsRow 0 128 5 (.slice (some ⟨g4, 0, none⟩) Ti.nodes.length cap4) T4.nodes.length xs4 := by rw [hT4l'.out]; exact (k6'.out.alloc _).drew
              obtain ⟨hT6, hM6, hc6⟩ := hT5.pushNode (vl := .slice (some ⟨g4, 0, none⟩) Ti.nodes.length cap4) (by go_simp) k6x ho5' hg5 (fun k hk => by
                rcases hat5 with h9 | h9
                · exact .inl (h9 ▸ hk)
                · rw [h9] at hk; injection hk with hk; exact .inr (by omega))
              generalize w5.setCell ⟨bt, 0, none⟩ (.slice A5 (Ti.nodes.length + 1) c5) = w6 at hT6 hM6 ⊢
              have hM7 : Mods (fun k => col k ≠ none) w w6 := (hM4h.out.trans (Mods.of_below (S := fun k => col k ≠ none) (below_alloc_drew w4 (.cells #[.int .i64 ni, .int .u64 p, .int .i64 (dp + 1), .slice none 0 0, .slice none 0 0] 128))) (fun _ _ h => h)).trans hM6 (fun k hk h => by
                have h8 : c4 k = ci k := by rw [hc4e'.out]; exact hcc4x.out k hk
                rw [h8, hcol'.out k hk] at h; exact h)
              have hT6e : T4.pushNode ⟨ni, p, dp + 1, [], []⟩ = Ti.addKid ni p := by
                unfold TTree.addKid
                rw [hT4e'.out, ← hdp'.out, hT4d'.out, hpl'.out]
              rw [hT6e] at hT6
              have hok6 := hok'.out.addKid hni hhit3.out hTl3
              obtain ⟨g6, cap6, q6, _, _, _⟩ := hT6.cells hok6.pos
              rw [TTree.len_addKid] at q6
              obtain ⟨c6, hc6e⟩ : ∃ c6, c6 = paint c4 (.slice A5 (Ti.nodes.length + 1) c5) 1 := ⟨_, rfl⟩
              rw [← hc6e] at hT6
              have hcol6 : ∀ k, k < w.heap.size → c6 k = col k := fun k hk => by
                have h9 : k < ((w4.alloc (.cells #[.int .i64 ni, .int .u64 p, .int .i64 (dp + 1), .slice none 0 0, .slice none 0 0] 128)).drew).heap.size := Nat.lt_of_lt_of_le hk (Nat.le_trans hM4h.out.size (by simp))
                rw [hc6e, hc6 k h9, hc4e'.out, hcc4x.out k hk, hcol'.out k hk]
              have hT6' := Lib.hid hT6
              have hok6' := Lib.hid hok6
              have hcol6' := Lib.hid hcol6
              have hd' : l.drop (d + i) = p :: l.drop (d + (i + 1)) := by
                rw [List.drop_eq_getElem_cons hlt, ← hp'.out, ← Nat.add_assoc]
                simp [hlt]
              have hpath6 : Hid ((Ti.addKid ni p).addPath Ti.nodes.length (l.drop (d + (i + 1))) = T.addPath m (l.drop d)) := by
                have := hpath'.out
                rw [hd'] at this
                exact this
              have hd'' := Lib.hid hd'
              clear hT6 hok6 hcol6 hc6 hT5 ho5 ho5' k6x hg5 hat5 hM6 hHeld z1 z2 q1 q2 k2 k3 k4 k5 k6' hT4' hd' hT6e hc6e hpath' hn0 hn1 hdw
              go_wp2_with fail
              go_roundw
              case rel =>
                refine ⟨Ti.addKid ni p, Ti.nodes.length, i + 1, c6, by go_num, by go_num, by omega, hT6'.out, hok6'.out, by rw [TTree.len_addKid, hTl'.out]; omega, by rw [TTree.words_addKid]; exact hTw'.out, by rw [TTree.len_addKid]; omega, hpath6.out, fun _ => ?_, hcol6'.out, hM7⟩
                have : (Ti.addKid ni p).kids Ti.nodes.length = [] := by unfold TTree.kids; rw [TTree.node_addKid _ _ _ hni, if_pos rfl]
                rw [this]
                rfl
              case measure => simp [intOf]; omega)
          · have hie : d + i = l.length := by omega
            have hpe := hpath'.out
            rw [hie, List.drop_length] at hpe
            have hpe' := Lib.hid hpe
            have hwl : Ti.words.length < 1073741824 := by rw [hTw'.out]; exact hw
            obtain ⟨g4, cap4, q1, hcc4, _, hcells4⟩ := hT.cells hok.pos
            obtain ⟨k0, k1, k2, k3, k4, k5, _⟩ := hT.more q1
            obtain ⟨_, wv, _, _, _, _, q2, _, hwv⟩ := hcells4 ni hni
            obtain ⟨vw, q3, hvw⟩ := hT.wcell
            obtain ⟨Aw, cw, hvwe, _, _, _⟩ := hvw.shape
            have hnw := hok.nw ni hni
            obtain ⟨i1, hi1, hz1, hzs1, hzb1⟩ := info_parts infoInt
            have hwv' := Lib.hid hwv
            have hvw' := Lib.hid hvw
            have hbg : Hid (wv.ownBlock ≠ some bt) := fun e => by have h9 : ci bt = some (4 + 2 * ni) := hwv'.out.2 bt e; rw [k0] at h9; injection h9 with h9; omega
            have hbg4 : Hid (wv.ownBlock ≠ some g4) := fun e => by have h9 : ci g4 = some (4 + 2 * ni) := hwv'.out.2 g4 e; rw [k1] at h9; injection h9 with h9; omega
            subst hvwe
            have hn0 : (0 : Int) ≤ (ni : Int) := by omega
            have hn1 : (ni : Int) < (Ti.nodes.length : Int) := by omega
            clear hT hok hpe hpath' k0 k1 hcells4 hwv hvw hie
            go_wp2_with fail
            refine start_ (n := 23) (S := fun w' => w'.cell? ⟨bt, 0, none⟩ = some (.slice (some ⟨g4, 0, none⟩) Ti.nodes.length cap4) ∧ w'.cell? ⟨g4, ni * 5 + 4, none⟩ = some wv ∧ w'.cell? ⟨bt, 1, none⟩ = some (.slice Aw Ti.words.length cw)) (ds := [22]) #[false, false, false, false, false, false, false, false, false, false, false, false, false, false, false, false, false, false, false, false, false, false, false] (by kernel_rfl) rfl rfl ⟨q1, q2, q3⟩ (fun hHeld => ?_); refine with_tabW put14_tab put14_bits (fun HT_ HW_ => ?_)
            refine pure_ (i := 0) (N := some 102) (v := ?_) (a' := ?_) #[true, false, false, false, false, false, false, false, false, false, false, false, false, false, false, false, false, false, false, false, false, false, false] rfl rfl (any_of HT_.out (by kernel_rfl)) (fun _ _ _ h => h) (Or.inl ⟨by rfl, ?_⟩) ?_ ?_
            rotate_left
            · intro w'
              go_simp
              with_reducible rfl
            rotate_left
            · simp only [Act.put, List.setIfInBounds_toArray, List.set_cons_zero, List.set_cons_succ, i64_w, i32_w]
              rfl
            refine pure_ (i := 1) (N := some 103) (v := ?_) (a' := ?_) #[true, true, false, false, false, false, false, false, false, false, false, false, false, false, false, false, false, false, false, false, false, false, false] rfl rfl (any_of HT_.out (by kernel_rfl)) (fun _ _ _ h => h) (Or.inl ⟨by rfl, ?_⟩) ?_ ?_
            rotate_left
            · intro w'
              go_simp
              with_reducible rfl
            rotate_left
            · simp only [Act.put, List.setIfInBounds_toArray, List.set_cons_zero, List.set_cons_succ, i64_w, i32_w]
              rfl
            refine pure_ (i := 2) (N := some 104) (v := ?_) (a' := ?_) #[true, true, true, false, false, false, false, false, false, false, false, false, false, false, false, false, false, false, false, false, false, false, false] rfl rfl (any_of HT_.out (by kernel_rfl)) (fun _ _ _ h => h) (Or.inl ⟨by rfl, ?_⟩) ?_ ?_
            rotate_left
            · intro w'
              go_simp
              with_reducible rfl
            rotate_left
            · simp only [Act.put, List.setIfInBounds_toArray, List.set_cons_zero, List.set_cons_succ, i64_w, i32_w]
              rfl
            refine pure_ (i := 4) (N := some 106) (v := ?_) (a' := ?_) #[true, true, true, false, true, false, false, false, false, false, false, false, false, false, false, false, false, false, false, false, false, false, false] rfl rfl (any_of HT_.out (by kernel_rfl)) (fun _ _ _ h => h) (Or.inl ⟨by rfl, ?_⟩) ?_ ?_
            rotate_left
            · intro w'
              go_simp
              with_reducible rfl
            rotate_left
            · simp only [Act.put, List.setIfInBounds_toArray, List.set_cons_zero, List.set_cons_succ, i64_w, i32_w]
              rfl
            refine pure_ (i := 5) (N := some 107) (v := ?_) (a' := ?_) #[true, true, true, false, true, true, false, false, false, false, false, false, false, false, false, false, false, false, false, false, false, false, false] rfl rfl (any_of HT_.out (by kernel_rfl)) (fun _ _ _ h => h) (Or.inl ⟨by rfl, ?_⟩) ?_ ?_
            rotate_left
            · intro w'
              go_simp
              with_reducible rfl
            rotate_left
            · simp only [Act.put, List.setIfInBounds_toArray, List.set_cons_zero, List.set_cons_succ, i64_w, i32_w]
              rfl
            refine pure_ (i := 6) (N := some 108) (v := ?_) (a' := ?_) #[true, true, true, false, true, true, true, false, false, false, false, false, false, false, false, false, false, false, false, false, false, false, false] rfl rfl (any_of HT_.out (by kernel_rfl)) (fun _ _ _ h => h) (Or.inl ⟨by rfl, ?_⟩) ?_ ?_
            rotate_left
            · intro w'
              go_simp
              with_reducible rfl
            rotate_left
            · simp only [Act.put, List.setIfInBounds_toArray, List.set_cons_zero, List.set_cons_succ, i64_w, i32_w]
              rfl
            refine pure_ (i := 7) (N := some 109) (v := ?_) (a' := ?_) #[true, true, true, false, true, true, true, true, false, false, false, false, false, false, false, false, false, false, false, false, false, false, false] rfl rfl (any_of HT_.out (by kernel_rfl)) (fun _ _ _ h => h) (Or.inl ⟨by rfl, ?_⟩) ?_ ?_
            rotate_left
            · intro w'
              go_simp
              with_reducible rfl
            rotate_left
            · simp only [Act.put, List.setIfInBounds_toArray, List.set_cons_zero, List.set_cons_succ, i64_w, i32_w]
              rfl
            refine pure_ (i := 9) (N := some 111) (v := ?_) (a' := ?_) #[true, true, true, false, true, true, true, true, false, true, false, false, false, false, false, false, false, false, false, false, false, false, false] rfl rfl (any_of HT_.out (by kernel_rfl)) (fun _ _ _ h => h) (Or.inl ⟨by rfl, ?_⟩) ?_ ?_
            rotate_left
            · intro w'
              go_simp
              with_reducible rfl
            rotate_left
            · simp only [Act.put, List.setIfInBounds_toArray, List.set_cons_zero, List.set_cons_succ, i64_w, i32_w]
              rfl
            refine pure_ (i := 13) (N := some 115) (v := ?_) (a' := ?_) #[true, true, true, false, true, true, true, true, false, true, false, false, false, true, false, false, false, false, false, false, false, false, false] rfl rfl (any_of HT_.out (by kernel_rfl)) (fun _ _ _ h => h) (Or.inl ⟨by rfl, ?_⟩) ?_ ?_
            rotate_left
            · intro w'
              go_simp
              with_reducible rfl
            rotate_left
            · simp only [Act.put, List.setIfInBounds_toArray, List.set_cons_zero, List.set_cons_succ, i64_w, i32_w]
              rfl
            refine pure_ (i := 14) (N := some 116) (v := ?_) (a' := ?_) #[true, true, true, false, true, true, true, true, false, true, false, false, false, true, true, false, false, false, false, false, false, false, false] rfl rfl (any_of HT_.out (by kernel_rfl)) (fun _ _ _ h => h) (Or.inl ⟨by rfl, ?_⟩) ?_ ?_
            rotate_left
            · intro w'
              go_simp
              with_reducible rfl
            rotate_left
            · simp only [Act.put, List.setIfInBounds_toArray, List.set_cons_zero, List.set_cons_succ, i64_w, i32_w]
              rfl
            refine pure_ (i := 15) (N := some 117) (v := ?_) (a' := ?_) #[true, true, true, false, true, true, true, true, false, true, false, false, false, true, true, true, false, false, false, false, false, false, false] rfl rfl (any_of HT_.out (by kernel_rfl)) (fun _ _ _ h => h) (Or.inl ⟨by rfl, ?_⟩) ?_ ?_
            rotate_left
            · intro w'
              go_simp
              with_reducible rfl
            rotate_left
            · simp only [Act.put, List.setIfInBounds_toArray, List.set_cons_zero, List.set_cons_succ, i64_w, i32_w]
              rfl
            refine take_ (i := 3) (N := some 105) (v := ?_) (a' := ?_) #[true, true, true, true, true, true, true, true, false, true, false, false, false, true, true, true, false, false, false, false, false, false, false] rfl rfl (take_ofW HT_.out HW_.out (by kernel_rfl)) (fun _ _ _ h => h) (Or.inl ⟨by rfl, ?_⟩) hHeld ?_ ?_
            rotate_left
            · rintro w' ⟨s0, s1, s2⟩
              go_simp
              with_reducible rfl
            rotate_left
            · simp only [Act.put, List.setIfInBounds_toArray, List.set_cons_zero, List.set_cons_succ, i64_w, i32_w]
              rfl
            refine take_ (i := 8) (N := some 110) (v := ?_) (a' := ?_) #[true, true, true, true, true, true, true, true, true, true, false, false, false, true, true, true, false, false, false, false, false, false, false] rfl rfl (take_ofW HT_.out HW_.out (by kernel_rfl)) (fun _ _ _ h => h) (Or.inl ⟨by rfl, ?_⟩) hHeld ?_ ?_
            rotate_left
            · rintro w' ⟨s0, s1, s2⟩
              go_simp
              with_reducible rfl
            rotate_left
            · simp only [Act.put, List.setIfInBounds_toArray, List.set_cons_zero, List.set_cons_succ, i64_w, i32_w]
              rfl
            refine pure_ (i := 10) (N := some 112) (v := ?_) (a' := ?_) #[true, true, true, true, true, true, true, true, true, true, true, false, false, true, true, true, false, false, false, false, false, false, false] rfl rfl (any_of HT_.out (by kernel_rfl)) (fun _ _ _ h => h) (Or.inl ⟨by rfl, ?_⟩) ?_ ?_
            rotate_left
            · intro w'
              go_simp
              with_reducible rfl
            rotate_left
            · simp only [Act.put, List.setIfInBounds_toArray, List.set_cons_zero, List.set_cons_succ, i64_w, i32_w]
              rfl
            refine pure_ (i := 11) (N := some 113) (v := ?_) (a' := ?_) #[true, true, true, true, true, true, true, true, true, true, true, true, false, true, true, true, false, false, false, false, false, false, false] rfl rfl (any_of HT_.out (by kernel_rfl)) (fun _ _ _ h => h) (Or.inl ⟨by rfl, ?_⟩) ?_ ?_
            rotate_left
            · intro w'
              go_simp
              with_reducible rfl
            rotate_left
            · simp only [Act.put, List.setIfInBounds_toArray, List.set_cons_zero, List.set_cons_succ, i64_w, i32_w]
              rfl
            refine take_ (i := 12) (N := some 114) (v := ?_) (a' := ?_) #[true, true, true, true, true, true, true, true, true, true, true, true, true, true, true, true, false, false, false, false, false, false, false] rfl rfl (take_ofW HT_.out HW_.out (by kernel_rfl)) (fun _ _ _ h => h) (Or.inl ⟨by rfl, ?_⟩) hHeld ?_ ?_
            rotate_left
            · rintro w' ⟨s0, s1, s2⟩
              go_simp
              with_reducible rfl
            rotate_left
            · simp only [Act.put, List.setIfInBounds_toArray, List.set_cons_zero, List.set_cons_succ, i64_w, i32_w]
              rfl
            refine take_ (i := 16) (N := some 118) (v := ?_) (a' := ?_) #[true, true, true, true, true, true, true, true, true, true, true, true, true, true, true, true, true, false, false, false, false, false, false] rfl rfl (take_ofW HT_.out HW_.out (by kernel_rfl)) (fun _ _ _ h => h) (Or.inl ⟨by rfl, ?_⟩) hHeld ?_ ?_
            rotate_left
            · rintro w' ⟨s0, s1, s2⟩
              go_simp
              with_reducible rfl
            rotate_left
            · simp only [Act.put, List.setIfInBounds_toArray, List.set_cons_zero, List.set_cons_succ, i64_w, i32_w]
              rfl
            refine pure_ (i := 17) (N := some 119) (v := ?_) (a' := ?_) #[true, true, true, true, true, true, true, true, true, true, true, true, true, true, true, true, true, true, false, false, false, false, false] rfl rfl (any_of HT_.out (by kernel_rfl)) (fun _ _ _ h => h) (Or.inl ⟨by rfl, ?_⟩) ?_ ?_
            rotate_left
            · intro w'
              go_simp
              with_reducible rfl
            rotate_left
            · simp only [Act.put, List.setIfInBounds_toArray, List.set_cons_zero, List.set_cons_succ, i64_w, i32_w]
              rfl
            refine one_ (i := 18) (N := some 120) #[true, true, true, true, true, true, true, true, true, true, true, true, true, true, true, true, true, true, true, false, false, false, false] rfl rfl (one_of HT_.out (by kernel_rfl)) (by decide) (fun K hK => ?_)
            refine value_ (v := .slice (some ⟨wr.heap.size, 0, none⟩) 1 1) (w1 := (wr.alloc (.cells #[.int .i64 Ti.words.length] 3)).drew) (by rfl) rfl (by go_simp) ?_
            refine hK.out _ _ ⟨by go_simp, by go_simp, by go_simp⟩ (fun hHeld => ?_)
            clear hK K
            refine norm_ (a' := ?_) ?_ ?_
            rotate_left
            · show Act.put _ (some 120) _ = _
              simp only [Act.put, List.setIfInBounds_toArray, List.set_cons_zero, List.set_cons_succ, i64_w, i32_w]
              rfl
            refine one_ (i := 19) (N := some 121) #[true, true, true, true, true, true, true, true, true, true, true, true, true, true, true, true, true, true, true, true, false, false, false] rfl rfl (one_of HT_.out (by kernel_rfl)) (by decide) (fun K hK => ?_)
            obtain ⟨v5, w5, hr5, ho5, hg5, _, hat5⟩ := run_append_own_at (P := Try.prog) ((wr.alloc (.cells #[.int .i64 Ti.words.length] 3)).drew) 0 31 31 3 i1 _ 1 8 Try.underlying31 hi1 hz1 hzs1 hzb1 rfl (by decide) _ (Ti.nw ni).length _ ((hwv'.out.1.alloc _).drew) ⟨wr.heap.size, 0, none⟩ 1 1 [.int .i64 Ti.words.length] rfl (cell_one_new wr _ _) (int_one _ _) (by unfold maxLen; omega) (by omega) (Nat.zero_le _)
            obtain ⟨A5, c5, rfl⟩ := ownsRow_slice ho5
            have z1 : w5.cell? ⟨g4, ni * 5 + 4, none⟩ = some wv := (World.cell?_of_block (hg5.block g4 (by simp; omega) (Ne.symm hbg4.out))).trans (by go_simp)
            have z2 : w5.frozen? ⟨g4, ni * 5 + 4, none⟩ = false := (World.frozen?_of_block (hg5.block g4 (by simp; omega) (Ne.symm hbg4.out))).trans (by go_simp)
            have z3 : w5.cell? ⟨bt, 0, none⟩ = some (.slice (some ⟨g4, 0, none⟩) Ti.nodes.length cap4) := (World.cell?_of_block (hg5.block bt (by simp; omega) (Ne.symm hbg.out))).trans (by go_simp)
            have z4 : w5.cell? ⟨bt, 1, none⟩ = some (.slice Aw Ti.words.length cw) := (World.cell?_of_block (hg5.block bt (by simp; omega) (Ne.symm hbg.out))).trans (by go_simp)
            refine value_ (v := .slice A5 ((Ti.nw ni).length + 1) c5) (w1 := w5) (by rfl) rfl (exec_append (.tmp 114) (.tmp 120) 31 rfl rfl rfl hr5) ?_
            clear hr5
            refine hK.out _ _ ⟨z3, z1, z4⟩ (fun hHeld => ?_)
            clear hK K
            refine norm_ (a' := ?_) ?_ ?_
            rotate_left
            · show Act.put _ (some 121) _ = _
              simp only [Act.put, List.setIfInBounds_toArray, List.set_cons_zero, List.set_cons_succ, i64_w, i32_w]
              rfl
            refine pure_ (i := 20) (N := some 122) (v := ?_) (a' := ?_) #[true, true, true, true, true, true, true, true, true, true, true, true, true, true, true, true, true, true, true, true, true, false, false] rfl rfl (any_of HT_.out (by kernel_rfl)) (fun _ _ _ h => h) (Or.inl ⟨by rfl, ?_⟩) ?_ ?_
            rotate_left
            · intro w'
              go_simp
              with_reducible rfl
            rotate_left
            · simp only [Act.put, List.setIfInBounds_toArray, List.set_cons_zero, List.set_cons_succ, i64_w, i32_w]
              rfl
            refine pure_ (i := 21) (N := some 123) (v := ?_) (a' := ?_) #[true, true, true, true, true, true, true, true, true, true, true, true, true, true, true, true, true, true, true, true, true, true, false] rfl rfl (any_of HT_.out (by kernel_rfl)) (fun _ _ _ h => h) (Or.inl ⟨by rfl, ?_⟩) ?_ ?_
            rotate_left
            · intro w'
              go_simp
              with_reducible rfl
            rotate_left
            · simp only [Act.put, List.setIfInBounds_toArray, List.set_cons_zero, List.set_cons_succ, i64_w, i32_w]
              rfl
            refine last_ (i := 22) (N := none) #[true, true, true, true, true, true, true, true, true, true, true, true, true, true, true, true, true, true, true, true, true, true, true] rfl rfl (one_of HT_.out (by kernel_rfl)) (by decide) (fun K hK => ?_)
            refine skip_ (w1 := ?_) (by rfl) rfl ?_ ?_
            rotate_left
            · go_simp
              rfl
            refine hK.out _ _ ?_
            clear hK K
            refine done_ (done_of HT_.out (by kernel_rfl)) ?_
            have hT5 : TreeAt ((wr.alloc (.cells #[.int .i64 Ti.words.length] 3)).drew) bt Ti ci := hT'.out.below (below_alloc_drew _ _)
            have ho5' : w5.ownsRow 0 3 1 (.slice A5 ((Ti.nw ni).length + 1) c5) (Ti.nw ni ++ [(Ti.words.length : Int)]).length (intCells .i64 (Ti.nw ni ++ [(Ti.words.length : Int)])) := by
              rw [List.length_append, List.length_singleton, intCells, List.map_append]; exact ho5
            obtain ⟨hT6, hM6, hc6⟩ := hT5.setNw hni (g := g4) (c := cap4) (kv := wv) (by go_simp) (by go_simp) ho5' hg5 (fun k hk => by
              rcases hat5 with h9 | h9
              · exact .inl (h9 ▸ hk)
              · rw [h9] at hk; injection hk with hk; exact .inr (by omega))
            generalize w5.setCell ⟨g4, ni * 5 + 4, none⟩ (.slice A5 ((Ti.nw ni).length + 1) c5) = w6 at hT6 hM6 ⊢
            have hM7 : Mods (fun k => col k ≠ none) w w6 := (hM.trans (Mods.of_below (S := fun k => col k ≠ none) (below_alloc_drew wr (.cells #[.int .i64 Ti.words.length] 3))) (fun _ _ h => h)).trans hM6 (fun k hk h => by
              rw [hcol'.out k hk] at h; exact h)
            have hszw : w.heap.size ≤ ((wr.alloc (.cells #[.int .i64 Ti.words.length] 3)).drew).heap.size := Nat.le_trans hM.size (by simp)
            clear hHeld z1 z2 z3 z4 q1 q2 q3 k2 k3 k4 k5 ho5 ho5' hg5 hat5 hT5 hwv' hvw' hbg hbg4 hn0 hn1
            obtain ⟨T6, hT6e⟩ : ∃ T6, T6 = Ti.setNw ni (Ti.nw ni ++ [(Ti.words.length : Int)]) := ⟨_, rfl⟩
            obtain ⟨c6, hc6e⟩ : ∃ c6, c6 = paint ci (.slice A5 ((Ti.nw ni).length + 1) c5) (4 + 2 * ni) := ⟨_, rfl⟩
            rw [← hT6e, ← hc6e] at hT6
            have hT6w : T6.words = Ti.words := by rw [hT6e]; rfl
            have hT6l : T6.nodes.length = Ti.nodes.length := by rw [hT6e]; exact TTree.len_setNw _ _ _
            have hcol6 : ∀ k, k < w.heap.size → c6 k = col k := fun k hk => by rw [hc6e, hc6 k (Nat.lt_of_lt_of_le hk hszw), hcol'.out k hk]
            obtain ⟨g6, cap6, q1, _, _, _⟩ := hT6.cells (by have := hok'.out.pos; omega)
            obtain ⟨k0, k1, k2, _, k4, _, _⟩ := hT6.more q1
            obtain ⟨vw6, q3, hvw⟩ := hT6.wcell
            obtain ⟨A6, cw6, hvwe, _, _, _⟩ := hvw.shape
            rw [hT6w] at hvwe hvw
            subst hvwe
            have hbg : Hid ((Value.slice A6 Ti.words.length cw6).ownBlock ≠ some bt) := fun e => by have h9 : c6 bt = some 2 := hvw.2 bt e; rw [k0] at h9; cases h9
            have hvw' := Lib.hid hvw
            have hT6' := Lib.hid hT6
            have hcol6' := Lib.hid hcol6
            have hT6e' := Lib.hid hT6e
            have hT6w' := Lib.hid hT6w
            have hM7' := Lib.hid hM7
            clear hT6 hcol6 hT6e hT6w hc6 hc6e hvw k0 k1 hT6l hM6 hM7 hM hszw q1
            go_wp2_with (at_builtin; refine wpList_append_own_at _ rfl (.tmp 128) (.tmp 130) 31 rfl 0 3 i1 (.int .i64 0) 1 8 Try.underlying31 hi1 hz1 hzs1 hzb1 rfl (by decide) _ Ti.words.length (intCells .i64 Ti.words) rfl (hvw'.out.1.alloc _) ⟨w6.heap.size, 0, none⟩ 1 1 [.int .i64 ni] rfl rfl (cell_one_new w6 _ _) (int_one _ _) (by unfold maxLen; omega) (by omega) (Nat.zero_le _) ?_; intro v7 w7 ho7 hg7 hnn hat7; clear hnn; obtain ⟨A7, c7, hv7⟩ := ownsRow_slice ho7; subst hv7; have z1 : w7.cell? ⟨bt, 1, none⟩ = some (.slice A6 Ti.words.length cw6) := (World.cell?_of_block (hg7.block bt (by simp; omega) (Ne.symm hbg.out))).trans (by go_simp); have z2 : w7.frozen? ⟨bt, 1, none⟩ = false := (World.frozen?_of_block (hg7.block bt (by simp; omega) (Ne.symm hbg.out))).trans (by go_simp))
            go_ret2
            have hbel : Below w6.heap.size w6 (w6.alloc (.cells #[.int .i64 ni] 3)) := (Below.refl _ _).alloc (Nat.le_refl _) _
            have ho7' : w7.ownsRow 0 3 1 (.slice A7 (Ti.words.length + 1) c7) (T6.words.length + 1) (intCells .i64 T6.words ++ [.int .i64 ni]) := by rw [hT6w'.out]; exact ho7
            obtain ⟨hT8, hM8, hc8⟩ := (hT6'.out.below hbel).pushWord (vw := .slice A6 Ti.words.length cw6) (by rw [hbel.cell k2]; exact q3) (x := (ni : Int)) ho7' hg7 (fun k hk => by
              rcases hat7 with h9 | h9
              · exact .inl (h9 ▸ hk)
              · rw [h9] at hk; injection hk with hk; exact .inr (by omega))
            have hTe : T6.pushWord (ni : Int) = Ti.addWord ni := by rw [hT6e'.out]; rfl
            have hput : T.put l = (Ti.addWord ni, (T.words.length : Int), 0) := by
              unfold TTree.put
              rw [if_neg hl0, hwk'.out, if_neg (by simp only; omega)]
              simp only [Int.toNat_natCast, ← hpe'.out]
              rfl
            rw [hTe] at hT8
            refine ⟨paint c6 (.slice A7 (Ti.words.length + 1) c7) 2, ?_, ?_, ?_, ?_⟩
            rotate_left
            · rw [hput]; exact hT8
            · intro k hk
              rw [hc8 k (Nat.lt_of_lt_of_le hk (Nat.le_trans hM7'.out.size (by simp))), hcol6'.out k hk]
            · exact (hM7'.out.trans (Mods.of_below (S := fun k => col k ≠ none) hbel) (fun _ _ h => h)).trans hM8 (fun k hk h => by rw [hcol6'.out k hk] at h; exact h)
            · rw [hput]
              refine ret_ii ?_ rfl
              rw [← hTw'.out]
end Go.Proofs.Ytlkiajepahkliaa
