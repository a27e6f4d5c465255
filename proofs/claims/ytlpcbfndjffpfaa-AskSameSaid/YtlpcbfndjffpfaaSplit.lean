/- The walk of the two Splits and of SameBytes. -/
import Derived.Test.YtlpcbfndjffpfaaRounds
set_option maxRecDepth 100000
set_option maxHeartbeats 4000000
set_option linter.unusedSimpArgs false
set_option linter.unusedVariables false
namespace Go.Proofs.Ytlpcbfndjffpfaa
open Go.Abs
/-- What is split: messages, what is left, the error. -/
def splitG (b : List UInt8) (m : Int) : List (List UInt8) × List UInt8 × Int :=
  if h4 : b.length < 4 then ([], b, 0) else
  if h7 : ofLe (b.take 4) < 7 then ([], [], 2) else
  if m < (ofLe (b.take 4) : Nat) then ([], [], 4) else
  if b.length < ofLe (b.take 4) then ([], b, 0) else
  (b.take (ofLe (b.take 4)) :: (splitG (b.drop (ofLe (b.take 4))) m).1, (splitG (b.drop (ofLe (b.take 4))) m).2)
termination_by b.length
decreasing_by all_goals (simp only [List.length_drop]; omega)
theorem sp_short {c : List UInt8} {m : Int} (h4 : c.length < 4) : splitG c m = ([], c, 0) := by rw [splitG, dif_pos h4]
theorem sp_form {c : List UInt8} {m : Int} (h4 : ¬ c.length < 4) (h7 : ofLe (c.take 4) < 7) : splitG c m = ([], [], 2) := by rw [splitG, dif_neg h4, dif_pos h7]
theorem sp_range {c : List UInt8} {m : Int} (h4 : ¬ c.length < 4) (h7 : ¬ ofLe (c.take 4) < 7) (hm : m < (ofLe (c.take 4) : Nat)) : splitG c m = ([], [], 4) := by rw [splitG, dif_neg h4, dif_neg h7, if_pos hm]
theorem sp_left {c : List UInt8} {m : Int} (h4 : ¬ c.length < 4) (h7 : ¬ ofLe (c.take 4) < 7) (hm : ¬ m < (ofLe (c.take 4) : Nat)) (h8 : c.length < ofLe (c.take 4)) : splitG c m = ([], c, 0) := by rw [splitG, dif_neg h4, dif_neg h7, if_neg hm, if_pos h8]
theorem sp_more {c : List UInt8} {m : Int} (h4 : ¬ c.length < 4) (h7 : ¬ ofLe (c.take 4) < 7) (hm : ¬ m < (ofLe (c.take 4) : Nat)) (h8 : ¬ c.length < ofLe (c.take 4)) : splitG c m = (c.take (ofLe (c.take 4)) :: (splitG (c.drop (ofLe (c.take 4))) m).1, (splitG (c.drop (ofLe (c.take 4))) m).2) := by rw [splitG, dif_neg h4, dif_neg h7, if_neg hm, if_neg h8]
/-- A list of byte strings, read. -/
def LH (H : List Block) (v : AV) (ls : List (List UInt8)) : Prop := ∃ ws : List (AV × List UInt8), RH H v 1 (ws.map (·.1)) ws.length ∧ ws.map (·.2) = ls ∧ ∀ w ∈ ws, BH H w.1 w.2
/-- One of one's own, whose strings lie where q says, and not where the list itself lies. -/
def LO (H : List Block) (q : Nat → Prop) (v : AV) (ls : List (List UInt8)) : Prop := ∃ ws : List (AV × List UInt8), OH H v 22 1 (ws.map (·.1)) ws.length ∧ ws.map (·.2) = ls ∧ ∀ w ∈ ws, BH H w.1 w.2 ∧ ∀ k, w.1.loc k → q k ∧ ¬ v.loc k
section
variable {H H' : List Block} {S : List (List Block)} {q : Nat → Prop} {v w : AV} {ls : List (List UInt8)} {l : List UInt8} {p : Nat → Prop}
theorem LO.nil : LO H q .nilsl [] := ⟨[], OH.nil, rfl, fun w hw => by cases hw⟩
theorem LO.lh (h : LO H q v ls) : LH H v ls := by
  obtain ⟨ws, h1, h2, h3⟩ := h
  exact ⟨ws, h1.rh, h2, fun w hw => (h3 w hw).1⟩
theorem LH.new (h : LH H v ls) (u : UpdH no H H') : LH H' v ls := by
  obtain ⟨ws, h1, h2, h3⟩ := h
  exact ⟨ws, h1.new u, h2, fun w hw => (h3 w hw).new u⟩
theorem LO.new (h : LO H q v ls) (u : UpdH no H H') : LO H' q v ls := by
  obtain ⟨ws, h1, h2, h3⟩ := h
  exact ⟨ws, h1.new u, h2, fun w hw => ⟨(h3 w hw).1.new u, (h3 w hw).2⟩⟩
theorem LO.st (h : LO H q v ls) : v.st = true ∧ v.cells = [v] ∧ v.lev0 = true ∧ (v = .nilsl ∨ ∃ i o n c, v = .sl ⟨0, i, o⟩ n c) := by
  obtain ⟨ws, h1, _⟩ := h
  rcases h1 with ⟨rfl, _⟩ | ⟨ix, c, mv, rfl, _⟩
  · exact ⟨rfl, rfl, rfl, .inl rfl⟩
  · exact ⟨rfl, rfl, rfl, .inr ⟨_, _, _, _, rfl⟩⟩
theorem LO.updAway (h : LO H q v ls) (u : UpdH p H H') (hv : ∀ k, v.loc k → ¬ p k) (hq : ∀ k, q k → ¬ p k) : LO H' q v ls := by
  obtain ⟨ws, h1, h2, h3⟩ := h
  exact ⟨ws, h1.upd u hv, h2, fun w hw => ⟨(h3 w hw).1.upd u fun k hk => hq k ((h3 w hw).2 k hk).1, (h3 w hw).2⟩⟩
theorem opA_slice {P : Program} {hp : List Nat} {env : List AV} {M : Mem} {d : Option Tmp} {ty t : TypeId} {pos : String} {af : Array Edge} {x : Operand} {lo hi mx : Option Operand} : opA P hp ⟨d, .slice t x lo hi mx, ty, pos, af, none⟩ env M = pureV (slices P t (ev env x) (lo.map (ev env)) (hi.map (ev env)) (mx.map (ev env)) M) M := by
  simp only [opA, slices]
  cases ti P t with
  | none => rfl
  | some i => obtain ⟨sz, b, de, z, pl⟩ := i; cases de <;> rfl
theorem slices_same {lo hi : Option AV} {x : AV} (h : BH H v l) (h' : BH H' v l) (hs : slices Try.prog 22 v lo hi none ⟨H, S⟩ = some x) : slices Try.prog 22 v lo hi none ⟨H', S⟩ = some x := by
  rw [← hs]
  unfold slices
  rw [ti22]; simp only
  unfold sliceA
  rw [ti22]; simp only
  rcases h with ⟨rfl, _⟩ | ⟨ix, off, c, r, rfl, g1, g2, _⟩
  · rfl
  · rcases h' with ⟨h0, _⟩ | ⟨ix', off', c', r', h0, k1, k2, _⟩
    · cases h0
    · cases h0
      have e1 : getRow ⟨H, S⟩ ⟨0, ix, off⟩ = some r := heap_row g1
      have e2 : getRow ⟨H', S⟩ ⟨0, ix, off⟩ = some r' := heap_row k1
      simp only [e1, e2, ti5, g2, k2]
theorem BH.sl (h : BH H v l) : v = .nilsl ∨ ∃ i o n c, v = .sl ⟨0, i, o⟩ n c := by
  rcases h with ⟨rfl, _⟩ | ⟨ix, off, c, r, rfl, _⟩
  · exact .inl rfl
  · exact .inr ⟨_, _, _, _, rfl⟩
theorem LO.lt (h : LO H q v ls) {k : Nat} (hk : v.loc k) : k < H.length := by
  obtain ⟨ws, h1, _⟩ := h
  exact h1.rh.lt hk
theorem one58 (hw : BH H w l) : buildSliceA Try.prog 58 true 1 [(0, w)] ⟨H, S⟩ = some (.sl ⟨0, H.length, 0⟩ 1 (some 1), ⟨H ++ [.row ⟨22, 1, [w], false, false⟩], S⟩) := one_cell ti58 rfl ti22 rfl rfl rfl hw.one.2 hw.one.1
/-- One string more. -/
theorem LO.push (h : LO H q v ls) (hw : BH H w l) (hb : ∀ k, w.loc k → q k ∧ ¬ v.loc k) (hn : ls.length < 1000000) :
    ∃ v' H', appendA Try.prog 58 58 true v (.sl ⟨0, H.length, 0⟩ 1 (some 1)) ⟨H ++ [.row ⟨22, 1, [w], false, false⟩], S⟩ = some (v', ⟨H', S⟩) ∧ LO H' q v' (ls ++ [l]) ∧ UpdH v.loc H H' ∧ ∀ k, v'.loc k → v.loc k ∨ H.length ≤ k := by
  obtain ⟨ws, h1, h2, h3⟩ := h
  have hwl : ws.length = ls.length := by rw [← h2]; simp
  have hx : RH (H ++ [.row ⟨22, 1, [w], false, false⟩]) (.sl ⟨0, H.length, 0⟩ 1 (some 1)) 1 [w] 1 := .inr ⟨H.length, 0, some 1, ⟨22, 1, [w], false, false⟩, rfl, by simp, rfl, rfl, rfl⟩
  have h1' : OH (H ++ [.row ⟨22, 1, [w], false, false⟩]) v 22 1 (ws.map (·.1)) ws.length := h1.new UpdH.push
  obtain ⟨v', H', a1, a2, a3, a4⟩ := appH (S := S) ti58 rfl ti22 ti58 rfl rfl ⟨by decide, by decide, rfl, rfl⟩ h1' (content_rh hx) (by simp [hw.one.1]) (by show (ws.length + 1) * 24 ≤ _; omega)
  have u : UpdH v.loc H H' := (UpdH.push (p := no)).new a3
  have hv' : ∀ k, v'.loc k → v.loc k ∨ H.length ≤ k := fun k hk => (a4 k hk).imp id fun h => by simp at h; omega
  have hsep : ∀ (x : AV) (lx : List UInt8), BH H x lx → (∀ k, x.loc k → ¬ v.loc k) → BH H' x lx ∧ ∀ k, x.loc k → ¬ v'.loc k := fun x lx hx hs => ⟨hx.upd u hs, fun k hk hc => (hv' k hc).elim (hs k hk) fun h => by have := RH.lt hx hk; omega⟩
  refine ⟨v', H', a1, ⟨ws ++ [(w, l)], by simpa using a2, by simp [h2], fun x hx => ?_⟩, u, hv'⟩
  rcases List.mem_append.1 hx with hx | hx
  · obtain ⟨g1, g2⟩ := hsep x.1 x.2 (h3 x hx).1 fun k hk => ((h3 x hx).2 k hk).2
    exact ⟨g1, fun k hk => ⟨((h3 x hx).2 k hk).1, g2 k hk⟩⟩
  · simp only [List.mem_singleton] at hx; subst hx
    obtain ⟨g1, g2⟩ := hsep w l hw fun k hk => (hb k hk).2
    exact ⟨g1, fun k hk => ⟨(hb k hk).1, g2 k hk⟩⟩
theorem build63 {x : AV} {e : Int} (hx : x = .nilsl ∨ ∃ i o n c, x = .sl ⟨0, i, o⟩ n c) : buildA Try.prog 63 [(0, x), (2, .int .i64 e)] = some (.agg [x, .nilsl, .int .i64 e]) := by
  unfold buildA; simp only [ti63]
  rcases hx with rfl | ⟨i, o, n, c, rfl⟩ <;> rfl
theorem build63' {x y : AV} (hx : x = .nilsl ∨ ∃ i o n c, x = .sl ⟨0, i, o⟩ n c) (hy : y = .nilsl ∨ ∃ i o n c, y = .sl ⟨0, i, o⟩ n c) : buildA Try.prog 63 [(0, x), (1, y)] = some (.agg [x, y, .int .i64 0]) := by
  unfold buildA; simp only [ti63]
  rcases hx with rfl | ⟨i, o, n, c, rfl⟩ <;> rcases hy with rfl | ⟨i', o', n', c', rfl⟩ <;> rfl
theorem at58L {v : AV} {ws : List (AV × List UInt8)} {i : Nat} (h : RH H v 1 (ws.map (·.1)) ws.length) (hw : ∀ w ∈ ws, BH H w.1 w.2) (hi : i < ws.length) :
    indexAddrA Try.prog 58 v (.int .i64 i) ⟨H, S⟩ = some (idx v i) ∧ loadA Try.prog 22 (idx v i) ⟨H, S⟩ = some ws[i].1 ∧ BH H ws[i].1 ws[i].2 :=
  ⟨(at58 h hi).1, (at58 h hi).2, hw _ (List.getElem_mem hi)⟩
theorem same49 {rs : List (List UInt8)} (h1 : LH H v ls) (h2 : LH H w rs) (hn : ls.length < 1000000) : AC Try.prog 49 [v, w] ⟨H, S⟩ (fun x M' => x = .bool (decide (ls = rs)) ∧ M' = ⟨H, S⟩) := by
  refine AC_of_WE Try.func49 rfl ?_
  simp only [Try.ntmps49, List.length_cons, List.length_nil, List.replicate, List.cons_append, List.nil_append, mem_enter]
  obtain ⟨ws, r1, rfl, b1⟩ := h1
  obtain ⟨zs, r2, rfl, b2⟩ := h2
  have hn' : ws.length < 1000000 := by simpa using hn
  have l1 : ∀ S, lenA Try.prog 58 v ⟨H, S⟩ = some (.int .i64 ws.length) := fun S => len_rd (r1.rd (S := S)) ti58 rfl
  have l2 : ∀ S, lenA Try.prog 58 w ⟨H, S⟩ = some (.int .i64 zs.length) := fun S => len_rd (r2.rd (S := S)) ti58 rfl
  (repeat refine W_seq ?_); refine W_regionT [] ?_
  simp only [go_sem]
  rcases (show ¬ ws.length = zs.length ∨ ws.length = zs.length by omega) with hne | hne
  · have hc : ¬ (ws.length : Int) = (zs.length : Int) := by omega
    (repeat refine W_seq ?_); refine W_regionT [] ?_
    simp only [go_sem, l1, l2, hc]
    (repeat refine W_seq ?_)
    refine W_cond (b := true) rfl ?_
    simp only [if_true]
    (repeat refine W_seq ?_); refine W_regionT [] ?_
    simp only [go_sem]
    refine W_ret ⟨.inr rfl, _, rfl, rfl, ?_, rfl⟩
    rw [show decide (ws.map (·.2) = zs.map (·.2)) = false from decide_eq_false (fun h => hne (by have := congrArg List.length h; simpa using this))]; rfl
  · have hc : (ws.length : Int) = (zs.length : Int) := by omega
    (repeat refine W_seq ?_); refine W_regionT [] ?_
    simp only [go_sem, l1, l2, hc]
    (repeat refine W_seq ?_)
    refine W_cond (b := false) rfl ?_
    simp only [Bool.false_eq_true, if_false]
    refine W_skip ?_
    simp only [go_sem]
    (repeat refine W_seq ?_); refine W_regionT [] ?_
    simp only [go_sem]
    (repeat refine W_seq ?_)
    refine W_block (W_loop (L_inv (fun j env M' => ∃ (x2 x3 x4 x6 x7 x8 x9 x10 x11 x12 x13 x14 x15 x16 x17 x18 x19 x20 x21 x22 x23 x24 x25 x26 x27 : AV) (i : Nat), env = [v, w, x2, x3, x4, .int .i64 i, x6, x7, x8, x9, x10, x11, x12, x13, x14, x15, x16, x17, x18, x19, x20, x21, x22, x23, x24, x25, x26, x27] ∧ i + j = ws.length ∧ M' = ⟨H, [] :: S⟩ ∧ ∀ m, m < i → (ws.map (·.2))[m]? = (zs.map (·.2))[m]?) (fun j env M2 => ?_) (ws.length) ?_))
    case refine_2 => exact ⟨_, _, _, _, _, _, _, _, _, _, _, _, _, _, _, _, _, _, _, _, _, _, _, _, _, 0, rfl, by omega, rfl, fun m hm => by omega⟩
    refine exE fun x2 => exE fun x3 => exE fun x4 => exE fun x6 => exE fun x7 => exE fun x8 => exE fun x9 => exE fun x10 => exE fun x11 => exE fun x12 => exE fun x13 => exE fun x14 => exE fun x15 => exE fun x16 => exE fun x17 => exE fun x18 => exE fun x19 => exE fun x20 => exE fun x21 => exE fun x22 => exE fun x23 => exE fun x24 => exE fun x25 => exE fun x26 => exE fun x27 => ?_
    rintro ⟨i, rfl, hij, rfl, heq⟩
    (repeat refine W_seq ?_); refine W_regionT [] ?_
    simp only [go_sem, l1]
    (repeat refine W_seq ?_)
    refine W_cond_if rfl (fun hb => ?_) (fun hb => ?_)
    · have hi : i < ws.length := by simpa using hb
      refine W_skip ?_
      simp only [go_sem]
      (repeat refine W_seq ?_)
      refine W_block ?_
      have hzi : i < zs.length := by omega
      rcases (Classical.em (ws[i].2 = zs[i].2)) with hx | hx
      · have hx' : (ws[i].2 == zs[i].2) = true := by simpa using hx
        have heq' : ∀ m, m < i + 1 → (ws.map (·.2))[m]? = (zs.map (·.2))[m]? := fun m hm => by
          rcases Nat.lt_or_ge m i with h | h
          · exact heq m h
          · have : m = i := by omega
            subst this
            simp [List.getElem?_map, List.getElem?_eq_getElem hi, List.getElem?_eq_getElem hzi, hx]
        obtain ⟨a1, a2, a3⟩ := at58L (S := [] :: S) r1 b1 hi
        obtain ⟨a4, a5, a6⟩ := at58L (S := [] :: S) (i := i) r2 b2 (by omega)
        (repeat refine W_seq ?_); refine W_regionC [] [] [0, 1, 2, 3, 4, 5, 6, 7, 8, 9, 10] [0, 0, 3, 7, 15, 0, 0, 96, 224, 480, 1023] mixedM (by kernel_rfl) (by kernel_rfl) (by kernel_rfl) (by kernel_rfl) ?_
        simp only [listed, go_sem, a1, a2, a3.text, a4, a5, a6.text, hx', List.map_cons, List.map_nil]
        (repeat refine W_seq ?_)
        refine W_cond (b := false) rfl ?_
        simp only [Bool.false_eq_true, if_false]
        refine W_skip ?_
        simp only [go_sem]
        (repeat refine W_seq ?_); refine W_regionT [] ?_
        simp only [go_sem, show (i : Int) + 1 = ((i + 1 : Nat) : Int) from rfl, wrap_i64 (n := ((i + 1 : Nat) : Int)) (by omega) (by omega)]
        exact ⟨j - 1, by omega, _, _, _, _, _, _, _, _, _, _, _, _, _, _, _, _, _, _, _, _, _, _, _, _, _, i + 1, rfl, by omega, trivial, heq'⟩
      · have hx' : (ws[i].2 == zs[i].2) = false := by simpa using hx
        obtain ⟨a1, a2, a3⟩ := at58L (S := [] :: S) r1 b1 hi
        obtain ⟨a4, a5, a6⟩ := at58L (S := [] :: S) (i := i) r2 b2 (by omega)
        (repeat refine W_seq ?_); refine W_regionC [] [] [0, 1, 2, 3, 4, 5, 6, 7, 8, 9, 10] [0, 0, 3, 7, 15, 0, 0, 96, 224, 480, 1023] mixedM (by kernel_rfl) (by kernel_rfl) (by kernel_rfl) (by kernel_rfl) ?_
        simp only [listed, go_sem, a1, a2, a3.text, a4, a5, a6.text, hx', List.map_cons, List.map_nil]
        (repeat refine W_seq ?_)
        refine W_cond (b := true) rfl ?_
        simp only [if_true]
        (repeat refine W_seq ?_); refine W_regionT [] ?_
        simp only [go_sem]
        refine W_ret ⟨.inr rfl, _, rfl, rfl, ?_, rfl⟩
        rw [show decide (ws.map (·.2) = zs.map (·.2)) = false from decide_eq_false (fun h => hx (by have := congrArg (·[i]?) h; simpa [List.getElem?_map, List.getElem?_eq_getElem hi, List.getElem?_eq_getElem (show i < zs.length by omega)] using this))]; rfl
    · have hi : ws.length = i := by simp at hb; omega
      rw [← hi] at heq
      (repeat refine W_seq ?_)
      refine W_exit ?_
      simp only [go_sem]
      (repeat refine W_seq ?_); refine W_regionT [] ?_
      simp only [go_sem]
      refine W_ret ⟨.inr rfl, _, rfl, rfl, ?_, rfl⟩
      rw [show decide (ws.map (·.2) = zs.map (·.2)) = true from decide_eq_true ?_]; rfl
      apply List.ext_getElem?
      intro m
      rcases Nat.lt_or_ge m ws.length with hm | hm
      · exact heq m hm
      · rw [List.getElem?_eq_none (by simpa using hm), List.getElem?_eq_none (by simp; omega)]
theorem split47 {vb : AV} {c0 : List UInt8} {m : Int} (hb : BH H vb c0) (hl : c0.length < 1000000) : AC Try.prog 47 [vb, .int .i64 m] ⟨H, S⟩ (fun v M' => ∃ H' vo vr, v = .tup [vo, vr, .int .i64 (splitG c0 m).2.2] ∧ M' = ⟨H', S⟩ ∧ UpdH no H H' ∧ LO H' (H.length ≤ ·) vo (splitG c0 m).1 ∧ (∀ k, vo.loc k → H.length ≤ k) ∧ BH H' vr (splitG c0 m).2.1 ∧ ∀ k, vr.loc k → H.length ≤ k) := by
  refine AC_of_WE Try.func47 rfl ?_
  simp only [Try.ntmps47, List.length_cons, List.length_nil, List.replicate, List.cons_append, List.nil_append, mem_enter]
  have hbl : ∀ k, vb.loc k → k < H.length := fun k hk => RH.lt hb hk
  (repeat refine W_seq ?_); refine W_regionT [] ?_
  simp only [go_sem]
  (repeat refine W_seq ?_); refine W_regionT [] ?_
  simp only [go_sem]
  (repeat refine W_seq ?_)
  refine W_block (W_loop (L_inv (fun j env M' => ∃ (x2 x3 x4 x5 x6 x8 x9 x10 x11 x12 x13 x14 x15 x16 x17 x18 x19 x20 x21 x22 x23 x24 x25 x26 x27 x28 x29 x30 x31 x32 x33 x34 x35 x36 x37 x38 x39 x40 x41 : AV) (vc vo : AV) (c : List UInt8) (L : List (List UInt8)) (G' : List Block), env = [vc, .int .i64 m, x2, x3, x4, x5, x6, vo, x8, x9, x10, x11, x12, x13, x14, x15, x16, x17, x18, x19, x20, x21, x22, x23, x24, x25, x26, x27, x28, x29, x30, x31, x32, x33, x34, x35, x36, x37, x38, x39, x40, x41] ∧ c.length = j ∧ L.length + c.length ≤ c0.length ∧ M' = ⟨G', [] :: S⟩ ∧ UpdH no H G' ∧ BH G' vc c ∧ (∀ k, vc.loc k → k < H.length) ∧ LO G' (H.length ≤ ·) vo L ∧ (∀ k, vo.loc k → H.length ≤ k) ∧ splitG c0 m = (L ++ (splitG c m).1, (splitG c m).2)) (fun j env M2 => ?_) (c0.length) ?_))
  case refine_2 => exact ⟨_, _, _, _, _, _, _, _, _, _, _, _, _, _, _, _, _, _, _, _, _, _, _, _, _, _, _, _, _, _, _, _, _, _, _, _, _, _, _, vb, .nilsl, c0, [], H, rfl, rfl, by simp, rfl, UpdH.refl, hb, hbl, LO.nil, fun k hk => hk.elim, by simp⟩
  refine exE fun x2 => exE fun x3 => exE fun x4 => exE fun x5 => exE fun x6 => exE fun x8 => exE fun x9 => exE fun x10 => exE fun x11 => exE fun x12 => exE fun x13 => exE fun x14 => exE fun x15 => exE fun x16 => exE fun x17 => exE fun x18 => exE fun x19 => exE fun x20 => exE fun x21 => exE fun x22 => exE fun x23 => exE fun x24 => exE fun x25 => exE fun x26 => exE fun x27 => exE fun x28 => exE fun x29 => exE fun x30 => exE fun x31 => exE fun x32 => exE fun x33 => exE fun x34 => exE fun x35 => exE fun x36 => exE fun x37 => exE fun x38 => exE fun x39 => exE fun x40 => exE fun x41 => ?_
  rintro ⟨vc, vo, c, L, G, rfl, rfl, hLc, rfl, uG, bc, hcl, lo, hvo, hsp⟩
  (repeat refine W_seq ?_); refine W_regionT [] ?_
  simp only [go_sem, bc.len]
  (repeat refine W_seq ?_)
  refine W_cond_if rfl (fun hb => ?_) (fun hb => ?_)
  · have h4 : ¬ c.length < 4 := by simp at hb; omega
    refine W_skip ?_
    simp only [go_sem]
    (repeat refine W_seq ?_)
    refine W_block ?_
    (repeat refine W_seq ?_); refine W_regionT [] ?_
    simp only [go_sem]
    refine AT_call rfl rfl (read33 bc (by omega)) fun v M1 hd1 h1 => ?_
    obtain ⟨ix, G1, rfl, rfl, u1, hix, r1⟩ := h1
    simp only [go_sem]
    refine AT_call rfl rfl (num38 r1 (fun h => h.2.2 rfl)) fun v M1 hd1 h1 => ?_
    obtain ⟨hv, G2, rfl, u2', _⟩ := h1
    subst hv
    have hlt4 := rNum_lt (s := (c, 0)) (n := 4)
    have hnum : (rNum (c, 0) 4).1 = ofLe (c.take 4) := by
      unfold rNum rTake
      rw [if_neg (by simp), if_neg (by simp only; omega)]
    rw [hnum] at hlt4
    rw [hnum]
    have u2 : UpdH no G G2 := u1.then u2' (fun k hk h => by omega)
    have uG2 := uG.then u2 (fun _ _ h => h)
    simp only [go_sem, wrap_i64 (n := ((ofLe (c.take 4) : Nat) : Int)) (by omega) (by omega)]
    (repeat refine W_seq ?_)
    refine W_block ?_
    rcases (show ofLe (c.take 4) < 7 ∨ (¬ ofLe (c.take 4) < 7 ∧ m < (ofLe (c.take 4) : Nat)) ∨ (¬ ofLe (c.take 4) < 7 ∧ ¬ m < (ofLe (c.take 4) : Nat)) by omega) with h7 | ⟨h7, hm⟩ | ⟨h7, hm⟩
    · have hx1 : ((ofLe (c.take 4) : Nat) : Int) < 7 := by omega
      rw [sp_form h4 h7] at hsp
      (repeat refine W_seq ?_); refine W_regionT [] ?_
      simp only [go_sem, hx1]
      (repeat refine W_seq ?_)
      refine W_cond (b := true) rfl ?_
      simp only [if_true]
      (repeat refine W_seq ?_); refine W_regionT [] ?_
      simp only [go_sem]
      refine W_ret ⟨.inr rfl, [vo, .nilsl, .int .i64 2], rfl, by show lev0s [vo, .nilsl, .int .i64 2] = true; simp [lev0s, AV.lev0, lo.st.2.2.1], G2, vo, .nilsl, by rw [hsp]; rfl, rfl, uG2, by rw [hsp]; simpa using lo.new u2, hvo, by rw [hsp]; exact BH.nil, fun k hk => hk.elim⟩
    · have hx1 : ¬ ((ofLe (c.take 4) : Nat) : Int) < 7 := by omega
      have hx2 := hm
      rw [sp_range h4 h7 hm] at hsp
      (repeat refine W_seq ?_); refine W_regionT [] ?_
      simp only [go_sem, hx1]
      (repeat refine W_seq ?_)
      refine W_cond (b := false) rfl ?_
      simp only [Bool.false_eq_true, if_false]
      (repeat refine W_seq ?_); refine W_regionT [] ?_
      simp only [go_sem, hx2]
      (repeat refine W_seq ?_)
      refine W_cond (b := true) rfl ?_
      simp only [if_true]
      (repeat refine W_seq ?_); refine W_regionT [] ?_
      simp only [go_sem]
      refine W_ret ⟨.inr rfl, [vo, .nilsl, .int .i64 4], rfl, by show lev0s [vo, .nilsl, .int .i64 4] = true; simp [lev0s, AV.lev0, lo.st.2.2.1], G2, vo, .nilsl, by rw [hsp]; rfl, rfl, uG2, by rw [hsp]; simpa using lo.new u2, hvo, by rw [hsp]; exact BH.nil, fun k hk => hk.elim⟩
    · have hx1 : ¬ ((ofLe (c.take 4) : Nat) : Int) < 7 := by omega
      have hx2 := hm
      (repeat refine W_seq ?_); refine W_regionT [] ?_
      simp only [go_sem, hx1]
      (repeat refine W_seq ?_)
      refine W_cond (b := false) rfl ?_
      simp only [Bool.false_eq_true, if_false]
      (repeat refine W_seq ?_); refine W_regionT [] ?_
      simp only [go_sem, hx2]
      (repeat refine W_seq ?_)
      refine W_cond (b := false) rfl ?_
      simp only [Bool.false_eq_true, if_false]
      refine W_skip ?_
      simp only [go_sem]
      rcases (show c.length < ofLe (c.take 4) ∨ ¬ c.length < ofLe (c.take 4) by omega) with h8 | h8
      · have hx3 : (c.length : Int) < ((ofLe (c.take 4) : Nat) : Int) := by omega
        rw [sp_left h4 h7 hm h8] at hsp
        (repeat refine W_seq ?_); refine W_regionT [] ?_
        simp only [go_sem, (bc.new u2).len, hx3]
        (repeat refine W_seq ?_)
        refine W_cond (b := true) rfl ?_
        simp only [if_true]
        (repeat refine W_seq ?_)
        refine W_exit ?_
        simp only [go_sem]
        have bq := bc.new u2
        have loq := lo.new u2
        have uGq := uG2
        (repeat refine W_seq ?_); refine W_regionT [] ?_
        simp only [go_sem]
        refine AT_call rfl rfl (give (clone (bq.rb (S := [] :: S)) (by omega))) fun v M1 hd1 h1 => ?_
        obtain ⟨G3, rfl, u3, bv, cv'⟩ := h1
        have lo3 := loq.new u3
        have uG3 := uGq.then u3 (fun _ _ h => h)
        have cv : ∀ k, v.loc k → H.length ≤ k := fun k hk => by have := uGq.l; have := cv' k hk; omega
        simp only [go_sem]
        refine W_ret ⟨.inr rfl, [vo, v, .int .i64 0], rfl, by show lev0s [vo, v, .int .i64 0] = true; simp [lev0s, AV.lev0, lo3.st.2.2.1, RH.lev0 bv], G3, vo, v, by rw [hsp]; rfl, rfl, uG3, by rw [hsp]; simpa using lo3, hvo, by rw [hsp]; exact bv, cv⟩
      · have hx3 : ¬ (c.length : Int) < ((ofLe (c.take 4) : Nat) : Int) := by omega
        rw [sp_more h4 h7 hm h8] at hsp
        (repeat refine W_seq ?_); refine W_regionT [] ?_
        simp only [go_sem, (bc.new u2).len, hx3]
        (repeat refine W_seq ?_)
        refine W_cond (b := false) rfl ?_
        simp only [Bool.false_eq_true, if_false]
        refine W_skip ?_
        simp only [go_sem]
        obtain ⟨v1, a1, b1, c1⟩ := (bc.new u2).cut (S := [] :: S) (lo := none) (hi := some (.int .i64 ((ofLe (c.take 4) : Nat) : Int))) (a := 0) (b := ofLe (c.take 4)) rfl (by simp [onat, natOf]) (Nat.zero_le _) (by omega)
        rw [List.drop_zero] at b1
        (repeat refine W_seq ?_); refine W_regionT [34, 35] ?_
        simp only [go_sem, a1]
        refine AT_call rfl rfl (give (clone (b1.rb (S := [] :: S)) (by simp; omega))) fun v M1 hd1 h1 => ?_
        obtain ⟨G3, rfl, u3, b3, c3⟩ := h1
        have hG2 := uG2.l
        have lo3 := (lo.new u2).new u3
        obtain ⟨vo', G4, a4, lo4, u4, l4⟩ := lo3.push (S := [] :: S) b3 (fun k hk => ⟨by have := c3 k hk; show H.length ≤ k; omega, fun h => by have := (lo.new u2).lt h; have := c3 k hk; omega⟩) (by omega)
        have uG4 : UpdH no H G4 := (uG2.then u3 (fun _ _ h => h)).then u4 (fun k hk h => by have := hvo k h; omega)
        simp only [go_sem, one58 b3, a4]
        have bc4 : BH G4 vc c := ((bc.new u2).new u3).upd u4 (fun k hk h => by have := hcl k hk; have := hvo k h; omega)
        obtain ⟨v5, a5, b5, c5⟩ := bc4.cut (S := [] :: S) (lo := some (.int .i64 ((ofLe (c.take 4) : Nat) : Int))) (hi := none) (a := ofLe (c.take 4)) (b := c.length) (by simp [onat, natOf]) rfl (by omega) (Nat.le_refl _)
        rw [List.take_length] at b5
        (repeat refine W_seq ?_); refine W_regionT [] ?_
        simp only [go_sem, a5]
        refine ⟨c.length - ofLe (c.take 4), by omega, _, _, _, _, _, _, _, _, _, _, _, _, _, _, _, _, _, _, _, _, _, _, _, _, _, _, _, _, _, _, _, _, _, _, _, _, _, _, _, v5, vo', c.drop (ofLe (c.take 4)), L ++ [c.take (ofLe (c.take 4))], G4, rfl, by simp, by simp; omega, rfl, uG4, b5, fun k hk => hcl k (c5 k hk), lo4, fun k hk => (l4 k hk).elim (hvo k) (fun h => by have := u3.l; omega), ?_⟩
        rw [hsp]; simp
  · have h4 : c.length < 4 := by simp at hb; omega
    rw [sp_short h4] at hsp
    (repeat refine W_seq ?_)
    refine W_exit ?_
    simp only [go_sem]
    have bq := bc
    have loq := lo
    have uGq := uG
    (repeat refine W_seq ?_); refine W_regionT [] ?_
    simp only [go_sem]
    refine AT_call rfl rfl (give (clone (bq.rb (S := [] :: S)) (by omega))) fun v M1 hd1 h1 => ?_
    obtain ⟨G3, rfl, u3, bv, cv'⟩ := h1
    have lo3 := loq.new u3
    have uG3 := uGq.then u3 (fun _ _ h => h)
    have cv : ∀ k, v.loc k → H.length ≤ k := fun k hk => by have := uGq.l; have := cv' k hk; omega
    simp only [go_sem]
    refine W_ret ⟨.inr rfl, [vo, v, .int .i64 0], rfl, by show lev0s [vo, v, .int .i64 0] = true; simp [lev0s, AV.lev0, lo3.st.2.2.1, RH.lev0 bv], G3, vo, v, by rw [hsp]; rfl, rfl, uG3, by rw [hsp]; simpa using lo3, hvo, by rw [hsp]; exact bv, cv⟩
theorem st_a0 {x y : AV} {e : Int} {ix : Nat} {M' : Mem} (h : M'.get 0 ix = some (.row ⟨63, 3, [x, y, .int .i64 e], false, false⟩)) : fieldAddrA Try.prog 63 (.ptr ⟨0, ix, 0⟩) 0 M' = some (.ptr ⟨0, ix, 0⟩) :=
  field_addr (r := ⟨63, 3, [x, y, .int .i64 e], false, false⟩) (off := 0) ti63 rfl rfl ti58 (by unfold getRow; simp only [h])
theorem st_a1 {x y : AV} {e : Int} {ix : Nat} {M' : Mem} (h : M'.get 0 ix = some (.row ⟨63, 3, [x, y, .int .i64 e], false, false⟩)) : fieldAddrA Try.prog 63 (.ptr ⟨0, ix, 0⟩) 1 M' = some (.ptr ⟨0, ix, 1⟩) :=
  field_addr (r := ⟨63, 3, [x, y, .int .i64 e], false, false⟩) (off := 1) ti63 rfl rfl ti22 (by unfold getRow; simp only [h])
theorem st_a2 {x y : AV} {e : Int} {ix : Nat} {M' : Mem} (h : M'.get 0 ix = some (.row ⟨63, 3, [x, y, .int .i64 e], false, false⟩)) : fieldAddrA Try.prog 63 (.ptr ⟨0, ix, 0⟩) 2 M' = some (.ptr ⟨0, ix, 2⟩) :=
  field_addr (r := ⟨63, 3, [x, y, .int .i64 e], false, false⟩) (off := 2) ti63 rfl rfl ti44 (by unfold getRow; simp only [h])
theorem st_l0 {x y : AV} {e : Int} {ix : Nat} {M' : Mem} (h : M'.get 0 ix = some (.row ⟨63, 3, [x, y, .int .i64 e], false, false⟩)) : loadA Try.prog 58 (.ptr ⟨0, ix, 0⟩) M' = some x := by
  rw [load_one (r := ⟨63, 3, [x, y, .int .i64 e], false, false⟩) ti58 rfl (by unfold getRow; simp only [h])]; rfl
theorem st_l1 {x y : AV} {e : Int} {ix : Nat} {M' : Mem} (h : M'.get 0 ix = some (.row ⟨63, 3, [x, y, .int .i64 e], false, false⟩)) : loadA Try.prog 22 (.ptr ⟨0, ix, 1⟩) M' = some y := by
  rw [load_one (r := ⟨63, 3, [x, y, .int .i64 e], false, false⟩) ti22 rfl (by unfold getRow; simp only [h])]; rfl
theorem st_l2 {x y : AV} {e : Int} {ix : Nat} {M' : Mem} (h : M'.get 0 ix = some (.row ⟨63, 3, [x, y, .int .i64 e], false, false⟩)) : loadA Try.prog 44 (.ptr ⟨0, ix, 2⟩) M' = some (.int .i64 e) := by
  rw [load_one (r := ⟨63, 3, [x, y, .int .i64 e], false, false⟩) ti44 rfl (by unfold getRow; simp only [h])]; rfl
theorem st_all {x y : AV} {e : Int} {ix : Nat} (h : H[ix]? = some (.row ⟨63, 3, [x, y, .int .i64 e], false, false⟩)) {x' y' : AV} {e' : Int} (hx : x'.st = true) (hy : y'.st = true) : stores Try.prog 63 (.ptr ⟨0, ix, 0⟩) (.agg [x', y', .int .i64 e']) ⟨H, S⟩ = some (.undef, ⟨H.set ix (.row ⟨63, 3, [x', y', .int .i64 e'], false, false⟩), S⟩) := by
  rw [store_all ti63 (heap_row h) rfl rfl rfl rfl rfl rfl (by simp only [List.all_cons, hx, hy]; rfl), mem_set0]
theorem st_s0 {x y : AV} {e : Int} {ix : Nat} (h : H[ix]? = some (.row ⟨63, 3, [x, y, .int .i64 e], false, false⟩)) {x' : AV} (hx : x'.st = true) (hc : x'.cells = [x']) : stores Try.prog 58 (.ptr ⟨0, ix, 0⟩) x' ⟨H, S⟩ = some (.undef, ⟨H.set ix (.row ⟨63, 3, [x', y, .int .i64 e], false, false⟩), S⟩) := by
  rw [store_cell ti58 (heap_row h) rfl rfl rfl (by simp) hx hc, mem_set0]; rfl
theorem st_load {x y : AV} {e : Int} {ix : Nat} (h : H[ix]? = some (.row ⟨63, 3, [x, y, .int .i64 e], false, false⟩)) : loadA Try.prog 63 (.ptr ⟨0, ix, 0⟩) ⟨H, S⟩ = some (.agg [x, y, .int .i64 e]) := load_all (r := ⟨63, 3, [x, y, .int .i64 e], false, false⟩) ti63 rfl (heap_row h) rfl rfl rfl
theorem get0 {b : Block} {ix : Nat} (h : H[ix]? = some b) : (⟨H, S⟩ : Mem).get 0 ix = some b := by rw [mem_get0]; exact h
theorem split48 {vb : AV} {c0 : List UInt8} {m : Int} (hb : BH H vb c0) (hl : c0.length < 1000000) : AC Try.prog 48 [vb, .int .i64 m] ⟨H, S⟩ (fun v M' => ∃ H' vo vr, v = .agg [vo, vr, .int .i64 (splitG c0 m).2.2] ∧ M' = ⟨H', S⟩ ∧ UpdH no H H' ∧ LO H' vb.loc vo (splitG c0 m).1 ∧ (∀ k, vo.loc k → H.length ≤ k) ∧ BH H' vr (splitG c0 m).2.1 ∧ ∀ k, vr.loc k → vb.loc k) := by
  refine AC_of_WE Try.func48 rfl ?_
  simp only [Try.ntmps48, List.length_cons, List.length_nil, List.replicate, List.cons_append, List.nil_append, mem_enter]
  have hbl : ∀ k, vb.loc k → k < H.length := fun k hk => RH.lt hb hk
  (repeat refine W_seq ?_); refine W_regionT [4] ?_
  simp only [go_sem, alloc_agg (P := Try.prog) (hp := true) (M := ⟨H, [] :: S⟩) ti63 rfl rfl rfl (by decide)]
  (repeat refine W_seq ?_); refine W_regionT [5] ?_
  simp only [go_sem, alloc_agg (P := Try.prog) (hp := true) (M := ⟨H ++ [Block.row ⟨63, 3, [.nilsl, .nilsl, .int .i64 0], false, false⟩], [] :: S⟩) ti63 rfl rfl rfl (by decide), List.length_append]
  have uG0 : UpdH no H (H ++ [Block.row ⟨63, 3, [.nilsl, .nilsl, .int .i64 0], false, false⟩] ++ [Block.row ⟨63, 3, [.nilsl, .nilsl, .int .i64 0], false, false⟩]) := (UpdH.push (p := no)).then (UpdH.push (p := no)) (fun _ _ h => h)
  have h40 : (H ++ [Block.row ⟨63, 3, [.nilsl, .nilsl, .int .i64 0], false, false⟩] ++ [Block.row ⟨63, 3, [.nilsl, .nilsl, .int .i64 0], false, false⟩])[H.length]? = some (Block.row ⟨63, 3, [.nilsl, .nilsl, .int .i64 0], false, false⟩) := by rw [List.getElem?_append_left (by simp)]; simp
  have h50 : (H ++ [Block.row ⟨63, 3, [.nilsl, .nilsl, .int .i64 0], false, false⟩] ++ [Block.row ⟨63, 3, [.nilsl, .nilsl, .int .i64 0], false, false⟩])[H.length + 1]? = some (Block.row ⟨63, 3, [.nilsl, .nilsl, .int .i64 0], false, false⟩) := by rw [List.getElem?_append_right (by simp)]; simp
  generalize H ++ [Block.row ⟨63, 3, [.nilsl, .nilsl, .int .i64 0], false, false⟩] ++ [Block.row ⟨63, 3, [.nilsl, .nilsl, .int .i64 0], false, false⟩] = G0 at uG0 h40 h50
  (repeat refine W_seq ?_)
  refine W_block (W_loop (L_inv (fun j env M' => ∃ (x2 x3 x6 x7 x8 x9 x10 x11 x12 x13 x14 x15 x16 x17 x18 x19 x20 x21 x22 x23 x24 x25 x26 x27 x28 x29 x30 x31 x32 x33 x34 x35 x36 x37 x38 x39 x40 x41 x42 x43 x44 x45 x46 x47 x48 x49 x50 x51 x52 x53 x54 x55 x56 x57 x58 x59 x60 x61 x62 x63 x64 x65 : AV) (vc vo : AV) (c : List UInt8) (L : List (List UInt8)) (G' : List Block), env = [vc, .int .i64 m, x2, x3, .ptr ⟨0, H.length, 0⟩, .ptr ⟨0, H.length + 1, 0⟩, x6, x7, x8, x9, x10, x11, x12, x13, x14, x15, x16, x17, x18, x19, x20, x21, x22, x23, x24, x25, x26, x27, x28, x29, x30, x31, x32, x33, x34, x35, x36, x37, x38, x39, x40, x41, x42, x43, x44, x45, x46, x47, x48, x49, x50, x51, x52, x53, x54, x55, x56, x57, x58, x59, x60, x61, x62, x63, x64, x65] ∧ c.length = j ∧ L.length + c.length ≤ c0.length ∧ M' = ⟨G', [] :: S⟩ ∧ UpdH no H G' ∧ BH G' vc c ∧ (∀ k, vc.loc k → vb.loc k) ∧ LO G' vb.loc vo L ∧ (∀ k, vo.loc k → H.length + 2 ≤ k) ∧ G'[H.length]? = some (.row ⟨63, 3, [.nilsl, .nilsl, .int .i64 0], false, false⟩) ∧ G'[H.length + 1]? = some (.row ⟨63, 3, [vo, .nilsl, .int .i64 0], false, false⟩) ∧ splitG c0 m = (L ++ (splitG c m).1, (splitG c m).2)) (fun j env M2 => ?_) (c0.length) ?_))
  case refine_2 => exact ⟨_, _, _, _, _, _, _, _, _, _, _, _, _, _, _, _, _, _, _, _, _, _, _, _, _, _, _, _, _, _, _, _, _, _, _, _, _, _, _, _, _, _, _, _, _, _, _, _, _, _, _, _, _, _, _, _, _, _, _, _, _, _, vb, .nilsl, c0, [], G0, rfl, rfl, by simp, rfl, uG0, hb.new uG0, fun k hk => hk, LO.nil, fun k hk => hk.elim, h40, h50, by simp⟩
  refine exE fun x2 => exE fun x3 => exE fun x6 => exE fun x7 => exE fun x8 => exE fun x9 => exE fun x10 => exE fun x11 => exE fun x12 => exE fun x13 => exE fun x14 => exE fun x15 => exE fun x16 => exE fun x17 => exE fun x18 => exE fun x19 => exE fun x20 => exE fun x21 => exE fun x22 => exE fun x23 => exE fun x24 => exE fun x25 => exE fun x26 => exE fun x27 => exE fun x28 => exE fun x29 => exE fun x30 => exE fun x31 => exE fun x32 => exE fun x33 => exE fun x34 => exE fun x35 => exE fun x36 => exE fun x37 => exE fun x38 => exE fun x39 => exE fun x40 => exE fun x41 => exE fun x42 => exE fun x43 => exE fun x44 => exE fun x45 => exE fun x46 => exE fun x47 => exE fun x48 => exE fun x49 => exE fun x50 => exE fun x51 => exE fun x52 => exE fun x53 => exE fun x54 => exE fun x55 => exE fun x56 => exE fun x57 => exE fun x58 => exE fun x59 => exE fun x60 => exE fun x61 => exE fun x62 => exE fun x63 => exE fun x64 => exE fun x65 => ?_
  rintro ⟨vc, vo, c, L, G, rfl, rfl, hLc, rfl, uG, bc, hcl, lo, hvo, h4r, h5r, hsp⟩
  have h4l := (List.getElem?_eq_some_iff.1 h4r).1
  have h5l := (List.getElem?_eq_some_iff.1 h5r).1
  have h4no : ¬ vb.loc H.length := fun h => by have := hbl _ h; omega
  have g5 := get0 (S := [] :: S) h5r
  (repeat refine W_seq ?_); refine W_regionT [] ?_
  simp only [go_sem, bc.len]
  (repeat refine W_seq ?_)
  refine W_cond_if rfl (fun hb => ?_) (fun hb => ?_)
  · have h4 : ¬ c.length < 4 := by simp at hb; omega
    refine W_skip ?_
    simp only [go_sem]
    (repeat refine W_seq ?_)
    refine W_block ?_
    obtain ⟨y0, y1, y2, y3, c', hc'⟩ : ∃ y0 y1 y2 y3 c', c = y0 :: y1 :: y2 :: y3 :: c' := by
      match c, h4 with
      | y0 :: y1 :: y2 :: y3 :: c', _ => exact ⟨y0, y1, y2, y3, c', rfl⟩
      | [], h => simp at h
      | [_], h => simp at h
      | [_, _], h => simp at h
      | [_, _, _], h => simp at h
    have t0 := y0.toNat_lt
    have t1 := y1.toNat_lt
    have t2 := y2.toNat_lt
    have t3 := y3.toNat_lt
    have hN : ofLe (c.take 4) = y0.toNat + 256 * y1.toNat + 65536 * y2.toNat + 16777216 * y3.toNat := by rw [hc']; simp [ofLe]; omega
    obtain ⟨q0, a0, b0⟩ := bc.at (S := [] :: S) (kk := .i64) (i := 0) (by omega)
    obtain ⟨q1, a1, b1⟩ := bc.at (S := [] :: S) (kk := .i64) (i := 1) (by omega)
    obtain ⟨q2, a2, b2⟩ := bc.at (S := [] :: S) (kk := .i64) (i := 2) (by omega)
    obtain ⟨q3, a3, b3⟩ := bc.at (S := [] :: S) (kk := .i64) (i := 3) (by omega)
    have b0' : loadA Try.prog 5 q0 ⟨G, [] :: S⟩ = some (.int .u8 (y0.toNat : Int)) := by rw [b0]; subst hc'; rfl
    have b1' : loadA Try.prog 5 q1 ⟨G, [] :: S⟩ = some (.int .u8 (y1.toNat : Int)) := by rw [b1]; subst hc'; rfl
    have b2' : loadA Try.prog 5 q2 ⟨G, [] :: S⟩ = some (.int .u8 (y2.toNat : Int)) := by rw [b2]; subst hc'; rfl
    have b3' : loadA Try.prog 5 q3 ⟨G, [] :: S⟩ = some (.int .u8 (y3.toNat : Int)) := by rw [b3]; subst hc'; rfl
    have a0' : indexAddrA Try.prog 22 vc (.int .i64 0) ⟨G, [] :: S⟩ = some q0 := a0
    have a1' : indexAddrA Try.prog 22 vc (.int .i64 1) ⟨G, [] :: S⟩ = some q1 := a1
    have a2' : indexAddrA Try.prog 22 vc (.int .i64 2) ⟨G, [] :: S⟩ = some q2 := a2
    have a3' : indexAddrA Try.prog 22 vc (.int .i64 3) ⟨G, [] :: S⟩ = some q3 := a3
    (repeat refine W_seq ?_); refine W_regionC [] [] [0, 1, 2, 3, 4, 5, 6, 7, 8, 9, 10, 11, 12, 13, 14, 15, 16, 17, 18, 19, 20, 21, 22] [0, 1, 3, 7, 0, 16, 48, 112, 240, 511, 0, 1024, 3072, 7168, 15360, 32767, 0, 65536, 196608, 458752, 983040, 2097151, 4194303] mixedM (by kernel_rfl) (by kernel_rfl) (by kernel_rfl) (by kernel_rfl) ?_
    simp (maxSteps := 1000000) only [listed, go_sem, a0', a1', a2', a3', b0', b1', b2', b3', List.map_cons, List.map_nil, wrap_i64 (n := ((y0.toNat : Nat) : Int)) (by omega) (by omega), wrap_i64 (n := ((y1.toNat : Nat) : Int)) (by omega) (by omega), wrap_i64 (n := 256 * ((y1.toNat : Nat) : Int)) (by omega) (by omega), wrap_i64 (n := ((y0.toNat : Nat) : Int) + 256 * ((y1.toNat : Nat) : Int)) (by omega) (by omega), wrap_i64 (n := ((y2.toNat : Nat) : Int)) (by omega) (by omega), wrap_i64 (n := 65536 * ((y2.toNat : Nat) : Int)) (by omega) (by omega), wrap_i64 (n := ((y0.toNat : Nat) : Int) + 256 * ((y1.toNat : Nat) : Int) + 65536 * ((y2.toNat : Nat) : Int)) (by omega) (by omega), wrap_i64 (n := ((y3.toNat : Nat) : Int)) (by omega) (by omega), wrap_i64 (n := 16777216 * ((y3.toNat : Nat) : Int)) (by omega) (by omega), wrap_i64 (n := ((y0.toNat : Nat) : Int) + 256 * ((y1.toNat : Nat) : Int) + 65536 * ((y2.toNat : Nat) : Int) + 16777216 * ((y3.toNat : Nat) : Int)) (by omega) (by omega)]
    rw [show ((y0.toNat : Nat) : Int) + 256 * ((y1.toNat : Nat) : Int) + 65536 * ((y2.toNat : Nat) : Int) + 16777216 * ((y3.toNat : Nat) : Int) = ((ofLe (c.take 4) : Nat) : Int) by rw [hN]; omega]
    clear a0 a1 a2 a3 b0 b1 b2 b3 a0' a1' a2' a3' b0' b1' b2' b3'
    have hN2 : ofLe (c.take 4) < 4294967296 := by omega
    clear hN t0 t1 t2 t3 hc'
    rcases (show ofLe (c.take 4) < 7 ∨ ¬ ofLe (c.take 4) < 7 by omega) with h7 | h7
    · have hx1 : ((ofLe (c.take 4) : Nat) : Int) < 7 := by omega
      rw [sp_form h4 h7] at hsp
      (repeat refine W_seq ?_); refine W_regionT [] ?_
      simp only [go_sem, hx1]
      (repeat refine W_seq ?_)
      refine W_cond (b := true) rfl ?_
      simp only [if_true]
      (repeat refine W_seq ?_); refine W_regionT [] ?_
      simp only [go_sem, st_a0 g5, st_l0 g5, build63 lo.st.2.2.2, st_all h4r lo.st.1 (show (AV.nilsl).st = true from rfl)]
      have hset := set_row (H := G) (b := Block.row ⟨63, 3, [vo, .nilsl, .int .i64 2], false, false⟩) h4l
      have uF : UpdH no H (G.set H.length (.row ⟨63, 3, [vo, .nilsl, .int .i64 2], false, false⟩)) := uG.then UpdH.set (fun k hk h => by omega)
      refine W_ret ⟨.inr rfl, [.agg [vo, .nilsl, .int .i64 2]], ?_, ?_, _, vo, .nilsl, by rw [hsp]; rfl, rfl, uF, by rw [hsp]; simpa using lo.updAway UpdH.set (fun k hk h => by have := hvo _ hk; omega) (fun k hk h => by have := hbl k hk; omega), fun k hk => Nat.le_of_succ_le (Nat.le_of_succ_le (hvo k hk)), by rw [hsp]; exact BH.nil, fun k hk => hk.elim⟩
      · show (match loadA Try.prog 63 (.ptr ⟨0, H.length, 0⟩) _, resE Try.prog _ _ [] with | some v, some vs => some (v :: vs) | _, _ => none) = _
        rw [st_load hset]; rfl
      · show lev0s [vo, .nilsl, .int .i64 2] = true
        simp [lev0s, AV.lev0, lo.st.2.2.1, AV.lev0]
    · have hx1 : ¬ ((ofLe (c.take 4) : Nat) : Int) < 7 := by omega
      (repeat refine W_seq ?_); refine W_regionT [] ?_
      simp only [go_sem, hx1]
      (repeat refine W_seq ?_)
      refine W_cond (b := false) rfl ?_
      simp only [Bool.false_eq_true, if_false]
      refine W_skip ?_
      simp only [go_sem]
      by_cases hm : m < (ofLe (c.take 4) : Nat)
      · rw [sp_range h4 h7 hm] at hsp
        (repeat refine W_seq ?_); refine W_regionT [] ?_
        simp only [go_sem, hm]
        (repeat refine W_seq ?_)
        refine W_cond (b := true) rfl ?_
        simp only [if_true]
        (repeat refine W_seq ?_); refine W_regionT [] ?_
        simp only [go_sem, st_a0 g5, st_l0 g5, build63 lo.st.2.2.2, st_all h4r lo.st.1 (show (AV.nilsl).st = true from rfl)]
        have hset := set_row (H := G) (b := Block.row ⟨63, 3, [vo, .nilsl, .int .i64 4], false, false⟩) h4l
        have uF : UpdH no H (G.set H.length (.row ⟨63, 3, [vo, .nilsl, .int .i64 4], false, false⟩)) := uG.then UpdH.set (fun k hk h => by omega)
        refine W_ret ⟨.inr rfl, [.agg [vo, .nilsl, .int .i64 4]], ?_, ?_, _, vo, .nilsl, by rw [hsp]; rfl, rfl, uF, by rw [hsp]; simpa using lo.updAway UpdH.set (fun k hk h => by have := hvo _ hk; omega) (fun k hk h => by have := hbl k hk; omega), fun k hk => Nat.le_of_succ_le (Nat.le_of_succ_le (hvo k hk)), by rw [hsp]; exact BH.nil, fun k hk => hk.elim⟩
        · show (match loadA Try.prog 63 (.ptr ⟨0, H.length, 0⟩) _, resE Try.prog _ _ [] with | some v, some vs => some (v :: vs) | _, _ => none) = _
          rw [st_load hset]; rfl
        · show lev0s [vo, .nilsl, .int .i64 4] = true
          simp [lev0s, AV.lev0, lo.st.2.2.1, AV.lev0]
      · (repeat refine W_seq ?_); refine W_regionT [] ?_
        simp only [go_sem, hm]
        (repeat refine W_seq ?_)
        refine W_cond (b := false) rfl ?_
        simp only [Bool.false_eq_true, if_false]
        refine W_skip ?_
        simp only [go_sem]
        rcases (show c.length < ofLe (c.take 4) ∨ ¬ c.length < ofLe (c.take 4) by omega) with h8 | h8
        · have hx3 : (c.length : Int) < ((ofLe (c.take 4) : Nat) : Int) := by omega
          rw [sp_left h4 h7 hm h8] at hsp
          (repeat refine W_seq ?_); refine W_regionT [] ?_
          simp only [go_sem, bc.len, hx3]
          (repeat refine W_seq ?_)
          refine W_cond (b := true) rfl ?_
          simp only [if_true]
          (repeat refine W_seq ?_); refine W_regionT [] ?_
          simp only [go_sem, st_a0 g5, st_l0 g5, build63' lo.st.2.2.2 bc.sl, st_all h4r lo.st.1 bc.one.1]
          have hset := set_row (H := G) (b := Block.row ⟨63, 3, [vo, vc, .int .i64 0], false, false⟩) h4l
          have uF : UpdH no H (G.set H.length (.row ⟨63, 3, [vo, vc, .int .i64 0], false, false⟩)) := uG.then UpdH.set (fun k hk h => by omega)
          refine W_ret ⟨.inr rfl, [.agg [vo, vc, .int .i64 0]], ?_, ?_, _, vo, vc, by rw [hsp]; rfl, rfl, uF, by rw [hsp]; simpa using lo.updAway UpdH.set (fun k hk h => by have := hvo _ hk; omega) (fun k hk h => by have := hbl k hk; omega), fun k hk => Nat.le_of_succ_le (Nat.le_of_succ_le (hvo k hk)), by rw [hsp]; exact bc.upd UpdH.set (fun k hk h => by have := hbl _ (hcl k hk); omega), hcl⟩
          · show (match loadA Try.prog 63 (.ptr ⟨0, H.length, 0⟩) _, resE Try.prog _ _ [] with | some v, some vs => some (v :: vs) | _, _ => none) = _
            rw [st_load hset]; rfl
          · show lev0s [vo, vc, .int .i64 0] = true
            simp [lev0s, AV.lev0, lo.st.2.2.1, RH.lev0 bc]
        · have hx3 : ¬ (c.length : Int) < ((ofLe (c.take 4) : Nat) : Int) := by omega
          rw [sp_more h4 h7 hm h8] at hsp
          (repeat refine W_seq ?_); refine W_regionT [] ?_
          simp only [go_sem, bc.len, hx3]
          (repeat refine W_seq ?_)
          refine W_cond (b := false) rfl ?_
          simp only [Bool.false_eq_true, if_false]
          refine W_skip ?_
          simp only [go_sem]
          obtain ⟨v1, a1, b1, c1⟩ := bc.cut (S := [] :: S) (lo := none) (hi := some (.int .i64 ((ofLe (c.take 4) : Nat) : Int))) (a := 0) (b := ofLe (c.take 4)) rfl (by simp [onat, natOf]) (Nat.zero_le _) (by omega)
          rw [List.drop_zero] at b1
          have hvl : ∀ k, v1.loc k → vb.loc k := fun k hk => hcl k (c1 k hk)
          have hvb : ∀ k, vb.loc k → ¬ vo.loc k := fun k hk h => by have := hbl k hk; have := hvo k h; omega
          obtain ⟨vo', G4, a4, lo4, u4, l4⟩ := lo.push (S := [] :: S) b1 (fun k hk => ⟨hvl k hk, hvb k (hvl k hk)⟩) (by omega)
          have g5b : (⟨G ++ [Block.row ⟨22, 1, [v1], false, false⟩], [] :: S⟩ : Mem).get 0 (H.length + 1) = some (.row ⟨63, 3, [vo, AV.nilsl, .int .i64 0], false, false⟩) := get0 (by rw [List.getElem?_append_left h5l]; exact h5r)
          have h5c := u4.get h5r (fun h => by have := hvo _ h; omega)
          have h4c := u4.get h4r (fun h => by have := hvo _ h; omega)
          have g5c := get0 (S := [] :: S) h5c
          have uG4 : UpdH no H G4 := uG.then u4 (fun k hk h => by have := hvo k h; omega)
          have hG4 := u4.l
          have bc4 : BH G4 vc c := bc.upd u4 (fun k hk h => hvb k (hcl k hk) h)
          (repeat refine W_seq ?_); refine W_regionD [56, 57] [5, 6, 8] [0, 1, 2, 3, 4, 5, 6, 7, 8] [0, 1, 0, 0, 12, 28, 63, 127, 255] mixedM (by kernel_rfl) (by kernel_rfl) (by kernel_rfl) ?_
          simp only [listed, go_sem]
          refine AD_read (v := .ptr ⟨0, H.length + 1, 0⟩) (fun M' => M'.get 0 (H.length + 1) = some (.row ⟨63, 3, [vo, AV.nilsl, .int .i64 0], false, false⟩)) rfl rfl (fun M' h => by show pureV (fieldAddrA Try.prog 63 (.ptr ⟨0, H.length + 1, 0⟩) 0 M') M' = _; rw [st_a0 h]; rfl) (g5) ?_
          simp only [go_sem]
          refine AD_read (v := vo) (fun M' => M'.get 0 (H.length + 1) = some (.row ⟨63, 3, [vo, AV.nilsl, .int .i64 0], false, false⟩)) rfl rfl (fun M' h => by show pureV (loadA Try.prog 58 (.ptr ⟨0, H.length + 1, 0⟩) M') M' = _; rw [st_l0 h]; rfl) (g5) ?_
          simp only [go_sem]
          refine AD_read (v := v1) (fun M' => slices Try.prog 22 vc none (some (.int .i64 ((ofLe (c.take 4) : Nat) : Int))) none M' = some v1) rfl rfl (fun M' h => by rw [opA_slice]; show pureV (slices Try.prog 22 vc none (some (.int .i64 ((ofLe (c.take 4) : Nat) : Int))) none M') M' = _; rw [h]; rfl) (a1) ?_
          simp only [go_sem]
          refine AD_loud (v := .sl ⟨0, G.length, 0⟩ 1 (some 1)) (M' := ⟨G ++ [Block.row ⟨22, 1, [v1], false, false⟩], [] :: S⟩) rfl (one58 b1) ⟨fun _ => slices_same bc (bc.new UpdH.push) a1, fun _ => g5b, fun _ => g5b, trivial⟩ ?_
          simp only [go_sem]
          refine AD_loud (v := vo') (M' := ⟨G4, [] :: S⟩) rfl (a4) ⟨fun _ => slices_same bc bc4 a1, fun _ => g5c, fun _ => g5c, trivial⟩ ?_
          simp only [go_sem]
          refine AD_read (v := .ptr ⟨0, H.length + 1, 0⟩) (fun M' => M'.get 0 (H.length + 1) = some (.row ⟨63, 3, [vo, AV.nilsl, .int .i64 0], false, false⟩)) rfl rfl (fun M' h => by show pureV (fieldAddrA Try.prog 63 (.ptr ⟨0, H.length + 1, 0⟩) 0 M') M' = _; rw [st_a0 h]; rfl) (g5c) ?_
          simp only [go_sem]
          refine AD_loud (v := .undef) (M' := _) rfl (st_s0 h5c lo4.st.1 lo4.st.2.1) ⟨fun ha => absurd (ha.symm.trans (show ancB _ _ _ _ = true by kernel_rfl)) (by decide), fun ha => absurd (ha.symm.trans (show ancB _ _ _ _ = true by kernel_rfl)) (by decide), fun ha => absurd (ha.symm.trans (show ancB _ _ _ _ = true by kernel_rfl)) (by decide), fun ha => absurd (ha.symm.trans (show ancB _ _ _ _ = true by kernel_rfl)) (by decide), trivial⟩ ?_
          simp only [go_sem]
          have lo5 : LO (G4.set (H.length + 1) (.row ⟨63, 3, [vo', .nilsl, .int .i64 0], false, false⟩)) vb.loc vo' (L ++ [c.take (ofLe (c.take 4))]) := lo4.updAway UpdH.set (fun k hk h => by rcases l4 _ hk with h2 | h2; (have := hvo _ h2; omega); omega) (fun k hk h => by have := hbl k hk; omega)
          have bc5 : BH (G4.set (H.length + 1) (.row ⟨63, 3, [vo', .nilsl, .int .i64 0], false, false⟩)) vc c := bc4.upd UpdH.set (fun k hk h => by have := hbl _ (hcl k hk); omega)
          obtain ⟨v5, a5, b5, c5⟩ := bc5.cut (S := [] :: S) (lo := some (.int .i64 ((ofLe (c.take 4) : Nat) : Int))) (hi := none) (a := ofLe (c.take 4)) (b := c.length) (by simp [onat, natOf]) rfl (by omega) (Nat.le_refl _)
          rw [List.take_length] at b5
          (repeat refine W_seq ?_); refine W_regionT [] ?_
          simp only [go_sem, a5]
          refine ⟨c.length - ofLe (c.take 4), by omega, _, _, _, _, _, _, _, _, _, _, _, _, _, _, _, _, _, _, _, _, _, _, _, _, _, _, _, _, _, _, _, _, _, _, _, _, _, _, _, _, _, _, _, _, _, _, _, _, _, _, _, _, _, _, _, _, _, _, _, _, _, _, v5, vo', c.drop (ofLe (c.take 4)), L ++ [c.take (ofLe (c.take 4))], _, rfl, by simp, by simp; omega, rfl, uG4.then UpdH.set (fun k hk h => by omega), b5, fun k hk => hcl k (c5 k hk), lo5, fun k hk => (l4 k hk).elim (hvo k) (fun h => by omega), by rw [List.getElem?_set_ne (by omega)]; exact h4c, List.getElem?_set_self (by omega), ?_⟩
          rw [hsp]; simp
  · have h4 : c.length < 4 := by simp at hb; omega
    rw [sp_short h4] at hsp
    (repeat refine W_seq ?_)
    refine W_exit ?_
    simp only [go_sem]
    (repeat refine W_seq ?_); refine W_regionT [] ?_
    simp only [go_sem, st_a0 g5, st_l0 g5, build63' lo.st.2.2.2 bc.sl, st_all h4r lo.st.1 bc.one.1]
    have hset := set_row (H := G) (b := Block.row ⟨63, 3, [vo, vc, .int .i64 0], false, false⟩) h4l
    have uF : UpdH no H (G.set H.length (.row ⟨63, 3, [vo, vc, .int .i64 0], false, false⟩)) := uG.then UpdH.set (fun k hk h => by omega)
    refine W_ret ⟨.inr rfl, [.agg [vo, vc, .int .i64 0]], ?_, ?_, _, vo, vc, by rw [hsp]; rfl, rfl, uF, by rw [hsp]; simpa using lo.updAway UpdH.set (fun k hk h => by have := hvo _ hk; omega) (fun k hk h => by have := hbl k hk; omega), fun k hk => Nat.le_of_succ_le (Nat.le_of_succ_le (hvo k hk)), by rw [hsp]; exact bc.upd UpdH.set (fun k hk h => by have := hbl _ (hcl k hk); omega), hcl⟩
    · show (match loadA Try.prog 63 (.ptr ⟨0, H.length, 0⟩) _, resE Try.prog _ _ [] with | some v, some vs => some (v :: vs) | _, _ => none) = _
      rw [st_load hset]; rfl
    · show lev0s [vo, vc, .int .i64 0] = true
      simp [lev0s, AV.lev0, lo.st.2.2.1, RH.lev0 bc]
end
end Go.Proofs.Ytlpcbfndjffpfaa
