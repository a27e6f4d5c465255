/- The walk of LittlePieces. -/
import Derived.Test.YtlpcbfndjffpfaaSplit
set_option maxRecDepth 100000
set_option maxHeartbeats 4000000
set_option linter.unusedSimpArgs false
set_option linter.unusedVariables false
namespace Go.Proofs.Ytlpcbfndjffpfaa
open Go.Abs
/-- Bytes of one's own. -/
def BO (H : List Block) (v : AV) (l : List UInt8) : Prop := OH H v 5 1 (bytesA l) l.length
def NewO (H : List Block) (S : List (List Block)) (l : List UInt8) (v : AV) (M' : Mem) : Prop := ∃ H', M' = ⟨H', S⟩ ∧ UpdH no H H' ∧ BO H' v l ∧ ∀ k, v.loc k → H.length ≤ k
section
variable {H H' : List Block} {S : List (List Block)} {v x : AV} {l r : List UInt8} {p q q' : Nat → Prop} {ls rs : List (List UInt8)}
theorem BO.bh (h : BO H v l) : BH H v l := OH.rh h
theorem BO.new (h : BO H v l) (u : UpdH no H H') : BO H' v l := OH.new h u
theorem BO.nil : BO H .nilsl [] := OH.nil
theorem giveO {f : FuncId} {args : List AV} (h : AC Try.prog f args ⟨H, S⟩ (Gives ⟨H, S⟩ 5 l)) : AC Try.prog f args ⟨H, S⟩ (NewO H S l) :=
  (AC_heap h fun v M' h => ⟨_, h.1⟩).mono fun v M' ⟨M1, h, hM⟩ => by
    have h2 : Own H.length M1 v 5 1 (bytesA l) l.length := h.2
    have h3 : Own H.length ⟨M1.heap, S⟩ v 5 1 (bytesA l) l.length := by
      rcases h2 with h | ⟨ix, c, mv, h4, h5, h6, h7, h8⟩
      · exact .inl h
      · exact .inr ⟨ix, c, mv, h4, h5, h6, by rw [heap_get] at *; exact h7, h8⟩
    exact ⟨M1.heap, hM, UpdH.of_step h.1, (OH.of h3).1, (OH.of h3).2⟩
theorem BO.append (h : BO H v l) (hx : BH H x r) (hb : l.length + r.length < 1000000) : ∃ v' H', appendA Try.prog 22 22 true v x ⟨H, S⟩ = some (v', ⟨H', S⟩) ∧ BO H' v' (l ++ r) ∧ UpdH v.loc H H' ∧ ∀ k, v'.loc k → v.loc k ∨ H.length ≤ k := by
  obtain ⟨v', H', h1, h2, h3, h4⟩ := appH (S := S) ti22 rfl ti5 ti22 rfl rfl ⟨by decide, by decide, rfl, rfl⟩ h (content_rh hx) (bytesA_st r) (by show (l.length + r.length) * 1 ≤ _; omega)
  refine ⟨v', H', h1, ?_, h3, h4⟩
  unfold BO
  rw [← bytesA_append, List.length_append]; exact h2
/-- Strings behind strings. -/
theorem LO.cat (h : LO H q v ls) (h2 : LO H q' x rs) (hq : ∀ k, q' k → q k ∧ ¬ v.loc k) (hn : ls.length + rs.length < 1000000) :
    ∃ v' H', appendA Try.prog 58 58 true v x ⟨H, S⟩ = some (v', ⟨H', S⟩) ∧ LO H' q v' (ls ++ rs) ∧ UpdH v.loc H H' ∧ ∀ k, v'.loc k → v.loc k ∨ H.length ≤ k := by
  obtain ⟨ws, h1, rfl, h3⟩ := h
  obtain ⟨zs, g1, rfl, g3⟩ := h2
  simp only [List.length_map] at hn
  obtain ⟨v', H', a1, a2, a3, a4⟩ := appH (S := S) ti58 rfl ti22 ti58 rfl rfl ⟨by decide, by decide, rfl, rfl⟩ h1 (content_rh g1.rh) (by
    simp only [List.all_eq_true, List.mem_map]
    rintro _ ⟨w, hw, rfl⟩
    exact (g3 w hw).1.one.1) (by show (ws.length + zs.length) * 24 ≤ _; omega)
  have hsep : ∀ (y : AV) (ly : List UInt8), BH H y ly → (∀ k, y.loc k → ¬ v.loc k) → BH H' y ly ∧ ∀ k, y.loc k → ¬ v'.loc k := fun y ly hy hs => ⟨hy.upd a3 hs, fun k hk hc => (a4 k hc).elim (hs k hk) fun h => by have := RH.lt hy hk; omega⟩
  refine ⟨v', H', a1, ⟨ws ++ zs, by simpa using a2, by simp, fun y hy => ?_⟩, a3, a4⟩
  rcases List.mem_append.1 hy with hy | hy
  · obtain ⟨b1, b2⟩ := hsep y.1 y.2 (h3 y hy).1 fun k hk => ((h3 y hy).2 k hk).2
    exact ⟨b1, fun k hk => ⟨((h3 y hy).2 k hk).1, b2 k hk⟩⟩
  · obtain ⟨b1, b2⟩ := hsep y.1 y.2 (g3 y hy).1 fun k hk => (hq k ((g3 y hy).2 k hk).1).2
    exact ⟨b1, fun k hk => ⟨(hq k ((g3 y hy).2 k hk).1).1, b2 k hk⟩⟩
end
/-- What is split of bytes, and then of what was left with more behind it, is what is split of all. -/
theorem split_app (m : Int) (c : List UInt8) : ∀ (n : Nat) (a : List UInt8), a.length ≤ n → ∀ L r e, splitG a m = (L, r, e) → (e = 0 → splitG (a ++ c) m = (L ++ (splitG (r ++ c) m).1, (splitG (r ++ c) m).2)) ∧ (e ≠ 0 → splitG (a ++ c) m = (L, [], e) ∧ r = []) := by
  intro n
  induction n with
  | zero =>
    intro a ha L r e h
    have : a = [] := List.eq_nil_of_length_eq_zero (by omega)
    subst this
    rw [sp_short (by simp)] at h
    cases h
    exact ⟨fun _ => by simp, fun h => absurd rfl h⟩
  | succ n ih =>
    intro a ha L r e h
    by_cases h4 : a.length < 4
    · rw [sp_short h4] at h
      cases h
      exact ⟨fun _ => by simp, fun h => absurd rfl h⟩
    have ht : (a ++ c).take 4 = a.take 4 := List.take_append_of_le_length (by omega)
    have h4' : ¬ (a ++ c).length < 4 := by simp; omega
    by_cases h7 : ofLe (a.take 4) < 7
    · rw [sp_form h4 h7] at h
      cases h
      exact ⟨fun h => (by cases h), fun _ => ⟨sp_form h4' (by rw [ht]; exact h7), rfl⟩⟩
    by_cases hm : m < (ofLe (a.take 4) : Nat)
    · rw [sp_range h4 h7 hm] at h
      cases h
      exact ⟨fun h => (by cases h), fun _ => ⟨sp_range h4' (by rw [ht]; exact h7) (by rw [ht]; exact hm), rfl⟩⟩
    by_cases h8 : a.length < ofLe (a.take 4)
    · rw [sp_left h4 h7 hm h8] at h
      cases h
      exact ⟨fun _ => by simp, fun h => absurd rfl h⟩
    · rw [sp_more h4 h7 hm h8] at h
      have e1 := sp_more (c := a ++ c) (m := m) h4' (by rw [ht]; exact h7) (by rw [ht]; exact hm) (by rw [ht]; simp; omega)
      rw [ht, List.take_append_of_le_length (by omega), List.drop_append_of_le_length (by omega)] at e1
      generalize hs : splitG (a.drop (ofLe (a.take 4))) m = s at h
      obtain ⟨L', r', e'⟩ := s
      simp only [Prod.mk.injEq] at h
      obtain ⟨rfl, rfl, rfl⟩ := h
      obtain ⟨i1, i2⟩ := ih (a.drop (ofLe (a.take 4))) (by simp; omega) L' r' e' hs
      refine ⟨fun he => ?_, fun he => ?_⟩
      · rw [e1, i1 he]; simp
      · obtain ⟨j1, j2⟩ := i2 he
        rw [e1, j1]; exact ⟨rfl, j2⟩
theorem split_rest {m : Int} (hm : m ≤ 64) : ∀ (n : Nat) (a : List UInt8), a.length ≤ n → (splitG a m).2.1.length ≤ 64 ∧ (splitG a m).1.length ≤ a.length := by
  intro n
  induction n with
  | zero =>
    intro a ha
    have : a = [] := List.eq_nil_of_length_eq_zero (by omega)
    subst this
    rw [sp_short (by simp)]; simp
  | succ n ih =>
    intro a ha
    by_cases h4 : a.length < 4
    · rw [sp_short h4]; simp; omega
    by_cases h7 : ofLe (a.take 4) < 7
    · rw [sp_form h4 h7]; simp
    by_cases hm' : m < (ofLe (a.take 4) : Nat)
    · rw [sp_range h4 h7 hm']; simp
    by_cases h8 : a.length < ofLe (a.take 4)
    · rw [sp_left h4 h7 hm' h8]; simp only; constructor
      · omega
      · simp
    · rw [sp_more h4 h7 hm' h8]
      obtain ⟨i1, i2⟩ := ih (a.drop (ofLe (a.take 4))) (by simp; omega)
      simp only [List.length_cons]
      simp only [List.length_drop] at i2
      exact ⟨i1, by omega⟩
section
variable {H : List Block} {S : List (List Block)}
theorem at59 {v : AV} {zs : List Int} {i : Nat} (h : RH H v 1 (zs.map (AV.int .i64)) zs.length) (hi : i < zs.length) :
    indexAddrA Try.prog 59 v (.int .i64 i) ⟨H, S⟩ = some (idx v i) ∧ loadA Try.prog 3 (idx v i) ⟨H, S⟩ = some (.int .i64 zs[i]) := by
  obtain ⟨h1, h2⟩ := at_idx (S := S) (kk := .i64) h ti59 rfl ti3 rfl rfl hi
  exact ⟨h1, by rw [h2, List.getElem?_map, List.getElem?_eq_getElem hi]; rfl⟩
theorem littlePieces {vs vt vz : AV} {ws : List (AV × List UInt8)} {tl : List UInt8} {zs : List Int} (hs : RH H vs 1 (ws.map (·.1)) ws.length) (hw : ∀ w ∈ ws, BH H w.1 w.2) (ht : BH H vt tl) (hz : RH H vz 1 (zs.map (AV.int .i64)) zs.length) (hzr : ∀ n ∈ zs, -9223372036854775808 ≤ n ∧ n < 9223372036854775808) : AC Try.prog 6 [vs, vt, vz] ⟨H, S⟩ (fun v M' => v = .bool true) := by
  refine AC_of_WE Try.func6 rfl ?_
  simp only [Try.ntmps6, List.length_cons, List.length_nil, List.replicate, List.cons_append, List.nil_append, mem_enter]
  (repeat refine W_seq ?_); refine W_regionT [] ?_
  simp only [go_sem]
  (repeat refine W_seq ?_); refine W_regionT [] ?_
  simp only [go_sem]
  (repeat refine W_seq ?_); refine W_regionT [] ?_
  simp only [go_sem]
  (repeat refine W_seq ?_)
  refine W_block (W_loop (L_inv (fun j env M' => ∃ (x3 x4 x5 x6 x9 x10 x11 x12 x13 x14 x15 x16 x17 x18 x19 x20 x21 x22 x23 x24 x25 x26 x27 x28 x29 x30 x31 x32 x33 x34 x35 x36 x37 x38 x39 x40 x41 x42 x43 x44 x45 x46 x47 x48 x49 x50 x51 x52 x53 x54 x55 x56 x57 x58 x59 x60 x61 x62 x63 x64 x65 x66 x67 x68 x69 x70 x71 x72 x73 x74 x75 x76 x77 x78 x79 x80 x81 x82 x83 x84 x85 x86 x87 x88 x89 x90 x91 x92 x93 x94 x95 x96 x97 x98 x99 x100 x101 x102 x103 x104 x105 x106 x107 x108 x109 x110 x111 x112 x113 x114 x115 x116 x117 x118 x119 x120 x121 x122 x123 x124 x125 x126 x127 x128 x129 x130 : AV) (vo : AV) (i : Nat) (G' : List Block) (l : List UInt8), env = [vs, vt, vz, x3, x4, x5, x6, vo, .int .i64 i, x9, x10, x11, x12, x13, x14, x15, x16, x17, x18, x19, x20, x21, x22, x23, x24, x25, x26, x27, x28, x29, x30, x31, x32, x33, x34, x35, x36, x37, x38, x39, x40, x41, x42, x43, x44, x45, x46, x47, x48, x49, x50, x51, x52, x53, x54, x55, x56, x57, x58, x59, x60, x61, x62, x63, x64, x65, x66, x67, x68, x69, x70, x71, x72, x73, x74, x75, x76, x77, x78, x79, x80, x81, x82, x83, x84, x85, x86, x87, x88, x89, x90, x91, x92, x93, x94, x95, x96, x97, x98, x99, x100, x101, x102, x103, x104, x105, x106, x107, x108, x109, x110, x111, x112, x113, x114, x115, x116, x117, x118, x119, x120, x121, x122, x123, x124, x125, x126, x127, x128, x129, x130] ∧ i + j = ws.length ∧ i ≤ 5 ∧ M' = ⟨G', [] :: S⟩ ∧ UpdH no H G' ∧ BO G' vo l ∧ l.length ≤ 19 * i ∧ ∀ k, vo.loc k → H.length ≤ k) (fun j env M2 => ?_) (ws.length) ?_))
  case refine_2 => exact ⟨_, _, _, _, _, _, _, _, _, _, _, _, _, _, _, _, _, _, _, _, _, _, _, _, _, _, _, _, _, _, _, _, _, _, _, _, _, _, _, _, _, _, _, _, _, _, _, _, _, _, _, _, _, _, _, _, _, _, _, _, _, _, _, _, _, _, _, _, _, _, _, _, _, _, _, _, _, _, _, _, _, _, _, _, _, _, _, _, _, _, _, _, _, _, _, _, _, _, _, _, _, _, _, _, _, _, _, _, _, _, _, _, _, _, _, _, _, _, _, _, _, _, _, _, _, _, .nilsl, 0, H, [], rfl, by omega, by omega, rfl, UpdH.refl, BO.nil, Nat.zero_le _, fun k hk => hk.elim⟩
  refine exE fun x3 => exE fun x4 => exE fun x5 => exE fun x6 => exE fun x9 => exE fun x10 => exE fun x11 => exE fun x12 => exE fun x13 => exE fun x14 => exE fun x15 => exE fun x16 => exE fun x17 => exE fun x18 => exE fun x19 => exE fun x20 => exE fun x21 => exE fun x22 => exE fun x23 => exE fun x24 => exE fun x25 => exE fun x26 => exE fun x27 => exE fun x28 => exE fun x29 => exE fun x30 => exE fun x31 => exE fun x32 => exE fun x33 => exE fun x34 => exE fun x35 => exE fun x36 => exE fun x37 => exE fun x38 => exE fun x39 => exE fun x40 => exE fun x41 => exE fun x42 => exE fun x43 => exE fun x44 => exE fun x45 => exE fun x46 => exE fun x47 => exE fun x48 => exE fun x49 => exE fun x50 => exE fun x51 => exE fun x52 => exE fun x53 => exE fun x54 => exE fun x55 => exE fun x56 => exE fun x57 => exE fun x58 => exE fun x59 => exE fun x60 => exE fun x61 => exE fun x62 => exE fun x63 => exE fun x64 => exE fun x65 => exE fun x66 => exE fun x67 => exE fun x68 => exE fun x69 => exE fun x70 => exE fun x71 => exE fun x72 => exE fun x73 => exE fun x74 => exE fun x75 => exE fun x76 => exE fun x77 => exE fun x78 => exE fun x79 => exE fun x80 => exE fun x81 => exE fun x82 => exE fun x83 => exE fun x84 => exE fun x85 => exE fun x86 => exE fun x87 => exE fun x88 => exE fun x89 => exE fun x90 => exE fun x91 => exE fun x92 => exE fun x93 => exE fun x94 => exE fun x95 => exE fun x96 => exE fun x97 => exE fun x98 => exE fun x99 => exE fun x100 => exE fun x101 => exE fun x102 => exE fun x103 => exE fun x104 => exE fun x105 => exE fun x106 => exE fun x107 => exE fun x108 => exE fun x109 => exE fun x110 => exE fun x111 => exE fun x112 => exE fun x113 => exE fun x114 => exE fun x115 => exE fun x116 => exE fun x117 => exE fun x118 => exE fun x119 => exE fun x120 => exE fun x121 => exE fun x122 => exE fun x123 => exE fun x124 => exE fun x125 => exE fun x126 => exE fun x127 => exE fun x128 => exE fun x129 => exE fun x130 => ?_
  rintro ⟨vo, i, G, l, rfl, hij, hi5', rfl, uG, bo, hll, hvo⟩
  by_cases hN : i < ws.length
  · have hN' : (i : Int) < (ws.length : Int) := by omega
    have hlen := len_rd ((hs.new uG).rd (S := [] :: S)) ti58 rfl
    (repeat refine W_seq ?_); refine W_regionT [] ?_
    simp only [go_sem, hlen, hN', decide_true, decide_false]
    (repeat refine W_seq ?_)
    refine W_cond_if rfl (fun hb => ?_) (fun hb => ?_)
    · have hi5 : i < 5 := by simp [hN] at hb; omega
      refine W_skip ?_
      simp only [go_sem]
      (repeat refine W_seq ?_)
      refine W_block ?_
      have hbw := hw _ (List.getElem_mem hN)
      have a58 := at58 (S := [] :: S) (hs.new uG) hN
      (repeat refine W_seq ?_); refine W_regionT [39] ?_
      simp only [go_sem, a58.1, a58.2, show IntKind.wrap .i64 (100 + (i : Int)) = ((100 + i : Nat) : Int) by rw [wrap_i64 (by omega) (by omega)]; omega]
      refine AT_call rfl rfl (give (few (n := 12) ((hbw.new uG).rb (S := [] :: S)) (by omega))) fun v M1 hd1 h1 => ?_
      obtain ⟨G1, rfl, u1, b1, c1⟩ := h1
      have hfl : (ws[i].2.take 12).length ≤ 12 := by simp; omega
      generalize ws[i].2.take 12 = fw at b1 hfl
      simp only [go_sem]
      refine AT_call rfl rfl (give (refPack (s := fw) (kind := 100 + i) (tag := i) (b1.rb (S := [] :: S)) (by omega) (by omega) (by omega))) fun v M1 hd1 h1 => ?_
      obtain ⟨G2, rfl, u2, b2, c2⟩ := h1
      have bo2 := (bo.new u1).new u2
      have hfl2 : (le (7 + fw.length) 4 ++ le (100 + i) 1 ++ le i 2 ++ fw).length ≤ 19 := by simp [le_length]; omega
      generalize le (7 + fw.length) 4 ++ le (100 + i) 1 ++ le i 2 ++ fw = pk at b2 hfl2
      obtain ⟨vo', G3, a3, bo3, u3, l3⟩ := bo2.append (S := [] :: S) b2 (by omega)
      have uG3 : UpdH no H G3 := ((uG.then u1 (fun _ _ h => h)).then u2 (fun _ _ h => h)).then u3 (fun k hk h => by have := hvo k h; omega)
      have hGl : H.length ≤ G2.length := Nat.le_trans uG.l (Nat.le_trans u1.l u2.l)
      simp only [go_sem, a3]
      (repeat refine W_seq ?_); refine W_regionT [] ?_
      simp only [go_sem, show (i : Int) + 1 = ((i + 1 : Nat) : Int) from rfl, wrap_i64 (n := ((i + 1 : Nat) : Int)) (by omega) (by omega)]
      refine ⟨j - 1, by omega, _, _, _, _, _, _, _, _, _, _, _, _, _, _, _, _, _, _, _, _, _, _, _, _, _, _, _, _, _, _, _, _, _, _, _, _, _, _, _, _, _, _, _, _, _, _, _, _, _, _, _, _, _, _, _, _, _, _, _, _, _, _, _, _, _, _, _, _, _, _, _, _, _, _, _, _, _, _, _, _, _, _, _, _, _, _, _, _, _, _, _, _, _, _, _, _, _, _, _, _, _, _, _, _, _, _, _, _, _, _, _, _, _, _, _, _, _, _, _, _, _, _, _, _, _, _, vo', i + 1, G3, _, rfl, by omega, by omega, rfl, uG3, bo3, by simp; omega, fun k hk => (l3 k hk).elim (hvo k) (fun h => by omega)⟩
    · (repeat refine W_seq ?_)
      refine W_exit ?_
      simp only [go_sem]
      (repeat refine W_seq ?_); refine W_regionT [43] ?_
      simp only [go_sem]
      refine AT_call rfl rfl (give (few (n := 9) ((ht.new uG).rb (S := [] :: S)) (by omega))) fun v M1 hd1 h1 => ?_
      obtain ⟨G1, rfl, u1, b1, c1⟩ := h1
      have hfl : (tl.take 9).length ≤ 9 := by simp; omega
      generalize tl.take 9 = fw at b1 hfl
      obtain ⟨vo', G3, a3, bo3, u3, l3⟩ := (bo.new u1).append (S := [] :: S) b1 (by omega)
      have uG3 : UpdH no H G3 := (uG.then u1 (fun _ _ h => h)).then u3 (fun k hk h => by have := hvo k h; omega)
      have hol : (l ++ fw).length ≤ 200 := by simp; omega
      generalize l ++ fw = own at bo3 hol
      simp only [go_sem, a3]
      (repeat refine W_seq ?_); refine W_regionT [9] ?_
      simp only [go_sem]
      refine AT_call rfl rfl (split48 bo3.bh (by omega)) fun v M1 hd1 h1 => ?_
      obtain ⟨Hw, wo, wr, rfl, rfl, uw, low, lwo, bwr, cwr⟩ := h1
      have hz0 : (Hw ++ [Block.row ⟨63, 3, [.nilsl, .nilsl, .int .i64 0], false, false⟩])[Hw.length]? = some (.row ⟨63, 3, [.nilsl, .nilsl, .int .i64 0], false, false⟩) := by simp
      have stA := st_all (S := [] :: S) hz0 low.st.1 bwr.one.1 (e' := (splitG own 64).2.2)
      simp only [go_sem, alloc_agg (P := Try.prog) (hp := true) (M := ⟨Hw, [] :: S⟩) ti63 rfl rfl rfl (by decide), stA]
      have u7 : UpdH no Hw ((Hw ++ [Block.row ⟨63, 3, [.nilsl, .nilsl, .int .i64 0], false, false⟩]).set Hw.length (.row ⟨63, 3, [wo, wr, .int .i64 (splitG own 64).2.2], false, false⟩)) := (UpdH.push (p := no)).then UpdH.set (fun k hk h => by omega)
      have hrow0 : ((Hw ++ [Block.row ⟨63, 3, [.nilsl, .nilsl, .int .i64 0], false, false⟩]).set Hw.length (.row ⟨63, 3, [wo, wr, .int .i64 (splitG own 64).2.2], false, false⟩))[Hw.length]? = some (.row ⟨63, 3, [wo, wr, .int .i64 (splitG own 64).2.2], false, false⟩) := List.getElem?_set_self (by simp)
      generalize (Hw ++ [Block.row ⟨63, 3, [.nilsl, .nilsl, .int .i64 0], false, false⟩]).set Hw.length (.row ⟨63, 3, [wo, wr, .int .i64 (splitG own 64).2.2], false, false⟩) = G0 at u7 hrow0
      have uG0 : UpdH no H G0 := (uG3.then uw (fun _ _ h => h)).then u7 (fun _ _ h => h)
      have bo0 : BH G0 vo' own := (bo3.bh.new uw).new u7
      have low0 := low.new u7
      have bwr0 := bwr.new u7
      have hG0 := (List.getElem?_eq_some_iff.1 hrow0).1
      generalize Hw.length = iw at hrow0 hG0
      clear u7 bwr low uw stA hz0
      (repeat refine W_seq ?_); refine W_regionT [] ?_
      simp only [go_sem]
      (repeat refine W_seq ?_); refine W_regionT [] ?_
      simp only [go_sem]
      (repeat refine W_seq ?_); refine W_regionT [] ?_
      simp only [go_sem]
      (repeat refine W_seq ?_); refine W_regionT [] ?_
      simp only [go_sem]
      (repeat refine W_seq ?_)
      refine W_block (W_loop (L_inv (fun j2 env M' => ∃ (y0 y1 y3 y4 y5 y6 y8 y14 y15 y16 y17 y18 y19 y20 y21 y22 y23 y24 y25 y26 y27 y28 y29 y30 y31 y32 y33 y34 y35 y36 y37 y38 y39 y40 y41 y42 y43 y44 y45 y46 y47 y48 y49 y50 y51 y52 y53 y54 y55 y56 y57 y58 y59 y60 y61 y62 y63 y64 y65 y66 y67 y68 y69 y70 y71 y72 y73 y74 y75 y76 y77 y78 y79 y80 y81 y82 y83 y84 y85 y86 y87 y88 y89 y90 y91 y92 y93 y94 y95 y96 y97 y98 y99 y100 y101 y102 y103 y104 y105 y106 y107 y108 y109 y110 y111 y112 y113 y114 y115 y116 y117 y118 y119 y120 y121 y122 y123 y124 y125 y126 y127 y128 y129 y130 : AV) (vg vr : AV) (at_ i : Nat) (G' : List Block) (L : List (List UInt8)) (r : List UInt8), env = [y0, y1, vz, y3, y4, y5, y6, vo', y8, .ptr ⟨0, iw, 0⟩, vg, vr, .int .i64 at_, .int .i64 i, y14, y15, y16, y17, y18, y19, y20, y21, y22, y23, y24, y25, y26, y27, y28, y29, y30, y31, y32, y33, y34, y35, y36, y37, y38, y39, y40, y41, y42, y43, y44, y45, y46, y47, y48, y49, y50, y51, y52, y53, y54, y55, y56, y57, y58, y59, y60, y61, y62, y63, y64, y65, y66, y67, y68, y69, y70, y71, y72, y73, y74, y75, y76, y77, y78, y79, y80, y81, y82, y83, y84, y85, y86, y87, y88, y89, y90, y91, y92, y93, y94, y95, y96, y97, y98, y99, y100, y101, y102, y103, y104, y105, y106, y107, y108, y109, y110, y111, y112, y113, y114, y115, y116, y117, y118, y119, y120, y121, y122, y123, y124, y125, y126, y127, y128, y129, y130] ∧ 9 * (own.length - at_) + (8 - i % 9) = j2 ∧ i + j2 ≤ 9 * own.length + 8 ∧ at_ ≤ own.length ∧ M' = ⟨G', [] :: S⟩ ∧ UpdH no G0 G' ∧ LO G' (G0.length ≤ ·) vg L ∧ (∀ k, vg.loc k → G0.length ≤ k) ∧ BH G' vr r ∧ splitG (own.take at_) 64 = (L, r, 0)) (fun j2 env M2 => ?_) (9 * own.length + 8) ?_))
      case refine_2 => exact ⟨_, _, _, _, _, _, _, _, _, _, _, _, _, _, _, _, _, _, _, _, _, _, _, _, _, _, _, _, _, _, _, _, _, _, _, _, _, _, _, _, _, _, _, _, _, _, _, _, _, _, _, _, _, _, _, _, _, _, _, _, _, _, _, _, _, _, _, _, _, _, _, _, _, _, _, _, _, _, _, _, _, _, _, _, _, _, _, _, _, _, _, _, _, _, _, _, _, _, _, _, _, _, _, _, _, _, _, _, _, _, _, _, _, _, _, _, _, _, _, _, _, _, _, _, .nilsl, .nilsl, 0, 0, G0, [], [], rfl, by omega, by omega, Nat.zero_le _, rfl, UpdH.refl, LO.nil, fun k hk => hk.elim, BH.nil, by rw [List.take_zero, sp_short (by simp)]⟩
      refine exE fun y0 => exE fun y1 => exE fun y3 => exE fun y4 => exE fun y5 => exE fun y6 => exE fun y8 => exE fun y14 => exE fun y15 => exE fun y16 => exE fun y17 => exE fun y18 => exE fun y19 => exE fun y20 => exE fun y21 => exE fun y22 => exE fun y23 => exE fun y24 => exE fun y25 => exE fun y26 => exE fun y27 => exE fun y28 => exE fun y29 => exE fun y30 => exE fun y31 => exE fun y32 => exE fun y33 => exE fun y34 => exE fun y35 => exE fun y36 => exE fun y37 => exE fun y38 => exE fun y39 => exE fun y40 => exE fun y41 => exE fun y42 => exE fun y43 => exE fun y44 => exE fun y45 => exE fun y46 => exE fun y47 => exE fun y48 => exE fun y49 => exE fun y50 => exE fun y51 => exE fun y52 => exE fun y53 => exE fun y54 => exE fun y55 => exE fun y56 => exE fun y57 => exE fun y58 => exE fun y59 => exE fun y60 => exE fun y61 => exE fun y62 => exE fun y63 => exE fun y64 => exE fun y65 => exE fun y66 => exE fun y67 => exE fun y68 => exE fun y69 => exE fun y70 => exE fun y71 => exE fun y72 => exE fun y73 => exE fun y74 => exE fun y75 => exE fun y76 => exE fun y77 => exE fun y78 => exE fun y79 => exE fun y80 => exE fun y81 => exE fun y82 => exE fun y83 => exE fun y84 => exE fun y85 => exE fun y86 => exE fun y87 => exE fun y88 => exE fun y89 => exE fun y90 => exE fun y91 => exE fun y92 => exE fun y93 => exE fun y94 => exE fun y95 => exE fun y96 => exE fun y97 => exE fun y98 => exE fun y99 => exE fun y100 => exE fun y101 => exE fun y102 => exE fun y103 => exE fun y104 => exE fun y105 => exE fun y106 => exE fun y107 => exE fun y108 => exE fun y109 => exE fun y110 => exE fun y111 => exE fun y112 => exE fun y113 => exE fun y114 => exE fun y115 => exE fun y116 => exE fun y117 => exE fun y118 => exE fun y119 => exE fun y120 => exE fun y121 => exE fun y122 => exE fun y123 => exE fun y124 => exE fun y125 => exE fun y126 => exE fun y127 => exE fun y128 => exE fun y129 => exE fun y130 => ?_
      rintro ⟨vg, vr, at_, i, G, L, r, rfl, hj2, hij2, hat, rfl, uG1, lg, hvg, br, hsp⟩
      have bo := bo0.new uG1
      have hrow := uG1.get hrow0 (fun h => h)
      have uGH := uG0.then uG1 (fun _ _ h => h)
      (repeat refine W_seq ?_); refine W_regionT [] ?_
      simp only [go_sem, bo.len]
      (repeat refine W_seq ?_)
      refine W_cond_if rfl (fun hb => ?_) (fun hb => ?_)
      · have hat' : at_ < own.length := by simpa using hb
        refine W_skip ?_
        simp only [go_sem]
        (repeat refine W_seq ?_)
        refine W_block ?_
        (repeat refine W_seq ?_); refine W_regionT [] ?_
        simp only [go_sem]
        by_cases hz0 : 0 < zs.length
        · have hzl := len_rd ((hz.new uGH).rd (S := [] :: S)) ti59 rfl
          have hz0' : (0 : Int) < (zs.length : Int) := by omega
          (repeat refine W_seq ?_); refine W_regionT [] ?_
          simp only [go_sem, hzl, hz0', decide_true, decide_false]
          (repeat refine W_seq ?_)
          refine W_cond (b := true) rfl ?_
          simp only [if_true]
          have him : i % zs.length < zs.length := Nat.mod_lt _ hz0
          have a59 := at59 (S := [] :: S) (hz.new uGH) him
          have hzz := hzr _ (List.getElem_mem him)
          (repeat refine W_seq ?_); refine W_regionT [] ?_
          simp only [go_sem, hzl, bin_rem (b := (zs.length : Int)) (by omega), (Int.ofNat_tmod i zs.length).symm, a59.1, a59.2]
          refine AT_call rfl rfl (aroundF hzz.1 hzz.2 (by decide)) fun v M1 hd1 h1 => ?_
          obtain ⟨hv, hM⟩ := h1
          have hpr := around_range (n := zs[i % zs.length]) (k := 13) (by decide)
          generalize around zs[i % zs.length] 13 = rp at hv hpr
          obtain ⟨p, rfl⟩ : ∃ n : Nat, rp = n := ⟨rp.toNat, by omega⟩
          have hp : p ≤ 13 := by omega
          subst hv; subst hM
          simp only [go_sem]
          by_cases h8 : i % 9 = 8
          · have h9 : decide (Int.tmod (i : Int) 9 = 8) = true := decide_eq_true (by rw [show Int.tmod (i : Int) 9 = ((i % 9 : Nat) : Int) from (Int.ofNat_tmod i 9).symm]; omega)
            try (obtain ⟨p, hp5, hp⟩ : ∃ p : Nat, (5 : Int) = (p : Int) ∧ p ≤ 13 := ⟨5, rfl, by decide⟩; rw [show AV.int IntKind.i64 5 = AV.int IntKind.i64 (p : Int) by rw [hp5]])
            (repeat refine W_seq ?_); refine W_regionT [] ?_
            simp only [go_sem, bin_rem (b := (9 : Int)) (by decide), h9]
            (repeat refine W_seq ?_)
            refine W_cond (b := true) rfl ?_
            simp only [if_true]
            have hmax : (if (1 : Int) > (p : Int) then (1 : Int) else (p : Int)) = ((max p 1 : Nat) : Int) := by split <;> omega
            (repeat refine W_seq ?_); refine W_regionT [] ?_
            simp only [go_sem, hmax]
            obtain ⟨p2, hp2, hp2a, hp2b⟩ : ∃ p2 : Nat, (if i % 9 = 8 then max p 1 else p) = p2 ∧ p2 ≤ 13 ∧ (i % 9 = 8 → 1 ≤ p2) := ⟨_, rfl, by split <;> omega, fun h => by rw [if_pos h]; omega⟩
            first
              | rw [if_pos h8] at hp2
              | rw [if_neg h8] at hp2
            rw [hp2]
            obtain ⟨nx, hnx, hnx1, hnx2, hnx3⟩ : ∃ nx : Nat, (if (own.length : Int) < ((at_ + p2 : Nat) : Int) then (own.length : Int) else ((at_ + p2 : Nat) : Int)) = (nx : Int) ∧ at_ ≤ nx ∧ nx ≤ own.length ∧ (1 ≤ p2 → at_ < nx) := ⟨min (at_ + p2) own.length, by split <;> omega, by omega, by omega, by omega⟩
            (repeat refine W_seq ?_); refine W_regionT [] ?_
            simp only [go_sem, bo.len, show IntKind.wrap .i64 ((at_ : Int) + (p2 : Int)) = ((at_ + p2 : Nat) : Int) by rw [wrap_i64 (by omega) (by omega)]; omega, hnx]
            obtain ⟨v5, a5, b5, c5⟩ := bo.cut (S := [] :: S) (lo := some (.int .i64 at_)) (hi := some (.int .i64 nx)) (a := at_) (b := nx) (by simp [onat, natOf]) (by simp [onat, natOf]) (by omega) (by omega)
            (repeat refine W_seq ?_); refine W_regionD [81] [1, 6, 7] [0, 2, 3, 4, 5, 1, 6, 7, 8, 9, 10, 11, 12, 13, 14] [0, 1, 0, 0, 0, 28, 63, 127, 255, 511, 511, 511, 1023, 6143, 16383] mixedM (by kernel_rfl) (by kernel_rfl) (by kernel_rfl) ?_
            simp only [listed, go_sem]
            refine AD_read (v := v5) (fun M' => slices Try.prog 22 vo' (some (.int .i64 at_)) (some (.int .i64 nx)) none M' = some v5) rfl rfl (fun M' h => by rw [opA_slice]; show pureV (slices Try.prog 22 vo' (some (.int .i64 at_)) (some (.int .i64 nx)) none M') M' = _; rw [h]; rfl) (a5) ?_
            simp only [go_sem]
            refine AD_call rfl rfl rfl (giveO (few (n := 200) (br.rb (S := [] :: S)) (by omega))) fun v M1 hd1 h1 => ?_
            obtain ⟨G6, rfl, u6, b6, c6⟩ := h1
            rw [List.take_of_length_le (show r.length ≤ 200 by have := (split_rest (m := 64) (by omega) _ (own.take at_) (Nat.le_refl _)).1; rw [hsp] at this; simp only at this; omega)] at b6
            have hrl : r.length ≤ 64 := by have := (split_rest (m := 64) (by omega) _ (own.take at_) (Nat.le_refl _)).1; rw [hsp] at this; exact this
            have b5' := b5.new u6
            obtain ⟨v7, G7, a7, b7, u7, l7⟩ := b6.append (S := [] :: S) b5' (by simp; omega)
            have u67 : UpdH no G G7 := u6.then u7 (fun k hk h => by have := c6 k h; omega)
            have bo7 := bo.new u67
            refine ⟨⟨fun _ => slices_same bo (bo.new u6) a5, trivial⟩, ?_⟩
            simp only [go_sem]
            refine AD_loud (v := v7) (M' := ⟨G7, [] :: S⟩) rfl (a7) ⟨fun _ => slices_same bo bo7 a5, trivial⟩ ?_
            simp only [go_sem]
            refine AD_call rfl rfl rfl (split47 b7.bh (by simp; omega)) fun v M1 hd1 h1 => ?_
            obtain ⟨G8, vl, vf, rfl, rfl, u8, lo8, hvl, b8, c8⟩ := h1
            have hbuf : r ++ (own.take nx).drop at_ = r ++ (own.take nx).drop at_ := rfl
            have htk : own.take nx = own.take at_ ++ (own.take nx).drop at_ := by
              conv => lhs; rw [← List.take_append_drop at_ (own.take nx)]
              rw [List.take_take, Nat.min_eq_left (by omega)]
            obtain ⟨sA, _⟩ := split_app 64 ((own.take nx).drop at_) _ (own.take at_) (Nat.le_refl _) L r 0 hsp
            have sB := sA rfl
            rw [← htk] at sB
            have hll := (split_rest (m := 64) (by omega) _ (own.take nx) (Nat.le_refl _)).2
            rw [sB] at hll
            simp only [List.length_append, List.length_take] at hll
            generalize splitG (r ++ (own.take nx).drop at_) 64 = sp at lo8 b8 sB hll
            obtain ⟨sL, sR, sE⟩ := sp
            simp only at lo8 b8 sB hll
            have lg8 := (lg.new u67).new u8
            have hG7 := u67.l
            have hG01 := uG1.l
            obtain ⟨vg', G9, a9, lg9, u9, l9⟩ := lg8.cat (S := [] :: S) lo8 (fun k hk => ⟨by show G0.length ≤ k; omega, fun h => by have := lg.lt h; omega⟩) (by omega)
            have uG9 : UpdH no G0 G9 := (((uG1.then u67 (fun _ _ h => h)).then u8 (fun _ _ h => h))).then u9 (fun k hk h => by have := hvg k h; omega)
            have b9 : BH G9 vf sR := b8.upd u9 (fun k hk h => by have := lg.lt h; have := c8 k hk; omega)
            refine ⟨⟨fun _ => slices_same bo (bo7.new u8) a5, trivial⟩, ?_⟩
            simp only [go_sem]
            (repeat refine W_seq ?_); refine W_regionT [88] ?_
            simp only [go_sem, a9]
            rcases (show sE ≠ 0 ∨ sE = 0 by omega) with he | he
            · have hx : decide (sE = 0) = false := decide_eq_false he
              (repeat refine W_seq ?_); refine W_regionT [] ?_
              simp only [go_sem, hx]
              (repeat refine W_seq ?_)
              refine W_cond (b := true) rfl ?_
              simp only [if_true]
              have hrow9 := uG9.get hrow0 (fun h => h)
              have g9 := get0 (S := [] :: S) hrow9
              obtain ⟨_, sC⟩ := split_app 64 (own.drop nx) _ (own.take nx) (Nat.le_refl _) _ _ _ sB
              obtain ⟨sD, hsR⟩ := sC he
              rw [List.take_append_drop] at sD
              have hE : (splitG own 64).2.2 = sE := by rw [sD]
              have hL : (splitG own 64).1 = L ++ sL := by rw [sD]
              have low9 := low0.new uG9
              rw [hL] at low9
              rw [hE] at g9
              try simp only at hsR
              subst hsR
              (repeat refine W_seq ?_); refine W_regionT [] ?_
              simp only [go_sem, st_a2 g9, st_l2 g9, decide_true, st_a0 g9, st_l0 g9]
              refine AT_call rfl rfl (same49 lg9.lh low9.lh (by simp; omega)) fun v M1 hd1 h1 => ?_
              obtain ⟨hv, hM⟩ := h1; subst hv; subst hM
              simp only [go_sem, decide_true, b9.len, List.length_nil, show ((0 : Nat) : Int) = 0 from rfl]
              refine AT_call rfl rfl (lives02) fun v M1 hd1 h1 => ?_
              obtain ⟨hv, hM⟩ := h1; subst hv; subst hM
              simp only [go_sem]
              exact W_ret ⟨.inr rfl, _, rfl, rfl, rfl⟩
            · have hx : decide (sE = 0) = true := decide_eq_true he
              have he0 := he
              (repeat refine W_seq ?_); refine W_regionT [] ?_
              simp only [go_sem, hx]
              (repeat refine W_seq ?_)
              refine W_cond (b := false) rfl ?_
              simp only [Bool.false_eq_true, if_false]
              refine W_skip ?_
              simp only [go_sem]
              (repeat refine W_seq ?_); refine W_regionT [] ?_
              simp only [go_sem]
              (repeat refine W_seq ?_); refine W_regionT [] ?_
              simp only [go_sem]
              (repeat refine W_seq ?_); refine W_regionT [] ?_
              simp only [go_sem, show (i : Int) + 1 = ((i + 1 : Nat) : Int) from rfl, wrap_i64 (n := ((i + 1 : Nat) : Int)) (by omega) (by omega)]
              refine ⟨9 * (own.length - nx) + (8 - (i + 1) % 9), by omega, _, _, _, _, _, _, _, _, _, _, _, _, _, _, _, _, _, _, _, _, _, _, _, _, _, _, _, _, _, _, _, _, _, _, _, _, _, _, _, _, _, _, _, _, _, _, _, _, _, _, _, _, _, _, _, _, _, _, _, _, _, _, _, _, _, _, _, _, _, _, _, _, _, _, _, _, _, _, _, _, _, _, _, _, _, _, _, _, _, _, _, _, _, _, _, _, _, _, _, _, _, _, _, _, _, _, _, _, _, _, _, _, _, _, _, _, _, _, _, _, _, _, _, _, vg', vf, nx, i + 1, G9, L ++ sL, sR, rfl, rfl, by omega, hnx2, rfl, uG9, lg9, fun k hk => (l9 k hk).elim (hvg k) (fun h => by have := u8.l; omega), b9, ?_⟩
              rw [sB, he0]
          · have h9 : decide (Int.tmod (i : Int) 9 = 8) = false := decide_eq_false (by rw [show Int.tmod (i : Int) 9 = ((i % 9 : Nat) : Int) from (Int.ofNat_tmod i 9).symm]; omega)
            try (obtain ⟨p, hp5, hp⟩ : ∃ p : Nat, (5 : Int) = (p : Int) ∧ p ≤ 13 := ⟨5, rfl, by decide⟩; rw [show AV.int IntKind.i64 5 = AV.int IntKind.i64 (p : Int) by rw [hp5]])
            (repeat refine W_seq ?_); refine W_regionT [] ?_
            simp only [go_sem, bin_rem (b := (9 : Int)) (by decide), h9]
            (repeat refine W_seq ?_)
            refine W_cond (b := false) rfl ?_
            simp only [Bool.false_eq_true, if_false]
            refine W_skip ?_
            simp only [go_sem]
            obtain ⟨p2, hp2, hp2a, hp2b⟩ : ∃ p2 : Nat, (if i % 9 = 8 then max p 1 else p) = p2 ∧ p2 ≤ 13 ∧ (i % 9 = 8 → 1 ≤ p2) := ⟨_, rfl, by split <;> omega, fun h => by rw [if_pos h]; omega⟩
            first
              | rw [if_pos h8] at hp2
              | rw [if_neg h8] at hp2
            rw [hp2]
            obtain ⟨nx, hnx, hnx1, hnx2, hnx3⟩ : ∃ nx : Nat, (if (own.length : Int) < ((at_ + p2 : Nat) : Int) then (own.length : Int) else ((at_ + p2 : Nat) : Int)) = (nx : Int) ∧ at_ ≤ nx ∧ nx ≤ own.length ∧ (1 ≤ p2 → at_ < nx) := ⟨min (at_ + p2) own.length, by split <;> omega, by omega, by omega, by omega⟩
            (repeat refine W_seq ?_); refine W_regionT [] ?_
            simp only [go_sem, bo.len, show IntKind.wrap .i64 ((at_ : Int) + (p2 : Int)) = ((at_ + p2 : Nat) : Int) by rw [wrap_i64 (by omega) (by omega)]; omega, hnx]
            obtain ⟨v5, a5, b5, c5⟩ := bo.cut (S := [] :: S) (lo := some (.int .i64 at_)) (hi := some (.int .i64 nx)) (a := at_) (b := nx) (by simp [onat, natOf]) (by simp [onat, natOf]) (by omega) (by omega)
            (repeat refine W_seq ?_); refine W_regionD [81] [1, 6, 7] [0, 2, 3, 4, 5, 1, 6, 7, 8, 9, 10, 11, 12, 13, 14] [0, 1, 0, 0, 0, 28, 63, 127, 255, 511, 511, 511, 1023, 6143, 16383] mixedM (by kernel_rfl) (by kernel_rfl) (by kernel_rfl) ?_
            simp only [listed, go_sem]
            refine AD_read (v := v5) (fun M' => slices Try.prog 22 vo' (some (.int .i64 at_)) (some (.int .i64 nx)) none M' = some v5) rfl rfl (fun M' h => by rw [opA_slice]; show pureV (slices Try.prog 22 vo' (some (.int .i64 at_)) (some (.int .i64 nx)) none M') M' = _; rw [h]; rfl) (a5) ?_
            simp only [go_sem]
            refine AD_call rfl rfl rfl (giveO (few (n := 200) (br.rb (S := [] :: S)) (by omega))) fun v M1 hd1 h1 => ?_
            obtain ⟨G6, rfl, u6, b6, c6⟩ := h1
            rw [List.take_of_length_le (show r.length ≤ 200 by have := (split_rest (m := 64) (by omega) _ (own.take at_) (Nat.le_refl _)).1; rw [hsp] at this; simp only at this; omega)] at b6
            have hrl : r.length ≤ 64 := by have := (split_rest (m := 64) (by omega) _ (own.take at_) (Nat.le_refl _)).1; rw [hsp] at this; exact this
            have b5' := b5.new u6
            obtain ⟨v7, G7, a7, b7, u7, l7⟩ := b6.append (S := [] :: S) b5' (by simp; omega)
            have u67 : UpdH no G G7 := u6.then u7 (fun k hk h => by have := c6 k h; omega)
            have bo7 := bo.new u67
            refine ⟨⟨fun _ => slices_same bo (bo.new u6) a5, trivial⟩, ?_⟩
            simp only [go_sem]
            refine AD_loud (v := v7) (M' := ⟨G7, [] :: S⟩) rfl (a7) ⟨fun _ => slices_same bo bo7 a5, trivial⟩ ?_
            simp only [go_sem]
            refine AD_call rfl rfl rfl (split47 b7.bh (by simp; omega)) fun v M1 hd1 h1 => ?_
            obtain ⟨G8, vl, vf, rfl, rfl, u8, lo8, hvl, b8, c8⟩ := h1
            have hbuf : r ++ (own.take nx).drop at_ = r ++ (own.take nx).drop at_ := rfl
            have htk : own.take nx = own.take at_ ++ (own.take nx).drop at_ := by
              conv => lhs; rw [← List.take_append_drop at_ (own.take nx)]
              rw [List.take_take, Nat.min_eq_left (by omega)]
            obtain ⟨sA, _⟩ := split_app 64 ((own.take nx).drop at_) _ (own.take at_) (Nat.le_refl _) L r 0 hsp
            have sB := sA rfl
            rw [← htk] at sB
            have hll := (split_rest (m := 64) (by omega) _ (own.take nx) (Nat.le_refl _)).2
            rw [sB] at hll
            simp only [List.length_append, List.length_take] at hll
            generalize splitG (r ++ (own.take nx).drop at_) 64 = sp at lo8 b8 sB hll
            obtain ⟨sL, sR, sE⟩ := sp
            simp only at lo8 b8 sB hll
            have lg8 := (lg.new u67).new u8
            have hG7 := u67.l
            have hG01 := uG1.l
            obtain ⟨vg', G9, a9, lg9, u9, l9⟩ := lg8.cat (S := [] :: S) lo8 (fun k hk => ⟨by show G0.length ≤ k; omega, fun h => by have := lg.lt h; omega⟩) (by omega)
            have uG9 : UpdH no G0 G9 := (((uG1.then u67 (fun _ _ h => h)).then u8 (fun _ _ h => h))).then u9 (fun k hk h => by have := hvg k h; omega)
            have b9 : BH G9 vf sR := b8.upd u9 (fun k hk h => by have := lg.lt h; have := c8 k hk; omega)
            refine ⟨⟨fun _ => slices_same bo (bo7.new u8) a5, trivial⟩, ?_⟩
            simp only [go_sem]
            (repeat refine W_seq ?_); refine W_regionT [88] ?_
            simp only [go_sem, a9]
            rcases (show sE ≠ 0 ∨ sE = 0 by omega) with he | he
            · have hx : decide (sE = 0) = false := decide_eq_false he
              (repeat refine W_seq ?_); refine W_regionT [] ?_
              simp only [go_sem, hx]
              (repeat refine W_seq ?_)
              refine W_cond (b := true) rfl ?_
              simp only [if_true]
              have hrow9 := uG9.get hrow0 (fun h => h)
              have g9 := get0 (S := [] :: S) hrow9
              obtain ⟨_, sC⟩ := split_app 64 (own.drop nx) _ (own.take nx) (Nat.le_refl _) _ _ _ sB
              obtain ⟨sD, hsR⟩ := sC he
              rw [List.take_append_drop] at sD
              have hE : (splitG own 64).2.2 = sE := by rw [sD]
              have hL : (splitG own 64).1 = L ++ sL := by rw [sD]
              have low9 := low0.new uG9
              rw [hL] at low9
              rw [hE] at g9
              try simp only at hsR
              subst hsR
              (repeat refine W_seq ?_); refine W_regionT [] ?_
              simp only [go_sem, st_a2 g9, st_l2 g9, decide_true, st_a0 g9, st_l0 g9]
              refine AT_call rfl rfl (same49 lg9.lh low9.lh (by simp; omega)) fun v M1 hd1 h1 => ?_
              obtain ⟨hv, hM⟩ := h1; subst hv; subst hM
              simp only [go_sem, decide_true, b9.len, List.length_nil, show ((0 : Nat) : Int) = 0 from rfl]
              refine AT_call rfl rfl (lives02) fun v M1 hd1 h1 => ?_
              obtain ⟨hv, hM⟩ := h1; subst hv; subst hM
              simp only [go_sem]
              exact W_ret ⟨.inr rfl, _, rfl, rfl, rfl⟩
            · have hx : decide (sE = 0) = true := decide_eq_true he
              have he0 := he
              (repeat refine W_seq ?_); refine W_regionT [] ?_
              simp only [go_sem, hx]
              (repeat refine W_seq ?_)
              refine W_cond (b := false) rfl ?_
              simp only [Bool.false_eq_true, if_false]
              refine W_skip ?_
              simp only [go_sem]
              (repeat refine W_seq ?_); refine W_regionT [] ?_
              simp only [go_sem]
              (repeat refine W_seq ?_); refine W_regionT [] ?_
              simp only [go_sem]
              (repeat refine W_seq ?_); refine W_regionT [] ?_
              simp only [go_sem, show (i : Int) + 1 = ((i + 1 : Nat) : Int) from rfl, wrap_i64 (n := ((i + 1 : Nat) : Int)) (by omega) (by omega)]
              refine ⟨9 * (own.length - nx) + (8 - (i + 1) % 9), by omega, _, _, _, _, _, _, _, _, _, _, _, _, _, _, _, _, _, _, _, _, _, _, _, _, _, _, _, _, _, _, _, _, _, _, _, _, _, _, _, _, _, _, _, _, _, _, _, _, _, _, _, _, _, _, _, _, _, _, _, _, _, _, _, _, _, _, _, _, _, _, _, _, _, _, _, _, _, _, _, _, _, _, _, _, _, _, _, _, _, _, _, _, _, _, _, _, _, _, _, _, _, _, _, _, _, _, _, _, _, _, _, _, _, _, _, _, _, _, _, _, _, _, _, _, vg', vf, nx, i + 1, G9, L ++ sL, sR, rfl, rfl, by omega, hnx2, rfl, uG9, lg9, fun k hk => (l9 k hk).elim (hvg k) (fun h => by have := u8.l; omega), b9, ?_⟩
              rw [sB, he0]
        · have hzl := len_rd ((hz.new uGH).rd (S := [] :: S)) ti59 rfl
          have hz0' : ¬ (0 : Int) < (zs.length : Int) := by omega
          (repeat refine W_seq ?_); refine W_regionT [] ?_
          simp only [go_sem, hzl, hz0', decide_true, decide_false]
          (repeat refine W_seq ?_)
          refine W_cond (b := false) rfl ?_
          simp only [Bool.false_eq_true, if_false]
          refine W_skip ?_
          simp only [go_sem]
          by_cases h8 : i % 9 = 8
          · have h9 : decide (Int.tmod (i : Int) 9 = 8) = true := decide_eq_true (by rw [show Int.tmod (i : Int) 9 = ((i % 9 : Nat) : Int) from (Int.ofNat_tmod i 9).symm]; omega)
            try (obtain ⟨p, hp5, hp⟩ : ∃ p : Nat, (5 : Int) = (p : Int) ∧ p ≤ 13 := ⟨5, rfl, by decide⟩; rw [show AV.int IntKind.i64 5 = AV.int IntKind.i64 (p : Int) by rw [hp5]])
            (repeat refine W_seq ?_); refine W_regionT [] ?_
            simp only [go_sem, bin_rem (b := (9 : Int)) (by decide), h9]
            (repeat refine W_seq ?_)
            refine W_cond (b := true) rfl ?_
            simp only [if_true]
            have hmax : (if (1 : Int) > (p : Int) then (1 : Int) else (p : Int)) = ((max p 1 : Nat) : Int) := by split <;> omega
            (repeat refine W_seq ?_); refine W_regionT [] ?_
            simp only [go_sem, hmax]
            obtain ⟨p2, hp2, hp2a, hp2b⟩ : ∃ p2 : Nat, (if i % 9 = 8 then max p 1 else p) = p2 ∧ p2 ≤ 13 ∧ (i % 9 = 8 → 1 ≤ p2) := ⟨_, rfl, by split <;> omega, fun h => by rw [if_pos h]; omega⟩
            first
              | rw [if_pos h8] at hp2
              | rw [if_neg h8] at hp2
            rw [hp2]
            obtain ⟨nx, hnx, hnx1, hnx2, hnx3⟩ : ∃ nx : Nat, (if (own.length : Int) < ((at_ + p2 : Nat) : Int) then (own.length : Int) else ((at_ + p2 : Nat) : Int)) = (nx : Int) ∧ at_ ≤ nx ∧ nx ≤ own.length ∧ (1 ≤ p2 → at_ < nx) := ⟨min (at_ + p2) own.length, by split <;> omega, by omega, by omega, by omega⟩
            (repeat refine W_seq ?_); refine W_regionT [] ?_
            simp only [go_sem, bo.len, show IntKind.wrap .i64 ((at_ : Int) + (p2 : Int)) = ((at_ + p2 : Nat) : Int) by rw [wrap_i64 (by omega) (by omega)]; omega, hnx]
            obtain ⟨v5, a5, b5, c5⟩ := bo.cut (S := [] :: S) (lo := some (.int .i64 at_)) (hi := some (.int .i64 nx)) (a := at_) (b := nx) (by simp [onat, natOf]) (by simp [onat, natOf]) (by omega) (by omega)
            (repeat refine W_seq ?_); refine W_regionD [81] [1, 6, 7] [0, 2, 3, 4, 5, 1, 6, 7, 8, 9, 10, 11, 12, 13, 14] [0, 1, 0, 0, 0, 28, 63, 127, 255, 511, 511, 511, 1023, 6143, 16383] mixedM (by kernel_rfl) (by kernel_rfl) (by kernel_rfl) ?_
            simp only [listed, go_sem]
            refine AD_read (v := v5) (fun M' => slices Try.prog 22 vo' (some (.int .i64 at_)) (some (.int .i64 nx)) none M' = some v5) rfl rfl (fun M' h => by rw [opA_slice]; show pureV (slices Try.prog 22 vo' (some (.int .i64 at_)) (some (.int .i64 nx)) none M') M' = _; rw [h]; rfl) (a5) ?_
            simp only [go_sem]
            refine AD_call rfl rfl rfl (giveO (few (n := 200) (br.rb (S := [] :: S)) (by omega))) fun v M1 hd1 h1 => ?_
            obtain ⟨G6, rfl, u6, b6, c6⟩ := h1
            rw [List.take_of_length_le (show r.length ≤ 200 by have := (split_rest (m := 64) (by omega) _ (own.take at_) (Nat.le_refl _)).1; rw [hsp] at this; simp only at this; omega)] at b6
            have hrl : r.length ≤ 64 := by have := (split_rest (m := 64) (by omega) _ (own.take at_) (Nat.le_refl _)).1; rw [hsp] at this; exact this
            have b5' := b5.new u6
            obtain ⟨v7, G7, a7, b7, u7, l7⟩ := b6.append (S := [] :: S) b5' (by simp; omega)
            have u67 : UpdH no G G7 := u6.then u7 (fun k hk h => by have := c6 k h; omega)
            have bo7 := bo.new u67
            refine ⟨⟨fun _ => slices_same bo (bo.new u6) a5, trivial⟩, ?_⟩
            simp only [go_sem]
            refine AD_loud (v := v7) (M' := ⟨G7, [] :: S⟩) rfl (a7) ⟨fun _ => slices_same bo bo7 a5, trivial⟩ ?_
            simp only [go_sem]
            refine AD_call rfl rfl rfl (split47 b7.bh (by simp; omega)) fun v M1 hd1 h1 => ?_
            obtain ⟨G8, vl, vf, rfl, rfl, u8, lo8, hvl, b8, c8⟩ := h1
            have hbuf : r ++ (own.take nx).drop at_ = r ++ (own.take nx).drop at_ := rfl
            have htk : own.take nx = own.take at_ ++ (own.take nx).drop at_ := by
              conv => lhs; rw [← List.take_append_drop at_ (own.take nx)]
              rw [List.take_take, Nat.min_eq_left (by omega)]
            obtain ⟨sA, _⟩ := split_app 64 ((own.take nx).drop at_) _ (own.take at_) (Nat.le_refl _) L r 0 hsp
            have sB := sA rfl
            rw [← htk] at sB
            have hll := (split_rest (m := 64) (by omega) _ (own.take nx) (Nat.le_refl _)).2
            rw [sB] at hll
            simp only [List.length_append, List.length_take] at hll
            generalize splitG (r ++ (own.take nx).drop at_) 64 = sp at lo8 b8 sB hll
            obtain ⟨sL, sR, sE⟩ := sp
            simp only at lo8 b8 sB hll
            have lg8 := (lg.new u67).new u8
            have hG7 := u67.l
            have hG01 := uG1.l
            obtain ⟨vg', G9, a9, lg9, u9, l9⟩ := lg8.cat (S := [] :: S) lo8 (fun k hk => ⟨by show G0.length ≤ k; omega, fun h => by have := lg.lt h; omega⟩) (by omega)
            have uG9 : UpdH no G0 G9 := (((uG1.then u67 (fun _ _ h => h)).then u8 (fun _ _ h => h))).then u9 (fun k hk h => by have := hvg k h; omega)
            have b9 : BH G9 vf sR := b8.upd u9 (fun k hk h => by have := lg.lt h; have := c8 k hk; omega)
            refine ⟨⟨fun _ => slices_same bo (bo7.new u8) a5, trivial⟩, ?_⟩
            simp only [go_sem]
            (repeat refine W_seq ?_); refine W_regionT [88] ?_
            simp only [go_sem, a9]
            rcases (show sE ≠ 0 ∨ sE = 0 by omega) with he | he
            · have hx : decide (sE = 0) = false := decide_eq_false he
              (repeat refine W_seq ?_); refine W_regionT [] ?_
              simp only [go_sem, hx]
              (repeat refine W_seq ?_)
              refine W_cond (b := true) rfl ?_
              simp only [if_true]
              have hrow9 := uG9.get hrow0 (fun h => h)
              have g9 := get0 (S := [] :: S) hrow9
              obtain ⟨_, sC⟩ := split_app 64 (own.drop nx) _ (own.take nx) (Nat.le_refl _) _ _ _ sB
              obtain ⟨sD, hsR⟩ := sC he
              rw [List.take_append_drop] at sD
              have hE : (splitG own 64).2.2 = sE := by rw [sD]
              have hL : (splitG own 64).1 = L ++ sL := by rw [sD]
              have low9 := low0.new uG9
              rw [hL] at low9
              rw [hE] at g9
              try simp only at hsR
              subst hsR
              (repeat refine W_seq ?_); refine W_regionT [] ?_
              simp only [go_sem, st_a2 g9, st_l2 g9, decide_true, st_a0 g9, st_l0 g9]
              refine AT_call rfl rfl (same49 lg9.lh low9.lh (by simp; omega)) fun v M1 hd1 h1 => ?_
              obtain ⟨hv, hM⟩ := h1; subst hv; subst hM
              simp only [go_sem, decide_true, b9.len, List.length_nil, show ((0 : Nat) : Int) = 0 from rfl]
              refine AT_call rfl rfl (lives02) fun v M1 hd1 h1 => ?_
              obtain ⟨hv, hM⟩ := h1; subst hv; subst hM
              simp only [go_sem]
              exact W_ret ⟨.inr rfl, _, rfl, rfl, rfl⟩
            · have hx : decide (sE = 0) = true := decide_eq_true he
              have he0 := he
              (repeat refine W_seq ?_); refine W_regionT [] ?_
              simp only [go_sem, hx]
              (repeat refine W_seq ?_)
              refine W_cond (b := false) rfl ?_
              simp only [Bool.false_eq_true, if_false]
              refine W_skip ?_
              simp only [go_sem]
              (repeat refine W_seq ?_); refine W_regionT [] ?_
              simp only [go_sem]
              (repeat refine W_seq ?_); refine W_regionT [] ?_
              simp only [go_sem]
              (repeat refine W_seq ?_); refine W_regionT [] ?_
              simp only [go_sem, show (i : Int) + 1 = ((i + 1 : Nat) : Int) from rfl, wrap_i64 (n := ((i + 1 : Nat) : Int)) (by omega) (by omega)]
              refine ⟨9 * (own.length - nx) + (8 - (i + 1) % 9), by omega, _, _, _, _, _, _, _, _, _, _, _, _, _, _, _, _, _, _, _, _, _, _, _, _, _, _, _, _, _, _, _, _, _, _, _, _, _, _, _, _, _, _, _, _, _, _, _, _, _, _, _, _, _, _, _, _, _, _, _, _, _, _, _, _, _, _, _, _, _, _, _, _, _, _, _, _, _, _, _, _, _, _, _, _, _, _, _, _, _, _, _, _, _, _, _, _, _, _, _, _, _, _, _, _, _, _, _, _, _, _, _, _, _, _, _, _, _, _, _, _, _, _, _, _, vg', vf, nx, i + 1, G9, L ++ sL, sR, rfl, rfl, by omega, hnx2, rfl, uG9, lg9, fun k hk => (l9 k hk).elim (hvg k) (fun h => by have := u8.l; omega), b9, ?_⟩
              rw [sB, he0]
          · have h9 : decide (Int.tmod (i : Int) 9 = 8) = false := decide_eq_false (by rw [show Int.tmod (i : Int) 9 = ((i % 9 : Nat) : Int) from (Int.ofNat_tmod i 9).symm]; omega)
            try (obtain ⟨p, hp5, hp⟩ : ∃ p : Nat, (5 : Int) = (p : Int) ∧ p ≤ 13 := ⟨5, rfl, by decide⟩; rw [show AV.int IntKind.i64 5 = AV.int IntKind.i64 (p : Int) by rw [hp5]])
            (repeat refine W_seq ?_); refine W_regionT [] ?_
            simp only [go_sem, bin_rem (b := (9 : Int)) (by decide), h9]
            (repeat refine W_seq ?_)
            refine W_cond (b := false) rfl ?_
            simp only [Bool.false_eq_true, if_false]
            refine W_skip ?_
            simp only [go_sem]
            obtain ⟨p2, hp2, hp2a, hp2b⟩ : ∃ p2 : Nat, (if i % 9 = 8 then max p 1 else p) = p2 ∧ p2 ≤ 13 ∧ (i % 9 = 8 → 1 ≤ p2) := ⟨_, rfl, by split <;> omega, fun h => by rw [if_pos h]; omega⟩
            first
              | rw [if_pos h8] at hp2
              | rw [if_neg h8] at hp2
            rw [hp2]
            obtain ⟨nx, hnx, hnx1, hnx2, hnx3⟩ : ∃ nx : Nat, (if (own.length : Int) < ((at_ + p2 : Nat) : Int) then (own.length : Int) else ((at_ + p2 : Nat) : Int)) = (nx : Int) ∧ at_ ≤ nx ∧ nx ≤ own.length ∧ (1 ≤ p2 → at_ < nx) := ⟨min (at_ + p2) own.length, by split <;> omega, by omega, by omega, by omega⟩
            (repeat refine W_seq ?_); refine W_regionT [] ?_
            simp only [go_sem, bo.len, show IntKind.wrap .i64 ((at_ : Int) + (p2 : Int)) = ((at_ + p2 : Nat) : Int) by rw [wrap_i64 (by omega) (by omega)]; omega, hnx]
            obtain ⟨v5, a5, b5, c5⟩ := bo.cut (S := [] :: S) (lo := some (.int .i64 at_)) (hi := some (.int .i64 nx)) (a := at_) (b := nx) (by simp [onat, natOf]) (by simp [onat, natOf]) (by omega) (by omega)
            (repeat refine W_seq ?_); refine W_regionD [81] [1, 6, 7] [0, 2, 3, 4, 5, 1, 6, 7, 8, 9, 10, 11, 12, 13, 14] [0, 1, 0, 0, 0, 28, 63, 127, 255, 511, 511, 511, 1023, 6143, 16383] mixedM (by kernel_rfl) (by kernel_rfl) (by kernel_rfl) ?_
            simp only [listed, go_sem]
            refine AD_read (v := v5) (fun M' => slices Try.prog 22 vo' (some (.int .i64 at_)) (some (.int .i64 nx)) none M' = some v5) rfl rfl (fun M' h => by rw [opA_slice]; show pureV (slices Try.prog 22 vo' (some (.int .i64 at_)) (some (.int .i64 nx)) none M') M' = _; rw [h]; rfl) (a5) ?_
            simp only [go_sem]
            refine AD_call rfl rfl rfl (giveO (few (n := 200) (br.rb (S := [] :: S)) (by omega))) fun v M1 hd1 h1 => ?_
            obtain ⟨G6, rfl, u6, b6, c6⟩ := h1
            rw [List.take_of_length_le (show r.length ≤ 200 by have := (split_rest (m := 64) (by omega) _ (own.take at_) (Nat.le_refl _)).1; rw [hsp] at this; simp only at this; omega)] at b6
            have hrl : r.length ≤ 64 := by have := (split_rest (m := 64) (by omega) _ (own.take at_) (Nat.le_refl _)).1; rw [hsp] at this; exact this
            have b5' := b5.new u6
            obtain ⟨v7, G7, a7, b7, u7, l7⟩ := b6.append (S := [] :: S) b5' (by simp; omega)
            have u67 : UpdH no G G7 := u6.then u7 (fun k hk h => by have := c6 k h; omega)
            have bo7 := bo.new u67
            refine ⟨⟨fun _ => slices_same bo (bo.new u6) a5, trivial⟩, ?_⟩
            simp only [go_sem]
            refine AD_loud (v := v7) (M' := ⟨G7, [] :: S⟩) rfl (a7) ⟨fun _ => slices_same bo bo7 a5, trivial⟩ ?_
            simp only [go_sem]
            refine AD_call rfl rfl rfl (split47 b7.bh (by simp; omega)) fun v M1 hd1 h1 => ?_
            obtain ⟨G8, vl, vf, rfl, rfl, u8, lo8, hvl, b8, c8⟩ := h1
            have hbuf : r ++ (own.take nx).drop at_ = r ++ (own.take nx).drop at_ := rfl
            have htk : own.take nx = own.take at_ ++ (own.take nx).drop at_ := by
              conv => lhs; rw [← List.take_append_drop at_ (own.take nx)]
              rw [List.take_take, Nat.min_eq_left (by omega)]
            obtain ⟨sA, _⟩ := split_app 64 ((own.take nx).drop at_) _ (own.take at_) (Nat.le_refl _) L r 0 hsp
            have sB := sA rfl
            rw [← htk] at sB
            have hll := (split_rest (m := 64) (by omega) _ (own.take nx) (Nat.le_refl _)).2
            rw [sB] at hll
            simp only [List.length_append, List.length_take] at hll
            generalize splitG (r ++ (own.take nx).drop at_) 64 = sp at lo8 b8 sB hll
            obtain ⟨sL, sR, sE⟩ := sp
            simp only at lo8 b8 sB hll
            have lg8 := (lg.new u67).new u8
            have hG7 := u67.l
            have hG01 := uG1.l
            obtain ⟨vg', G9, a9, lg9, u9, l9⟩ := lg8.cat (S := [] :: S) lo8 (fun k hk => ⟨by show G0.length ≤ k; omega, fun h => by have := lg.lt h; omega⟩) (by omega)
            have uG9 : UpdH no G0 G9 := (((uG1.then u67 (fun _ _ h => h)).then u8 (fun _ _ h => h))).then u9 (fun k hk h => by have := hvg k h; omega)
            have b9 : BH G9 vf sR := b8.upd u9 (fun k hk h => by have := lg.lt h; have := c8 k hk; omega)
            refine ⟨⟨fun _ => slices_same bo (bo7.new u8) a5, trivial⟩, ?_⟩
            simp only [go_sem]
            (repeat refine W_seq ?_); refine W_regionT [88] ?_
            simp only [go_sem, a9]
            rcases (show sE ≠ 0 ∨ sE = 0 by omega) with he | he
            · have hx : decide (sE = 0) = false := decide_eq_false he
              (repeat refine W_seq ?_); refine W_regionT [] ?_
              simp only [go_sem, hx]
              (repeat refine W_seq ?_)
              refine W_cond (b := true) rfl ?_
              simp only [if_true]
              have hrow9 := uG9.get hrow0 (fun h => h)
              have g9 := get0 (S := [] :: S) hrow9
              obtain ⟨_, sC⟩ := split_app 64 (own.drop nx) _ (own.take nx) (Nat.le_refl _) _ _ _ sB
              obtain ⟨sD, hsR⟩ := sC he
              rw [List.take_append_drop] at sD
              have hE : (splitG own 64).2.2 = sE := by rw [sD]
              have hL : (splitG own 64).1 = L ++ sL := by rw [sD]
              have low9 := low0.new uG9
              rw [hL] at low9
              rw [hE] at g9
              try simp only at hsR
              subst hsR
              (repeat refine W_seq ?_); refine W_regionT [] ?_
              simp only [go_sem, st_a2 g9, st_l2 g9, decide_true, st_a0 g9, st_l0 g9]
              refine AT_call rfl rfl (same49 lg9.lh low9.lh (by simp; omega)) fun v M1 hd1 h1 => ?_
              obtain ⟨hv, hM⟩ := h1; subst hv; subst hM
              simp only [go_sem, decide_true, b9.len, List.length_nil, show ((0 : Nat) : Int) = 0 from rfl]
              refine AT_call rfl rfl (lives02) fun v M1 hd1 h1 => ?_
              obtain ⟨hv, hM⟩ := h1; subst hv; subst hM
              simp only [go_sem]
              exact W_ret ⟨.inr rfl, _, rfl, rfl, rfl⟩
            · have hx : decide (sE = 0) = true := decide_eq_true he
              have he0 := he
              (repeat refine W_seq ?_); refine W_regionT [] ?_
              simp only [go_sem, hx]
              (repeat refine W_seq ?_)
              refine W_cond (b := false) rfl ?_
              simp only [Bool.false_eq_true, if_false]
              refine W_skip ?_
              simp only [go_sem]
              (repeat refine W_seq ?_); refine W_regionT [] ?_
              simp only [go_sem]
              (repeat refine W_seq ?_); refine W_regionT [] ?_
              simp only [go_sem]
              (repeat refine W_seq ?_); refine W_regionT [] ?_
              simp only [go_sem, show (i : Int) + 1 = ((i + 1 : Nat) : Int) from rfl, wrap_i64 (n := ((i + 1 : Nat) : Int)) (by omega) (by omega)]
              refine ⟨9 * (own.length - nx) + (8 - (i + 1) % 9), by omega, _, _, _, _, _, _, _, _, _, _, _, _, _, _, _, _, _, _, _, _, _, _, _, _, _, _, _, _, _, _, _, _, _, _, _, _, _, _, _, _, _, _, _, _, _, _, _, _, _, _, _, _, _, _, _, _, _, _, _, _, _, _, _, _, _, _, _, _, _, _, _, _, _, _, _, _, _, _, _, _, _, _, _, _, _, _, _, _, _, _, _, _, _, _, _, _, _, _, _, _, _, _, _, _, _, _, _, _, _, _, _, _, _, _, _, _, _, _, _, _, _, _, _, _, vg', vf, nx, i + 1, G9, L ++ sL, sR, rfl, rfl, by omega, hnx2, rfl, uG9, lg9, fun k hk => (l9 k hk).elim (hvg k) (fun h => by have := u8.l; omega), b9, ?_⟩
              rw [sB, he0]
      · have hat' : own.length = at_ := by simp at hb; omega
        rw [← hat'] at hsp
        (repeat refine W_seq ?_)
        refine W_exit ?_
        simp only [go_sem]
        have g9 := get0 (S := [] :: S) hrow
        rw [List.take_length] at hsp
        have hE : (splitG own 64).2.2 = 0 := by rw [hsp]
        have hL : (splitG own 64).1 = L := by rw [hsp]
        have hR : (splitG own 64).2.1 = r := by rw [hsp]
        have low9 := low0.new uG1
        have bwr9 := bwr0.new uG1
        rw [hL] at low9
        rw [hR] at bwr9
        rw [hE] at g9
        have hLl := (split_rest (m := 64) (by omega) _ own (Nat.le_refl _)).2
        rw [hsp] at hLl
        simp only at hLl
        (repeat refine W_seq ?_); refine W_regionT [] ?_
        simp only [go_sem, st_a2 g9, st_l2 g9, decide_true, st_a0 g9, st_l0 g9]
        refine AT_call rfl rfl (same49 lg.lh low9.lh (by omega)) fun v M1 hd1 h1 => ?_
        obtain ⟨hv, hM⟩ := h1; subst hv; subst hM
        simp only [go_sem, decide_true, br.text, st_a1 g9, st_l1 g9, bwr9.text, beq_self_eq_true]
        refine AT_call rfl rfl (lives02) fun v M1 hd1 h1 => ?_
        obtain ⟨hv, hM⟩ := h1; subst hv; subst hM
        simp only [go_sem]
        exact W_ret ⟨.inr rfl, _, rfl, rfl, rfl⟩
  · have hN' : ¬ (i : Int) < (ws.length : Int) := by omega
    have hlen := len_rd ((hs.new uG).rd (S := [] :: S)) ti58 rfl
    (repeat refine W_seq ?_); refine W_regionT [] ?_
    simp only [go_sem, hlen, hN', decide_true, decide_false]
    (repeat refine W_seq ?_)
    refine W_cond (b := false) rfl ?_
    simp only [Bool.false_eq_true, if_false]
    (repeat refine W_seq ?_)
    refine W_exit ?_
    simp only [go_sem]
    (repeat refine W_seq ?_); refine W_regionT [43] ?_
    simp only [go_sem]
    refine AT_call rfl rfl (give (few (n := 9) ((ht.new uG).rb (S := [] :: S)) (by omega))) fun v M1 hd1 h1 => ?_
    obtain ⟨G1, rfl, u1, b1, c1⟩ := h1
    have hfl : (tl.take 9).length ≤ 9 := by simp; omega
    generalize tl.take 9 = fw at b1 hfl
    obtain ⟨vo', G3, a3, bo3, u3, l3⟩ := (bo.new u1).append (S := [] :: S) b1 (by omega)
    have uG3 : UpdH no H G3 := (uG.then u1 (fun _ _ h => h)).then u3 (fun k hk h => by have := hvo k h; omega)
    have hol : (l ++ fw).length ≤ 200 := by simp; omega
    generalize l ++ fw = own at bo3 hol
    simp only [go_sem, a3]
    (repeat refine W_seq ?_); refine W_regionT [9] ?_
    simp only [go_sem]
    refine AT_call rfl rfl (split48 bo3.bh (by omega)) fun v M1 hd1 h1 => ?_
    obtain ⟨Hw, wo, wr, rfl, rfl, uw, low, lwo, bwr, cwr⟩ := h1
    have hz0 : (Hw ++ [Block.row ⟨63, 3, [.nilsl, .nilsl, .int .i64 0], false, false⟩])[Hw.length]? = some (.row ⟨63, 3, [.nilsl, .nilsl, .int .i64 0], false, false⟩) := by simp
    have stA := st_all (S := [] :: S) hz0 low.st.1 bwr.one.1 (e' := (splitG own 64).2.2)
    simp only [go_sem, alloc_agg (P := Try.prog) (hp := true) (M := ⟨Hw, [] :: S⟩) ti63 rfl rfl rfl (by decide), stA]
    have u7 : UpdH no Hw ((Hw ++ [Block.row ⟨63, 3, [.nilsl, .nilsl, .int .i64 0], false, false⟩]).set Hw.length (.row ⟨63, 3, [wo, wr, .int .i64 (splitG own 64).2.2], false, false⟩)) := (UpdH.push (p := no)).then UpdH.set (fun k hk h => by omega)
    have hrow0 : ((Hw ++ [Block.row ⟨63, 3, [.nilsl, .nilsl, .int .i64 0], false, false⟩]).set Hw.length (.row ⟨63, 3, [wo, wr, .int .i64 (splitG own 64).2.2], false, false⟩))[Hw.length]? = some (.row ⟨63, 3, [wo, wr, .int .i64 (splitG own 64).2.2], false, false⟩) := List.getElem?_set_self (by simp)
    generalize (Hw ++ [Block.row ⟨63, 3, [.nilsl, .nilsl, .int .i64 0], false, false⟩]).set Hw.length (.row ⟨63, 3, [wo, wr, .int .i64 (splitG own 64).2.2], false, false⟩) = G0 at u7 hrow0
    have uG0 : UpdH no H G0 := (uG3.then uw (fun _ _ h => h)).then u7 (fun _ _ h => h)
    have bo0 : BH G0 vo' own := (bo3.bh.new uw).new u7
    have low0 := low.new u7
    have bwr0 := bwr.new u7
    have hG0 := (List.getElem?_eq_some_iff.1 hrow0).1
    generalize Hw.length = iw at hrow0 hG0
    clear u7 bwr low uw stA hz0
    (repeat refine W_seq ?_); refine W_regionT [] ?_
    simp only [go_sem]
    (repeat refine W_seq ?_); refine W_regionT [] ?_
    simp only [go_sem]
    (repeat refine W_seq ?_); refine W_regionT [] ?_
    simp only [go_sem]
    (repeat refine W_seq ?_); refine W_regionT [] ?_
    simp only [go_sem]
    (repeat refine W_seq ?_)
    refine W_block (W_loop (L_inv (fun j2 env M' => ∃ (y0 y1 y3 y4 y5 y6 y8 y14 y15 y16 y17 y18 y19 y20 y21 y22 y23 y24 y25 y26 y27 y28 y29 y30 y31 y32 y33 y34 y35 y36 y37 y38 y39 y40 y41 y42 y43 y44 y45 y46 y47 y48 y49 y50 y51 y52 y53 y54 y55 y56 y57 y58 y59 y60 y61 y62 y63 y64 y65 y66 y67 y68 y69 y70 y71 y72 y73 y74 y75 y76 y77 y78 y79 y80 y81 y82 y83 y84 y85 y86 y87 y88 y89 y90 y91 y92 y93 y94 y95 y96 y97 y98 y99 y100 y101 y102 y103 y104 y105 y106 y107 y108 y109 y110 y111 y112 y113 y114 y115 y116 y117 y118 y119 y120 y121 y122 y123 y124 y125 y126 y127 y128 y129 y130 : AV) (vg vr : AV) (at_ i : Nat) (G' : List Block) (L : List (List UInt8)) (r : List UInt8), env = [y0, y1, vz, y3, y4, y5, y6, vo', y8, .ptr ⟨0, iw, 0⟩, vg, vr, .int .i64 at_, .int .i64 i, y14, y15, y16, y17, y18, y19, y20, y21, y22, y23, y24, y25, y26, y27, y28, y29, y30, y31, y32, y33, y34, y35, y36, y37, y38, y39, y40, y41, y42, y43, y44, y45, y46, y47, y48, y49, y50, y51, y52, y53, y54, y55, y56, y57, y58, y59, y60, y61, y62, y63, y64, y65, y66, y67, y68, y69, y70, y71, y72, y73, y74, y75, y76, y77, y78, y79, y80, y81, y82, y83, y84, y85, y86, y87, y88, y89, y90, y91, y92, y93, y94, y95, y96, y97, y98, y99, y100, y101, y102, y103, y104, y105, y106, y107, y108, y109, y110, y111, y112, y113, y114, y115, y116, y117, y118, y119, y120, y121, y122, y123, y124, y125, y126, y127, y128, y129, y130] ∧ 9 * (own.length - at_) + (8 - i % 9) = j2 ∧ i + j2 ≤ 9 * own.length + 8 ∧ at_ ≤ own.length ∧ M' = ⟨G', [] :: S⟩ ∧ UpdH no G0 G' ∧ LO G' (G0.length ≤ ·) vg L ∧ (∀ k, vg.loc k → G0.length ≤ k) ∧ BH G' vr r ∧ splitG (own.take at_) 64 = (L, r, 0)) (fun j2 env M2 => ?_) (9 * own.length + 8) ?_))
    case refine_2 => exact ⟨_, _, _, _, _, _, _, _, _, _, _, _, _, _, _, _, _, _, _, _, _, _, _, _, _, _, _, _, _, _, _, _, _, _, _, _, _, _, _, _, _, _, _, _, _, _, _, _, _, _, _, _, _, _, _, _, _, _, _, _, _, _, _, _, _, _, _, _, _, _, _, _, _, _, _, _, _, _, _, _, _, _, _, _, _, _, _, _, _, _, _, _, _, _, _, _, _, _, _, _, _, _, _, _, _, _, _, _, _, _, _, _, _, _, _, _, _, _, _, _, _, _, _, _, .nilsl, .nilsl, 0, 0, G0, [], [], rfl, by omega, by omega, Nat.zero_le _, rfl, UpdH.refl, LO.nil, fun k hk => hk.elim, BH.nil, by rw [List.take_zero, sp_short (by simp)]⟩
    refine exE fun y0 => exE fun y1 => exE fun y3 => exE fun y4 => exE fun y5 => exE fun y6 => exE fun y8 => exE fun y14 => exE fun y15 => exE fun y16 => exE fun y17 => exE fun y18 => exE fun y19 => exE fun y20 => exE fun y21 => exE fun y22 => exE fun y23 => exE fun y24 => exE fun y25 => exE fun y26 => exE fun y27 => exE fun y28 => exE fun y29 => exE fun y30 => exE fun y31 => exE fun y32 => exE fun y33 => exE fun y34 => exE fun y35 => exE fun y36 => exE fun y37 => exE fun y38 => exE fun y39 => exE fun y40 => exE fun y41 => exE fun y42 => exE fun y43 => exE fun y44 => exE fun y45 => exE fun y46 => exE fun y47 => exE fun y48 => exE fun y49 => exE fun y50 => exE fun y51 => exE fun y52 => exE fun y53 => exE fun y54 => exE fun y55 => exE fun y56 => exE fun y57 => exE fun y58 => exE fun y59 => exE fun y60 => exE fun y61 => exE fun y62 => exE fun y63 => exE fun y64 => exE fun y65 => exE fun y66 => exE fun y67 => exE fun y68 => exE fun y69 => exE fun y70 => exE fun y71 => exE fun y72 => exE fun y73 => exE fun y74 => exE fun y75 => exE fun y76 => exE fun y77 => exE fun y78 => exE fun y79 => exE fun y80 => exE fun y81 => exE fun y82 => exE fun y83 => exE fun y84 => exE fun y85 => exE fun y86 => exE fun y87 => exE fun y88 => exE fun y89 => exE fun y90 => exE fun y91 => exE fun y92 => exE fun y93 => exE fun y94 => exE fun y95 => exE fun y96 => exE fun y97 => exE fun y98 => exE fun y99 => exE fun y100 => exE fun y101 => exE fun y102 => exE fun y103 => exE fun y104 => exE fun y105 => exE fun y106 => exE fun y107 => exE fun y108 => exE fun y109 => exE fun y110 => exE fun y111 => exE fun y112 => exE fun y113 => exE fun y114 => exE fun y115 => exE fun y116 => exE fun y117 => exE fun y118 => exE fun y119 => exE fun y120 => exE fun y121 => exE fun y122 => exE fun y123 => exE fun y124 => exE fun y125 => exE fun y126 => exE fun y127 => exE fun y128 => exE fun y129 => exE fun y130 => ?_
    rintro ⟨vg, vr, at_, i, G, L, r, rfl, hj2, hij2, hat, rfl, uG1, lg, hvg, br, hsp⟩
    have bo := bo0.new uG1
    have hrow := uG1.get hrow0 (fun h => h)
    have uGH := uG0.then uG1 (fun _ _ h => h)
    (repeat refine W_seq ?_); refine W_regionT [] ?_
    simp only [go_sem, bo.len]
    (repeat refine W_seq ?_)
    refine W_cond_if rfl (fun hb => ?_) (fun hb => ?_)
    · have hat' : at_ < own.length := by simpa using hb
      refine W_skip ?_
      simp only [go_sem]
      (repeat refine W_seq ?_)
      refine W_block ?_
      (repeat refine W_seq ?_); refine W_regionT [] ?_
      simp only [go_sem]
      by_cases hz0 : 0 < zs.length
      · have hzl := len_rd ((hz.new uGH).rd (S := [] :: S)) ti59 rfl
        have hz0' : (0 : Int) < (zs.length : Int) := by omega
        (repeat refine W_seq ?_); refine W_regionT [] ?_
        simp only [go_sem, hzl, hz0', decide_true, decide_false]
        (repeat refine W_seq ?_)
        refine W_cond (b := true) rfl ?_
        simp only [if_true]
        have him : i % zs.length < zs.length := Nat.mod_lt _ hz0
        have a59 := at59 (S := [] :: S) (hz.new uGH) him
        have hzz := hzr _ (List.getElem_mem him)
        (repeat refine W_seq ?_); refine W_regionT [] ?_
        simp only [go_sem, hzl, bin_rem (b := (zs.length : Int)) (by omega), (Int.ofNat_tmod i zs.length).symm, a59.1, a59.2]
        refine AT_call rfl rfl (aroundF hzz.1 hzz.2 (by decide)) fun v M1 hd1 h1 => ?_
        obtain ⟨hv, hM⟩ := h1
        have hpr := around_range (n := zs[i % zs.length]) (k := 13) (by decide)
        generalize around zs[i % zs.length] 13 = rp at hv hpr
        obtain ⟨p, rfl⟩ : ∃ n : Nat, rp = n := ⟨rp.toNat, by omega⟩
        have hp : p ≤ 13 := by omega
        subst hv; subst hM
        simp only [go_sem]
        by_cases h8 : i % 9 = 8
        · have h9 : decide (Int.tmod (i : Int) 9 = 8) = true := decide_eq_true (by rw [show Int.tmod (i : Int) 9 = ((i % 9 : Nat) : Int) from (Int.ofNat_tmod i 9).symm]; omega)
          try (obtain ⟨p, hp5, hp⟩ : ∃ p : Nat, (5 : Int) = (p : Int) ∧ p ≤ 13 := ⟨5, rfl, by decide⟩; rw [show AV.int IntKind.i64 5 = AV.int IntKind.i64 (p : Int) by rw [hp5]])
          (repeat refine W_seq ?_); refine W_regionT [] ?_
          simp only [go_sem, bin_rem (b := (9 : Int)) (by decide), h9]
          (repeat refine W_seq ?_)
          refine W_cond (b := true) rfl ?_
          simp only [if_true]
          have hmax : (if (1 : Int) > (p : Int) then (1 : Int) else (p : Int)) = ((max p 1 : Nat) : Int) := by split <;> omega
          (repeat refine W_seq ?_); refine W_regionT [] ?_
          simp only [go_sem, hmax]
          obtain ⟨p2, hp2, hp2a, hp2b⟩ : ∃ p2 : Nat, (if i % 9 = 8 then max p 1 else p) = p2 ∧ p2 ≤ 13 ∧ (i % 9 = 8 → 1 ≤ p2) := ⟨_, rfl, by split <;> omega, fun h => by rw [if_pos h]; omega⟩
          first
            | rw [if_pos h8] at hp2
            | rw [if_neg h8] at hp2
          rw [hp2]
          obtain ⟨nx, hnx, hnx1, hnx2, hnx3⟩ : ∃ nx : Nat, (if (own.length : Int) < ((at_ + p2 : Nat) : Int) then (own.length : Int) else ((at_ + p2 : Nat) : Int)) = (nx : Int) ∧ at_ ≤ nx ∧ nx ≤ own.length ∧ (1 ≤ p2 → at_ < nx) := ⟨min (at_ + p2) own.length, by split <;> omega, by omega, by omega, by omega⟩
          (repeat refine W_seq ?_); refine W_regionT [] ?_
          simp only [go_sem, bo.len, show IntKind.wrap .i64 ((at_ : Int) + (p2 : Int)) = ((at_ + p2 : Nat) : Int) by rw [wrap_i64 (by omega) (by omega)]; omega, hnx]
          obtain ⟨v5, a5, b5, c5⟩ := bo.cut (S := [] :: S) (lo := some (.int .i64 at_)) (hi := some (.int .i64 nx)) (a := at_) (b := nx) (by simp [onat, natOf]) (by simp [onat, natOf]) (by omega) (by omega)
          (repeat refine W_seq ?_); refine W_regionD [81] [1, 6, 7] [0, 2, 3, 4, 5, 1, 6, 7, 8, 9, 10, 11, 12, 13, 14] [0, 1, 0, 0, 0, 28, 63, 127, 255, 511, 511, 511, 1023, 6143, 16383] mixedM (by kernel_rfl) (by kernel_rfl) (by kernel_rfl) ?_
          simp only [listed, go_sem]
          refine AD_read (v := v5) (fun M' => slices Try.prog 22 vo' (some (.int .i64 at_)) (some (.int .i64 nx)) none M' = some v5) rfl rfl (fun M' h => by rw [opA_slice]; show pureV (slices Try.prog 22 vo' (some (.int .i64 at_)) (some (.int .i64 nx)) none M') M' = _; rw [h]; rfl) (a5) ?_
          simp only [go_sem]
          refine AD_call rfl rfl rfl (giveO (few (n := 200) (br.rb (S := [] :: S)) (by omega))) fun v M1 hd1 h1 => ?_
          obtain ⟨G6, rfl, u6, b6, c6⟩ := h1
          rw [List.take_of_length_le (show r.length ≤ 200 by have := (split_rest (m := 64) (by omega) _ (own.take at_) (Nat.le_refl _)).1; rw [hsp] at this; simp only at this; omega)] at b6
          have hrl : r.length ≤ 64 := by have := (split_rest (m := 64) (by omega) _ (own.take at_) (Nat.le_refl _)).1; rw [hsp] at this; exact this
          have b5' := b5.new u6
          obtain ⟨v7, G7, a7, b7, u7, l7⟩ := b6.append (S := [] :: S) b5' (by simp; omega)
          have u67 : UpdH no G G7 := u6.then u7 (fun k hk h => by have := c6 k h; omega)
          have bo7 := bo.new u67
          refine ⟨⟨fun _ => slices_same bo (bo.new u6) a5, trivial⟩, ?_⟩
          simp only [go_sem]
          refine AD_loud (v := v7) (M' := ⟨G7, [] :: S⟩) rfl (a7) ⟨fun _ => slices_same bo bo7 a5, trivial⟩ ?_
          simp only [go_sem]
          refine AD_call rfl rfl rfl (split47 b7.bh (by simp; omega)) fun v M1 hd1 h1 => ?_
          obtain ⟨G8, vl, vf, rfl, rfl, u8, lo8, hvl, b8, c8⟩ := h1
          have hbuf : r ++ (own.take nx).drop at_ = r ++ (own.take nx).drop at_ := rfl
          have htk : own.take nx = own.take at_ ++ (own.take nx).drop at_ := by
            conv => lhs; rw [← List.take_append_drop at_ (own.take nx)]
            rw [List.take_take, Nat.min_eq_left (by omega)]
          obtain ⟨sA, _⟩ := split_app 64 ((own.take nx).drop at_) _ (own.take at_) (Nat.le_refl _) L r 0 hsp
          have sB := sA rfl
          rw [← htk] at sB
          have hll := (split_rest (m := 64) (by omega) _ (own.take nx) (Nat.le_refl _)).2
          rw [sB] at hll
          simp only [List.length_append, List.length_take] at hll
          generalize splitG (r ++ (own.take nx).drop at_) 64 = sp at lo8 b8 sB hll
          obtain ⟨sL, sR, sE⟩ := sp
          simp only at lo8 b8 sB hll
          have lg8 := (lg.new u67).new u8
          have hG7 := u67.l
          have hG01 := uG1.l
          obtain ⟨vg', G9, a9, lg9, u9, l9⟩ := lg8.cat (S := [] :: S) lo8 (fun k hk => ⟨by show G0.length ≤ k; omega, fun h => by have := lg.lt h; omega⟩) (by omega)
          have uG9 : UpdH no G0 G9 := (((uG1.then u67 (fun _ _ h => h)).then u8 (fun _ _ h => h))).then u9 (fun k hk h => by have := hvg k h; omega)
          have b9 : BH G9 vf sR := b8.upd u9 (fun k hk h => by have := lg.lt h; have := c8 k hk; omega)
          refine ⟨⟨fun _ => slices_same bo (bo7.new u8) a5, trivial⟩, ?_⟩
          simp only [go_sem]
          (repeat refine W_seq ?_); refine W_regionT [88] ?_
          simp only [go_sem, a9]
          rcases (show sE ≠ 0 ∨ sE = 0 by omega) with he | he
          · have hx : decide (sE = 0) = false := decide_eq_false he
            (repeat refine W_seq ?_); refine W_regionT [] ?_
            simp only [go_sem, hx]
            (repeat refine W_seq ?_)
            refine W_cond (b := true) rfl ?_
            simp only [if_true]
            have hrow9 := uG9.get hrow0 (fun h => h)
            have g9 := get0 (S := [] :: S) hrow9
            obtain ⟨_, sC⟩ := split_app 64 (own.drop nx) _ (own.take nx) (Nat.le_refl _) _ _ _ sB
            obtain ⟨sD, hsR⟩ := sC he
            rw [List.take_append_drop] at sD
            have hE : (splitG own 64).2.2 = sE := by rw [sD]
            have hL : (splitG own 64).1 = L ++ sL := by rw [sD]
            have low9 := low0.new uG9
            rw [hL] at low9
            rw [hE] at g9
            try simp only at hsR
            subst hsR
            (repeat refine W_seq ?_); refine W_regionT [] ?_
            simp only [go_sem, st_a2 g9, st_l2 g9, decide_true, st_a0 g9, st_l0 g9]
            refine AT_call rfl rfl (same49 lg9.lh low9.lh (by simp; omega)) fun v M1 hd1 h1 => ?_
            obtain ⟨hv, hM⟩ := h1; subst hv; subst hM
            simp only [go_sem, decide_true, b9.len, List.length_nil, show ((0 : Nat) : Int) = 0 from rfl]
            refine AT_call rfl rfl (lives02) fun v M1 hd1 h1 => ?_
            obtain ⟨hv, hM⟩ := h1; subst hv; subst hM
            simp only [go_sem]
            exact W_ret ⟨.inr rfl, _, rfl, rfl, rfl⟩
          · have hx : decide (sE = 0) = true := decide_eq_true he
            have he0 := he
            (repeat refine W_seq ?_); refine W_regionT [] ?_
            simp only [go_sem, hx]
            (repeat refine W_seq ?_)
            refine W_cond (b := false) rfl ?_
            simp only [Bool.false_eq_true, if_false]
            refine W_skip ?_
            simp only [go_sem]
            (repeat refine W_seq ?_); refine W_regionT [] ?_
            simp only [go_sem]
            (repeat refine W_seq ?_); refine W_regionT [] ?_
            simp only [go_sem]
            (repeat refine W_seq ?_); refine W_regionT [] ?_
            simp only [go_sem, show (i : Int) + 1 = ((i + 1 : Nat) : Int) from rfl, wrap_i64 (n := ((i + 1 : Nat) : Int)) (by omega) (by omega)]
            refine ⟨9 * (own.length - nx) + (8 - (i + 1) % 9), by omega, _, _, _, _, _, _, _, _, _, _, _, _, _, _, _, _, _, _, _, _, _, _, _, _, _, _, _, _, _, _, _, _, _, _, _, _, _, _, _, _, _, _, _, _, _, _, _, _, _, _, _, _, _, _, _, _, _, _, _, _, _, _, _, _, _, _, _, _, _, _, _, _, _, _, _, _, _, _, _, _, _, _, _, _, _, _, _, _, _, _, _, _, _, _, _, _, _, _, _, _, _, _, _, _, _, _, _, _, _, _, _, _, _, _, _, _, _, _, _, _, _, _, _, _, vg', vf, nx, i + 1, G9, L ++ sL, sR, rfl, rfl, by omega, hnx2, rfl, uG9, lg9, fun k hk => (l9 k hk).elim (hvg k) (fun h => by have := u8.l; omega), b9, ?_⟩
            rw [sB, he0]
        · have h9 : decide (Int.tmod (i : Int) 9 = 8) = false := decide_eq_false (by rw [show Int.tmod (i : Int) 9 = ((i % 9 : Nat) : Int) from (Int.ofNat_tmod i 9).symm]; omega)
          try (obtain ⟨p, hp5, hp⟩ : ∃ p : Nat, (5 : Int) = (p : Int) ∧ p ≤ 13 := ⟨5, rfl, by decide⟩; rw [show AV.int IntKind.i64 5 = AV.int IntKind.i64 (p : Int) by rw [hp5]])
          (repeat refine W_seq ?_); refine W_regionT [] ?_
          simp only [go_sem, bin_rem (b := (9 : Int)) (by decide), h9]
          (repeat refine W_seq ?_)
          refine W_cond (b := false) rfl ?_
          simp only [Bool.false_eq_true, if_false]
          refine W_skip ?_
          simp only [go_sem]
          obtain ⟨p2, hp2, hp2a, hp2b⟩ : ∃ p2 : Nat, (if i % 9 = 8 then max p 1 else p) = p2 ∧ p2 ≤ 13 ∧ (i % 9 = 8 → 1 ≤ p2) := ⟨_, rfl, by split <;> omega, fun h => by rw [if_pos h]; omega⟩
          first
            | rw [if_pos h8] at hp2
            | rw [if_neg h8] at hp2
          rw [hp2]
          obtain ⟨nx, hnx, hnx1, hnx2, hnx3⟩ : ∃ nx : Nat, (if (own.length : Int) < ((at_ + p2 : Nat) : Int) then (own.length : Int) else ((at_ + p2 : Nat) : Int)) = (nx : Int) ∧ at_ ≤ nx ∧ nx ≤ own.length ∧ (1 ≤ p2 → at_ < nx) := ⟨min (at_ + p2) own.length, by split <;> omega, by omega, by omega, by omega⟩
          (repeat refine W_seq ?_); refine W_regionT [] ?_
          simp only [go_sem, bo.len, show IntKind.wrap .i64 ((at_ : Int) + (p2 : Int)) = ((at_ + p2 : Nat) : Int) by rw [wrap_i64 (by omega) (by omega)]; omega, hnx]
          obtain ⟨v5, a5, b5, c5⟩ := bo.cut (S := [] :: S) (lo := some (.int .i64 at_)) (hi := some (.int .i64 nx)) (a := at_) (b := nx) (by simp [onat, natOf]) (by simp [onat, natOf]) (by omega) (by omega)
          (repeat refine W_seq ?_); refine W_regionD [81] [1, 6, 7] [0, 2, 3, 4, 5, 1, 6, 7, 8, 9, 10, 11, 12, 13, 14] [0, 1, 0, 0, 0, 28, 63, 127, 255, 511, 511, 511, 1023, 6143, 16383] mixedM (by kernel_rfl) (by kernel_rfl) (by kernel_rfl) ?_
          simp only [listed, go_sem]
          refine AD_read (v := v5) (fun M' => slices Try.prog 22 vo' (some (.int .i64 at_)) (some (.int .i64 nx)) none M' = some v5) rfl rfl (fun M' h => by rw [opA_slice]; show pureV (slices Try.prog 22 vo' (some (.int .i64 at_)) (some (.int .i64 nx)) none M') M' = _; rw [h]; rfl) (a5) ?_
          simp only [go_sem]
          refine AD_call rfl rfl rfl (giveO (few (n := 200) (br.rb (S := [] :: S)) (by omega))) fun v M1 hd1 h1 => ?_
          obtain ⟨G6, rfl, u6, b6, c6⟩ := h1
          rw [List.take_of_length_le (show r.length ≤ 200 by have := (split_rest (m := 64) (by omega) _ (own.take at_) (Nat.le_refl _)).1; rw [hsp] at this; simp only at this; omega)] at b6
          have hrl : r.length ≤ 64 := by have := (split_rest (m := 64) (by omega) _ (own.take at_) (Nat.le_refl _)).1; rw [hsp] at this; exact this
          have b5' := b5.new u6
          obtain ⟨v7, G7, a7, b7, u7, l7⟩ := b6.append (S := [] :: S) b5' (by simp; omega)
          have u67 : UpdH no G G7 := u6.then u7 (fun k hk h => by have := c6 k h; omega)
          have bo7 := bo.new u67
          refine ⟨⟨fun _ => slices_same bo (bo.new u6) a5, trivial⟩, ?_⟩
          simp only [go_sem]
          refine AD_loud (v := v7) (M' := ⟨G7, [] :: S⟩) rfl (a7) ⟨fun _ => slices_same bo bo7 a5, trivial⟩ ?_
          simp only [go_sem]
          refine AD_call rfl rfl rfl (split47 b7.bh (by simp; omega)) fun v M1 hd1 h1 => ?_
          obtain ⟨G8, vl, vf, rfl, rfl, u8, lo8, hvl, b8, c8⟩ := h1
          have hbuf : r ++ (own.take nx).drop at_ = r ++ (own.take nx).drop at_ := rfl
          have htk : own.take nx = own.take at_ ++ (own.take nx).drop at_ := by
            conv => lhs; rw [← List.take_append_drop at_ (own.take nx)]
            rw [List.take_take, Nat.min_eq_left (by omega)]
          obtain ⟨sA, _⟩ := split_app 64 ((own.take nx).drop at_) _ (own.take at_) (Nat.le_refl _) L r 0 hsp
          have sB := sA rfl
          rw [← htk] at sB
          have hll := (split_rest (m := 64) (by omega) _ (own.take nx) (Nat.le_refl _)).2
          rw [sB] at hll
          simp only [List.length_append, List.length_take] at hll
          generalize splitG (r ++ (own.take nx).drop at_) 64 = sp at lo8 b8 sB hll
          obtain ⟨sL, sR, sE⟩ := sp
          simp only at lo8 b8 sB hll
          have lg8 := (lg.new u67).new u8
          have hG7 := u67.l
          have hG01 := uG1.l
          obtain ⟨vg', G9, a9, lg9, u9, l9⟩ := lg8.cat (S := [] :: S) lo8 (fun k hk => ⟨by show G0.length ≤ k; omega, fun h => by have := lg.lt h; omega⟩) (by omega)
          have uG9 : UpdH no G0 G9 := (((uG1.then u67 (fun _ _ h => h)).then u8 (fun _ _ h => h))).then u9 (fun k hk h => by have := hvg k h; omega)
          have b9 : BH G9 vf sR := b8.upd u9 (fun k hk h => by have := lg.lt h; have := c8 k hk; omega)
          refine ⟨⟨fun _ => slices_same bo (bo7.new u8) a5, trivial⟩, ?_⟩
          simp only [go_sem]
          (repeat refine W_seq ?_); refine W_regionT [88] ?_
          simp only [go_sem, a9]
          rcases (show sE ≠ 0 ∨ sE = 0 by omega) with he | he
          · have hx : decide (sE = 0) = false := decide_eq_false he
            (repeat refine W_seq ?_); refine W_regionT [] ?_
            simp only [go_sem, hx]
            (repeat refine W_seq ?_)
            refine W_cond (b := true) rfl ?_
            simp only [if_true]
            have hrow9 := uG9.get hrow0 (fun h => h)
            have g9 := get0 (S := [] :: S) hrow9
            obtain ⟨_, sC⟩ := split_app 64 (own.drop nx) _ (own.take nx) (Nat.le_refl _) _ _ _ sB
            obtain ⟨sD, hsR⟩ := sC he
            rw [List.take_append_drop] at sD
            have hE : (splitG own 64).2.2 = sE := by rw [sD]
            have hL : (splitG own 64).1 = L ++ sL := by rw [sD]
            have low9 := low0.new uG9
            rw [hL] at low9
            rw [hE] at g9
            try simp only at hsR
            subst hsR
            (repeat refine W_seq ?_); refine W_regionT [] ?_
            simp only [go_sem, st_a2 g9, st_l2 g9, decide_true, st_a0 g9, st_l0 g9]
            refine AT_call rfl rfl (same49 lg9.lh low9.lh (by simp; omega)) fun v M1 hd1 h1 => ?_
            obtain ⟨hv, hM⟩ := h1; subst hv; subst hM
            simp only [go_sem, decide_true, b9.len, List.length_nil, show ((0 : Nat) : Int) = 0 from rfl]
            refine AT_call rfl rfl (lives02) fun v M1 hd1 h1 => ?_
            obtain ⟨hv, hM⟩ := h1; subst hv; subst hM
            simp only [go_sem]
            exact W_ret ⟨.inr rfl, _, rfl, rfl, rfl⟩
          · have hx : decide (sE = 0) = true := decide_eq_true he
            have he0 := he
            (repeat refine W_seq ?_); refine W_regionT [] ?_
            simp only [go_sem, hx]
            (repeat refine W_seq ?_)
            refine W_cond (b := false) rfl ?_
            simp only [Bool.false_eq_true, if_false]
            refine W_skip ?_
            simp only [go_sem]
            (repeat refine W_seq ?_); refine W_regionT [] ?_
            simp only [go_sem]
            (repeat refine W_seq ?_); refine W_regionT [] ?_
            simp only [go_sem]
            (repeat refine W_seq ?_); refine W_regionT [] ?_
            simp only [go_sem, show (i : Int) + 1 = ((i + 1 : Nat) : Int) from rfl, wrap_i64 (n := ((i + 1 : Nat) : Int)) (by omega) (by omega)]
            refine ⟨9 * (own.length - nx) + (8 - (i + 1) % 9), by omega, _, _, _, _, _, _, _, _, _, _, _, _, _, _, _, _, _, _, _, _, _, _, _, _, _, _, _, _, _, _, _, _, _, _, _, _, _, _, _, _, _, _, _, _, _, _, _, _, _, _, _, _, _, _, _, _, _, _, _, _, _, _, _, _, _, _, _, _, _, _, _, _, _, _, _, _, _, _, _, _, _, _, _, _, _, _, _, _, _, _, _, _, _, _, _, _, _, _, _, _, _, _, _, _, _, _, _, _, _, _, _, _, _, _, _, _, _, _, _, _, _, _, _, _, vg', vf, nx, i + 1, G9, L ++ sL, sR, rfl, rfl, by omega, hnx2, rfl, uG9, lg9, fun k hk => (l9 k hk).elim (hvg k) (fun h => by have := u8.l; omega), b9, ?_⟩
            rw [sB, he0]
      · have hzl := len_rd ((hz.new uGH).rd (S := [] :: S)) ti59 rfl
        have hz0' : ¬ (0 : Int) < (zs.length : Int) := by omega
        (repeat refine W_seq ?_); refine W_regionT [] ?_
        simp only [go_sem, hzl, hz0', decide_true, decide_false]
        (repeat refine W_seq ?_)
        refine W_cond (b := false) rfl ?_
        simp only [Bool.false_eq_true, if_false]
        refine W_skip ?_
        simp only [go_sem]
        by_cases h8 : i % 9 = 8
        · have h9 : decide (Int.tmod (i : Int) 9 = 8) = true := decide_eq_true (by rw [show Int.tmod (i : Int) 9 = ((i % 9 : Nat) : Int) from (Int.ofNat_tmod i 9).symm]; omega)
          try (obtain ⟨p, hp5, hp⟩ : ∃ p : Nat, (5 : Int) = (p : Int) ∧ p ≤ 13 := ⟨5, rfl, by decide⟩; rw [show AV.int IntKind.i64 5 = AV.int IntKind.i64 (p : Int) by rw [hp5]])
          (repeat refine W_seq ?_); refine W_regionT [] ?_
          simp only [go_sem, bin_rem (b := (9 : Int)) (by decide), h9]
          (repeat refine W_seq ?_)
          refine W_cond (b := true) rfl ?_
          simp only [if_true]
          have hmax : (if (1 : Int) > (p : Int) then (1 : Int) else (p : Int)) = ((max p 1 : Nat) : Int) := by split <;> omega
          (repeat refine W_seq ?_); refine W_regionT [] ?_
          simp only [go_sem, hmax]
          obtain ⟨p2, hp2, hp2a, hp2b⟩ : ∃ p2 : Nat, (if i % 9 = 8 then max p 1 else p) = p2 ∧ p2 ≤ 13 ∧ (i % 9 = 8 → 1 ≤ p2) := ⟨_, rfl, by split <;> omega, fun h => by rw [if_pos h]; omega⟩
          first
            | rw [if_pos h8] at hp2
            | rw [if_neg h8] at hp2
          rw [hp2]
          obtain ⟨nx, hnx, hnx1, hnx2, hnx3⟩ : ∃ nx : Nat, (if (own.length : Int) < ((at_ + p2 : Nat) : Int) then (own.length : Int) else ((at_ + p2 : Nat) : Int)) = (nx : Int) ∧ at_ ≤ nx ∧ nx ≤ own.length ∧ (1 ≤ p2 → at_ < nx) := ⟨min (at_ + p2) own.length, by split <;> omega, by omega, by omega, by omega⟩
          (repeat refine W_seq ?_); refine W_regionT [] ?_
          simp only [go_sem, bo.len, show IntKind.wrap .i64 ((at_ : Int) + (p2 : Int)) = ((at_ + p2 : Nat) : Int) by rw [wrap_i64 (by omega) (by omega)]; omega, hnx]
          obtain ⟨v5, a5, b5, c5⟩ := bo.cut (S := [] :: S) (lo := some (.int .i64 at_)) (hi := some (.int .i64 nx)) (a := at_) (b := nx) (by simp [onat, natOf]) (by simp [onat, natOf]) (by omega) (by omega)
          (repeat refine W_seq ?_); refine W_regionD [81] [1, 6, 7] [0, 2, 3, 4, 5, 1, 6, 7, 8, 9, 10, 11, 12, 13, 14] [0, 1, 0, 0, 0, 28, 63, 127, 255, 511, 511, 511, 1023, 6143, 16383] mixedM (by kernel_rfl) (by kernel_rfl) (by kernel_rfl) ?_
          simp only [listed, go_sem]
          refine AD_read (v := v5) (fun M' => slices Try.prog 22 vo' (some (.int .i64 at_)) (some (.int .i64 nx)) none M' = some v5) rfl rfl (fun M' h => by rw [opA_slice]; show pureV (slices Try.prog 22 vo' (some (.int .i64 at_)) (some (.int .i64 nx)) none M') M' = _; rw [h]; rfl) (a5) ?_
          simp only [go_sem]
          refine AD_call rfl rfl rfl (giveO (few (n := 200) (br.rb (S := [] :: S)) (by omega))) fun v M1 hd1 h1 => ?_
          obtain ⟨G6, rfl, u6, b6, c6⟩ := h1
          rw [List.take_of_length_le (show r.length ≤ 200 by have := (split_rest (m := 64) (by omega) _ (own.take at_) (Nat.le_refl _)).1; rw [hsp] at this; simp only at this; omega)] at b6
          have hrl : r.length ≤ 64 := by have := (split_rest (m := 64) (by omega) _ (own.take at_) (Nat.le_refl _)).1; rw [hsp] at this; exact this
          have b5' := b5.new u6
          obtain ⟨v7, G7, a7, b7, u7, l7⟩ := b6.append (S := [] :: S) b5' (by simp; omega)
          have u67 : UpdH no G G7 := u6.then u7 (fun k hk h => by have := c6 k h; omega)
          have bo7 := bo.new u67
          refine ⟨⟨fun _ => slices_same bo (bo.new u6) a5, trivial⟩, ?_⟩
          simp only [go_sem]
          refine AD_loud (v := v7) (M' := ⟨G7, [] :: S⟩) rfl (a7) ⟨fun _ => slices_same bo bo7 a5, trivial⟩ ?_
          simp only [go_sem]
          refine AD_call rfl rfl rfl (split47 b7.bh (by simp; omega)) fun v M1 hd1 h1 => ?_
          obtain ⟨G8, vl, vf, rfl, rfl, u8, lo8, hvl, b8, c8⟩ := h1
          have hbuf : r ++ (own.take nx).drop at_ = r ++ (own.take nx).drop at_ := rfl
          have htk : own.take nx = own.take at_ ++ (own.take nx).drop at_ := by
            conv => lhs; rw [← List.take_append_drop at_ (own.take nx)]
            rw [List.take_take, Nat.min_eq_left (by omega)]
          obtain ⟨sA, _⟩ := split_app 64 ((own.take nx).drop at_) _ (own.take at_) (Nat.le_refl _) L r 0 hsp
          have sB := sA rfl
          rw [← htk] at sB
          have hll := (split_rest (m := 64) (by omega) _ (own.take nx) (Nat.le_refl _)).2
          rw [sB] at hll
          simp only [List.length_append, List.length_take] at hll
          generalize splitG (r ++ (own.take nx).drop at_) 64 = sp at lo8 b8 sB hll
          obtain ⟨sL, sR, sE⟩ := sp
          simp only at lo8 b8 sB hll
          have lg8 := (lg.new u67).new u8
          have hG7 := u67.l
          have hG01 := uG1.l
          obtain ⟨vg', G9, a9, lg9, u9, l9⟩ := lg8.cat (S := [] :: S) lo8 (fun k hk => ⟨by show G0.length ≤ k; omega, fun h => by have := lg.lt h; omega⟩) (by omega)
          have uG9 : UpdH no G0 G9 := (((uG1.then u67 (fun _ _ h => h)).then u8 (fun _ _ h => h))).then u9 (fun k hk h => by have := hvg k h; omega)
          have b9 : BH G9 vf sR := b8.upd u9 (fun k hk h => by have := lg.lt h; have := c8 k hk; omega)
          refine ⟨⟨fun _ => slices_same bo (bo7.new u8) a5, trivial⟩, ?_⟩
          simp only [go_sem]
          (repeat refine W_seq ?_); refine W_regionT [88] ?_
          simp only [go_sem, a9]
          rcases (show sE ≠ 0 ∨ sE = 0 by omega) with he | he
          · have hx : decide (sE = 0) = false := decide_eq_false he
            (repeat refine W_seq ?_); refine W_regionT [] ?_
            simp only [go_sem, hx]
            (repeat refine W_seq ?_)
            refine W_cond (b := true) rfl ?_
            simp only [if_true]
            have hrow9 := uG9.get hrow0 (fun h => h)
            have g9 := get0 (S := [] :: S) hrow9
            obtain ⟨_, sC⟩ := split_app 64 (own.drop nx) _ (own.take nx) (Nat.le_refl _) _ _ _ sB
            obtain ⟨sD, hsR⟩ := sC he
            rw [List.take_append_drop] at sD
            have hE : (splitG own 64).2.2 = sE := by rw [sD]
            have hL : (splitG own 64).1 = L ++ sL := by rw [sD]
            have low9 := low0.new uG9
            rw [hL] at low9
            rw [hE] at g9
            try simp only at hsR
            subst hsR
            (repeat refine W_seq ?_); refine W_regionT [] ?_
            simp only [go_sem, st_a2 g9, st_l2 g9, decide_true, st_a0 g9, st_l0 g9]
            refine AT_call rfl rfl (same49 lg9.lh low9.lh (by simp; omega)) fun v M1 hd1 h1 => ?_
            obtain ⟨hv, hM⟩ := h1; subst hv; subst hM
            simp only [go_sem, decide_true, b9.len, List.length_nil, show ((0 : Nat) : Int) = 0 from rfl]
            refine AT_call rfl rfl (lives02) fun v M1 hd1 h1 => ?_
            obtain ⟨hv, hM⟩ := h1; subst hv; subst hM
            simp only [go_sem]
            exact W_ret ⟨.inr rfl, _, rfl, rfl, rfl⟩
          · have hx : decide (sE = 0) = true := decide_eq_true he
            have he0 := he
            (repeat refine W_seq ?_); refine W_regionT [] ?_
            simp only [go_sem, hx]
            (repeat refine W_seq ?_)
            refine W_cond (b := false) rfl ?_
            simp only [Bool.false_eq_true, if_false]
            refine W_skip ?_
            simp only [go_sem]
            (repeat refine W_seq ?_); refine W_regionT [] ?_
            simp only [go_sem]
            (repeat refine W_seq ?_); refine W_regionT [] ?_
            simp only [go_sem]
            (repeat refine W_seq ?_); refine W_regionT [] ?_
            simp only [go_sem, show (i : Int) + 1 = ((i + 1 : Nat) : Int) from rfl, wrap_i64 (n := ((i + 1 : Nat) : Int)) (by omega) (by omega)]
            refine ⟨9 * (own.length - nx) + (8 - (i + 1) % 9), by omega, _, _, _, _, _, _, _, _, _, _, _, _, _, _, _, _, _, _, _, _, _, _, _, _, _, _, _, _, _, _, _, _, _, _, _, _, _, _, _, _, _, _, _, _, _, _, _, _, _, _, _, _, _, _, _, _, _, _, _, _, _, _, _, _, _, _, _, _, _, _, _, _, _, _, _, _, _, _, _, _, _, _, _, _, _, _, _, _, _, _, _, _, _, _, _, _, _, _, _, _, _, _, _, _, _, _, _, _, _, _, _, _, _, _, _, _, _, _, _, _, _, _, _, _, vg', vf, nx, i + 1, G9, L ++ sL, sR, rfl, rfl, by omega, hnx2, rfl, uG9, lg9, fun k hk => (l9 k hk).elim (hvg k) (fun h => by have := u8.l; omega), b9, ?_⟩
            rw [sB, he0]
        · have h9 : decide (Int.tmod (i : Int) 9 = 8) = false := decide_eq_false (by rw [show Int.tmod (i : Int) 9 = ((i % 9 : Nat) : Int) from (Int.ofNat_tmod i 9).symm]; omega)
          try (obtain ⟨p, hp5, hp⟩ : ∃ p : Nat, (5 : Int) = (p : Int) ∧ p ≤ 13 := ⟨5, rfl, by decide⟩; rw [show AV.int IntKind.i64 5 = AV.int IntKind.i64 (p : Int) by rw [hp5]])
          (repeat refine W_seq ?_); refine W_regionT [] ?_
          simp only [go_sem, bin_rem (b := (9 : Int)) (by decide), h9]
          (repeat refine W_seq ?_)
          refine W_cond (b := false) rfl ?_
          simp only [Bool.false_eq_true, if_false]
          refine W_skip ?_
          simp only [go_sem]
          obtain ⟨p2, hp2, hp2a, hp2b⟩ : ∃ p2 : Nat, (if i % 9 = 8 then max p 1 else p) = p2 ∧ p2 ≤ 13 ∧ (i % 9 = 8 → 1 ≤ p2) := ⟨_, rfl, by split <;> omega, fun h => by rw [if_pos h]; omega⟩
          first
            | rw [if_pos h8] at hp2
            | rw [if_neg h8] at hp2
          rw [hp2]
          obtain ⟨nx, hnx, hnx1, hnx2, hnx3⟩ : ∃ nx : Nat, (if (own.length : Int) < ((at_ + p2 : Nat) : Int) then (own.length : Int) else ((at_ + p2 : Nat) : Int)) = (nx : Int) ∧ at_ ≤ nx ∧ nx ≤ own.length ∧ (1 ≤ p2 → at_ < nx) := ⟨min (at_ + p2) own.length, by split <;> omega, by omega, by omega, by omega⟩
          (repeat refine W_seq ?_); refine W_regionT [] ?_
          simp only [go_sem, bo.len, show IntKind.wrap .i64 ((at_ : Int) + (p2 : Int)) = ((at_ + p2 : Nat) : Int) by rw [wrap_i64 (by omega) (by omega)]; omega, hnx]
          obtain ⟨v5, a5, b5, c5⟩ := bo.cut (S := [] :: S) (lo := some (.int .i64 at_)) (hi := some (.int .i64 nx)) (a := at_) (b := nx) (by simp [onat, natOf]) (by simp [onat, natOf]) (by omega) (by omega)
          (repeat refine W_seq ?_); refine W_regionD [81] [1, 6, 7] [0, 2, 3, 4, 5, 1, 6, 7, 8, 9, 10, 11, 12, 13, 14] [0, 1, 0, 0, 0, 28, 63, 127, 255, 511, 511, 511, 1023, 6143, 16383] mixedM (by kernel_rfl) (by kernel_rfl) (by kernel_rfl) ?_
          simp only [listed, go_sem]
          refine AD_read (v := v5) (fun M' => slices Try.prog 22 vo' (some (.int .i64 at_)) (some (.int .i64 nx)) none M' = some v5) rfl rfl (fun M' h => by rw [opA_slice]; show pureV (slices Try.prog 22 vo' (some (.int .i64 at_)) (some (.int .i64 nx)) none M') M' = _; rw [h]; rfl) (a5) ?_
          simp only [go_sem]
          refine AD_call rfl rfl rfl (giveO (few (n := 200) (br.rb (S := [] :: S)) (by omega))) fun v M1 hd1 h1 => ?_
          obtain ⟨G6, rfl, u6, b6, c6⟩ := h1
          rw [List.take_of_length_le (show r.length ≤ 200 by have := (split_rest (m := 64) (by omega) _ (own.take at_) (Nat.le_refl _)).1; rw [hsp] at this; simp only at this; omega)] at b6
          have hrl : r.length ≤ 64 := by have := (split_rest (m := 64) (by omega) _ (own.take at_) (Nat.le_refl _)).1; rw [hsp] at this; exact this
          have b5' := b5.new u6
          obtain ⟨v7, G7, a7, b7, u7, l7⟩ := b6.append (S := [] :: S) b5' (by simp; omega)
          have u67 : UpdH no G G7 := u6.then u7 (fun k hk h => by have := c6 k h; omega)
          have bo7 := bo.new u67
          refine ⟨⟨fun _ => slices_same bo (bo.new u6) a5, trivial⟩, ?_⟩
          simp only [go_sem]
          refine AD_loud (v := v7) (M' := ⟨G7, [] :: S⟩) rfl (a7) ⟨fun _ => slices_same bo bo7 a5, trivial⟩ ?_
          simp only [go_sem]
          refine AD_call rfl rfl rfl (split47 b7.bh (by simp; omega)) fun v M1 hd1 h1 => ?_
          obtain ⟨G8, vl, vf, rfl, rfl, u8, lo8, hvl, b8, c8⟩ := h1
          have hbuf : r ++ (own.take nx).drop at_ = r ++ (own.take nx).drop at_ := rfl
          have htk : own.take nx = own.take at_ ++ (own.take nx).drop at_ := by
            conv => lhs; rw [← List.take_append_drop at_ (own.take nx)]
            rw [List.take_take, Nat.min_eq_left (by omega)]
          obtain ⟨sA, _⟩ := split_app 64 ((own.take nx).drop at_) _ (own.take at_) (Nat.le_refl _) L r 0 hsp
          have sB := sA rfl
          rw [← htk] at sB
          have hll := (split_rest (m := 64) (by omega) _ (own.take nx) (Nat.le_refl _)).2
          rw [sB] at hll
          simp only [List.length_append, List.length_take] at hll
          generalize splitG (r ++ (own.take nx).drop at_) 64 = sp at lo8 b8 sB hll
          obtain ⟨sL, sR, sE⟩ := sp
          simp only at lo8 b8 sB hll
          have lg8 := (lg.new u67).new u8
          have hG7 := u67.l
          have hG01 := uG1.l
          obtain ⟨vg', G9, a9, lg9, u9, l9⟩ := lg8.cat (S := [] :: S) lo8 (fun k hk => ⟨by show G0.length ≤ k; omega, fun h => by have := lg.lt h; omega⟩) (by omega)
          have uG9 : UpdH no G0 G9 := (((uG1.then u67 (fun _ _ h => h)).then u8 (fun _ _ h => h))).then u9 (fun k hk h => by have := hvg k h; omega)
          have b9 : BH G9 vf sR := b8.upd u9 (fun k hk h => by have := lg.lt h; have := c8 k hk; omega)
          refine ⟨⟨fun _ => slices_same bo (bo7.new u8) a5, trivial⟩, ?_⟩
          simp only [go_sem]
          (repeat refine W_seq ?_); refine W_regionT [88] ?_
          simp only [go_sem, a9]
          rcases (show sE ≠ 0 ∨ sE = 0 by omega) with he | he
          · have hx : decide (sE = 0) = false := decide_eq_false he
            (repeat refine W_seq ?_); refine W_regionT [] ?_
            simp only [go_sem, hx]
            (repeat refine W_seq ?_)
            refine W_cond (b := true) rfl ?_
            simp only [if_true]
            have hrow9 := uG9.get hrow0 (fun h => h)
            have g9 := get0 (S := [] :: S) hrow9
            obtain ⟨_, sC⟩ := split_app 64 (own.drop nx) _ (own.take nx) (Nat.le_refl _) _ _ _ sB
            obtain ⟨sD, hsR⟩ := sC he
            rw [List.take_append_drop] at sD
            have hE : (splitG own 64).2.2 = sE := by rw [sD]
            have hL : (splitG own 64).1 = L ++ sL := by rw [sD]
            have low9 := low0.new uG9
            rw [hL] at low9
            rw [hE] at g9
            try simp only at hsR
            subst hsR
            (repeat refine W_seq ?_); refine W_regionT [] ?_
            simp only [go_sem, st_a2 g9, st_l2 g9, decide_true, st_a0 g9, st_l0 g9]
            refine AT_call rfl rfl (same49 lg9.lh low9.lh (by simp; omega)) fun v M1 hd1 h1 => ?_
            obtain ⟨hv, hM⟩ := h1; subst hv; subst hM
            simp only [go_sem, decide_true, b9.len, List.length_nil, show ((0 : Nat) : Int) = 0 from rfl]
            refine AT_call rfl rfl (lives02) fun v M1 hd1 h1 => ?_
            obtain ⟨hv, hM⟩ := h1; subst hv; subst hM
            simp only [go_sem]
            exact W_ret ⟨.inr rfl, _, rfl, rfl, rfl⟩
          · have hx : decide (sE = 0) = true := decide_eq_true he
            have he0 := he
            (repeat refine W_seq ?_); refine W_regionT [] ?_
            simp only [go_sem, hx]
            (repeat refine W_seq ?_)
            refine W_cond (b := false) rfl ?_
            simp only [Bool.false_eq_true, if_false]
            refine W_skip ?_
            simp only [go_sem]
            (repeat refine W_seq ?_); refine W_regionT [] ?_
            simp only [go_sem]
            (repeat refine W_seq ?_); refine W_regionT [] ?_
            simp only [go_sem]
            (repeat refine W_seq ?_); refine W_regionT [] ?_
            simp only [go_sem, show (i : Int) + 1 = ((i + 1 : Nat) : Int) from rfl, wrap_i64 (n := ((i + 1 : Nat) : Int)) (by omega) (by omega)]
            refine ⟨9 * (own.length - nx) + (8 - (i + 1) % 9), by omega, _, _, _, _, _, _, _, _, _, _, _, _, _, _, _, _, _, _, _, _, _, _, _, _, _, _, _, _, _, _, _, _, _, _, _, _, _, _, _, _, _, _, _, _, _, _, _, _, _, _, _, _, _, _, _, _, _, _, _, _, _, _, _, _, _, _, _, _, _, _, _, _, _, _, _, _, _, _, _, _, _, _, _, _, _, _, _, _, _, _, _, _, _, _, _, _, _, _, _, _, _, _, _, _, _, _, _, _, _, _, _, _, _, _, _, _, _, _, _, _, _, _, _, _, vg', vf, nx, i + 1, G9, L ++ sL, sR, rfl, rfl, by omega, hnx2, rfl, uG9, lg9, fun k hk => (l9 k hk).elim (hvg k) (fun h => by have := u8.l; omega), b9, ?_⟩
            rw [sB, he0]
    · have hat' : own.length = at_ := by simp at hb; omega
      rw [← hat'] at hsp
      (repeat refine W_seq ?_)
      refine W_exit ?_
      simp only [go_sem]
      have g9 := get0 (S := [] :: S) hrow
      rw [List.take_length] at hsp
      have hE : (splitG own 64).2.2 = 0 := by rw [hsp]
      have hL : (splitG own 64).1 = L := by rw [hsp]
      have hR : (splitG own 64).2.1 = r := by rw [hsp]
      have low9 := low0.new uG1
      have bwr9 := bwr0.new uG1
      rw [hL] at low9
      rw [hR] at bwr9
      rw [hE] at g9
      have hLl := (split_rest (m := 64) (by omega) _ own (Nat.le_refl _)).2
      rw [hsp] at hLl
      simp only at hLl
      (repeat refine W_seq ?_); refine W_regionT [] ?_
      simp only [go_sem, st_a2 g9, st_l2 g9, decide_true, st_a0 g9, st_l0 g9]
      refine AT_call rfl rfl (same49 lg.lh low9.lh (by omega)) fun v M1 hd1 h1 => ?_
      obtain ⟨hv, hM⟩ := h1; subst hv; subst hM
      simp only [go_sem, decide_true, br.text, st_a1 g9, st_l1 g9, bwr9.text, beq_self_eq_true]
      refine AT_call rfl rfl (lives02) fun v M1 hd1 h1 => ?_
      obtain ⟨hv, hM⟩ := h1; subst hv; subst hM
      simp only [go_sem]
      exact W_ret ⟨.inr rfl, _, rfl, rfl, rfl⟩
end
end Go.Proofs.Ytlpcbfndjffpfaa
