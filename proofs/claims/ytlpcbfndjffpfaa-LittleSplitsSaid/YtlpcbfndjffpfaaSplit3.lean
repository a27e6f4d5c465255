/- The walk of LittleSplits. -/
import Derived.Test.YtlpcbfndjffpfaaSplit2
import Derived.Test.YtlpcbfndjffpfaaAbs30
set_option maxRecDepth 100000
set_option maxHeartbeats 4000000
set_option linter.unusedSimpArgs false
set_option linter.unusedVariables false
namespace Go.Proofs.Ytlpcbfndjffpfaa
open Go.Abs
section
variable {H : List Block} {S : List (List Block)}
theorem three58 {a b c : AV} (ha : a.cells = [a] ∧ a.st = true) (hb : b.cells = [b] ∧ b.st = true) (hc : c.cells = [c] ∧ c.st = true) : buildSliceA Try.prog 58 true 3 [(0, a), (1, b), (2, c)] ⟨H, S⟩ = some (.sl ⟨0, H.length, 0⟩ 3 (some 3), ⟨H ++ [.row ⟨22, 1, [a, b, c], false, false⟩], S⟩) := by
  unfold buildSliceA
  simp only [ti58, ti22]
  have e1 : fillA (fun i => some (i * 1, 1)) (zeros (AV.nilsl).cells 3) [(0, a), (1, b), (2, c)] = some [a, b, c] := by
    have : zeros (AV.nilsl).cells 3 = [.nilsl, .nilsl, .nilsl] := rfl
    rw [this]
    simp only [fillA, ha, hb, hc, List.length_cons, List.length_nil, List.all_cons, List.all_nil, Bool.and_true]
    rfl
  rw [if_pos ⟨by decide, rfl, rfl⟩, e1]
  simp only
  rw [if_pos ⟨by simp, by simp, by simp [ha.2, hb.2, hc.2]⟩]
  rfl
theorem three59 {a b c : Int} : buildSliceA Try.prog 59 true 3 [(0, .int .i64 a), (1, .int .i64 b), (2, .int .i64 c)] ⟨H, S⟩ = some (.sl ⟨0, H.length, 0⟩ 3 (some 3), ⟨H ++ [.row ⟨3, 1, [.int .i64 a, .int .i64 b, .int .i64 c], false, false⟩], S⟩) := by
  unfold buildSliceA
  simp only [ti59, ti3]
  have e1 : fillA (fun i => some (i * 1, 1)) (zeros (AV.int .i64 0).cells 3) [(0, .int .i64 a), (1, .int .i64 b), (2, .int .i64 c)] = some [.int .i64 a, .int .i64 b, .int .i64 c] := rfl
  rw [if_pos ⟨by decide, rfl, rfl⟩, e1]
  simp only
  rw [if_pos ⟨by simp, by simp, by rfl⟩]
  rfl
theorem split_len {m : Int} : ∀ (n : Nat) (a : List UInt8), a.length ≤ n → (splitG a m).1.length ≤ a.length := by
  intro n
  induction n with
  | zero =>
    intro a ha
    have : a = [] := List.eq_nil_of_length_eq_zero (by omega)
    subst this
    rw [sp_short (by simp)]; simp
  | succ n ih =>
    intro a ha
    by_cases h4 : a.length < 4
    · rw [sp_short h4]; simp
    by_cases h7 : ofLe (a.take 4) < 7
    · rw [sp_form h4 h7]; simp
    by_cases hm' : m < (ofLe (a.take 4) : Nat)
    · rw [sp_range h4 h7 hm']; simp
    by_cases h8 : a.length < ofLe (a.take 4)
    · rw [sp_left h4 h7 hm' h8]; simp
    · rw [sp_more h4 h7 hm' h8]
      have i2 := ih (a.drop (ofLe (a.take 4))) (by simp; omega)
      simp only [List.length_cons, List.length_drop] at i2 ⊢
      omega
theorem littleSplits {vb vs : AV} {b : List UInt8} {ws : List (AV × List UInt8)} {m : Int} (hb0 : BH H vb b) (hs : RH H vs 1 (ws.map (·.1)) ws.length) (hw : ∀ w ∈ ws, BH H w.1 w.2) (hm : -9223372036854775808 ≤ m ∧ m < 9223372036854775808) : AC Try.prog 5 [vb, vs, .int .i64 m] ⟨H, S⟩ (fun v M' => v = .bool true) := by
  refine AC_of_WE Try.func5 rfl ?_
  simp only [Try.ntmps5, List.length_cons, List.length_nil, List.replicate, List.cons_append, List.nil_append, mem_enter]
  (repeat refine W_seq ?_); refine W_regionT [] ?_
  simp only [go_sem]
  (repeat refine W_seq ?_); refine W_regionT [] ?_
  simp only [go_sem]
  refine AT_call rfl rfl (give (few (n := 60) (hb0.rb (S := [] :: S)) (by omega))) fun v M1 hd1 h1 => ?_
  obtain ⟨Hf, rfl, uf, bf, cf⟩ := h1
  have hfl : (b.take 60).length ≤ 60 := by simp; omega
  generalize b.take 60 = fw at bf hfl
  rename AV => vf
  simp only [go_sem]
  (repeat refine W_seq ?_); refine W_regionT [] ?_
  simp only [go_sem]
  (repeat refine W_seq ?_); refine W_regionT [] ?_
  simp only [go_sem]
  (repeat refine W_seq ?_)
  refine W_block (W_loop (L_inv (fun j env M' => ∃ (x0 x3 x4 x5 x6 x10 x11 x12 x13 x14 x15 x16 x17 x18 x19 x20 x21 x22 x23 x24 x25 x26 x27 x28 x29 x30 x31 x32 x33 x34 x35 x36 x37 x38 x39 x40 x41 x42 x43 x44 x45 x46 x47 x48 x49 x50 x51 x52 x53 x54 x55 x56 x57 x58 x59 x60 x61 x62 x63 x64 x65 x66 x67 x68 x69 x70 x71 x72 x73 x74 x75 x76 x77 x78 x79 x80 x81 x82 x83 x84 x85 x86 x87 x88 x89 x90 x91 x92 x93 x94 x95 x96 x97 x98 x99 x100 x101 : AV) (vo : AV) (i : Nat) (G' : List Block) (l : List UInt8), env = [x0, vs, .int .i64 m, x3, x4, x5, x6, vf, vo, .int .i64 i, x10, x11, x12, x13, x14, x15, x16, x17, x18, x19, x20, x21, x22, x23, x24, x25, x26, x27, x28, x29, x30, x31, x32, x33, x34, x35, x36, x37, x38, x39, x40, x41, x42, x43, x44, x45, x46, x47, x48, x49, x50, x51, x52, x53, x54, x55, x56, x57, x58, x59, x60, x61, x62, x63, x64, x65, x66, x67, x68, x69, x70, x71, x72, x73, x74, x75, x76, x77, x78, x79, x80, x81, x82, x83, x84, x85, x86, x87, x88, x89, x90, x91, x92, x93, x94, x95, x96, x97, x98, x99, x100, x101] ∧ i + j = ws.length ∧ i ≤ 4 ∧ M' = ⟨G', [] :: S⟩ ∧ UpdH no H G' ∧ UpdH no Hf G' ∧ BO G' vo l ∧ l.length ≤ 19 * i ∧ ∀ k, vo.loc k → Hf.length ≤ k) (fun j env M2 => ?_) (ws.length) ?_))
  case refine_2 => exact ⟨_, _, _, _, _, _, _, _, _, _, _, _, _, _, _, _, _, _, _, _, _, _, _, _, _, _, _, _, _, _, _, _, _, _, _, _, _, _, _, _, _, _, _, _, _, _, _, _, _, _, _, _, _, _, _, _, _, _, _, _, _, _, _, _, _, _, _, _, _, _, _, _, _, _, _, _, _, _, _, _, _, _, _, _, _, _, _, _, _, _, _, _, _, _, _, _, _, .nilsl, 0, Hf, [], rfl, by omega, by omega, rfl, uf, UpdH.refl, BO.nil, Nat.zero_le _, fun k hk => hk.elim⟩
  refine exE fun x0 => exE fun x3 => exE fun x4 => exE fun x5 => exE fun x6 => exE fun x10 => exE fun x11 => exE fun x12 => exE fun x13 => exE fun x14 => exE fun x15 => exE fun x16 => exE fun x17 => exE fun x18 => exE fun x19 => exE fun x20 => exE fun x21 => exE fun x22 => exE fun x23 => exE fun x24 => exE fun x25 => exE fun x26 => exE fun x27 => exE fun x28 => exE fun x29 => exE fun x30 => exE fun x31 => exE fun x32 => exE fun x33 => exE fun x34 => exE fun x35 => exE fun x36 => exE fun x37 => exE fun x38 => exE fun x39 => exE fun x40 => exE fun x41 => exE fun x42 => exE fun x43 => exE fun x44 => exE fun x45 => exE fun x46 => exE fun x47 => exE fun x48 => exE fun x49 => exE fun x50 => exE fun x51 => exE fun x52 => exE fun x53 => exE fun x54 => exE fun x55 => exE fun x56 => exE fun x57 => exE fun x58 => exE fun x59 => exE fun x60 => exE fun x61 => exE fun x62 => exE fun x63 => exE fun x64 => exE fun x65 => exE fun x66 => exE fun x67 => exE fun x68 => exE fun x69 => exE fun x70 => exE fun x71 => exE fun x72 => exE fun x73 => exE fun x74 => exE fun x75 => exE fun x76 => exE fun x77 => exE fun x78 => exE fun x79 => exE fun x80 => exE fun x81 => exE fun x82 => exE fun x83 => exE fun x84 => exE fun x85 => exE fun x86 => exE fun x87 => exE fun x88 => exE fun x89 => exE fun x90 => exE fun x91 => exE fun x92 => exE fun x93 => exE fun x94 => exE fun x95 => exE fun x96 => exE fun x97 => exE fun x98 => exE fun x99 => exE fun x100 => exE fun x101 => ?_
  rintro ⟨vo, i, G, l, rfl, hij, hi5', rfl, uG, uF, bo, hll, hvo⟩
  by_cases hN : i < ws.length
  · have hN' : (i : Int) < (ws.length : Int) := by omega
    have hlen := len_rd ((hs.new uG).rd (S := [] :: S)) ti58 rfl
    (repeat refine W_seq ?_); refine W_regionT [] ?_
    simp only [go_sem, hlen, hN', decide_true, decide_false]
    (repeat refine W_seq ?_)
    refine W_cond_if rfl (fun hb => ?_) (fun hb => ?_)
    · have hi5 : i < 4 := by simp [hN] at hb; omega
      refine W_skip ?_
      simp only [go_sem]
      (repeat refine W_seq ?_)
      refine W_block ?_
      have hbw := hw _ (List.getElem_mem hN)
      have a58 := at58 (S := [] :: S) (hs.new uG) hN
      (repeat refine W_seq ?_); refine W_regionT [40] ?_
      simp only [go_sem, a58.1, a58.2, show IntKind.wrap .i64 (100 + (i : Int)) = ((100 + i : Nat) : Int) by rw [wrap_i64 (by omega) (by omega)]; omega]
      refine AT_call rfl rfl (give (few (n := 12) ((hbw.new uG).rb (S := [] :: S)) (by omega))) fun v M1 hd1 h1 => ?_
      obtain ⟨G1, rfl, u1, b1, c1⟩ := h1
      have hfl2 : (ws[i].2.take 12).length ≤ 12 := by simp; omega
      generalize ws[i].2.take 12 = fw2 at b1 hfl2
      simp only [go_sem]
      refine AT_call rfl rfl (give (refPack (s := fw2) (kind := 100 + i) (tag := i) (b1.rb (S := [] :: S)) (by omega) (by omega) (by omega))) fun v M1 hd1 h1 => ?_
      obtain ⟨G2, rfl, u2, b2, c2⟩ := h1
      have bo2 := (bo.new u1).new u2
      have hfl3 : (le (7 + fw2.length) 4 ++ le (100 + i) 1 ++ le i 2 ++ fw2).length ≤ 19 := by simp [le_length]; omega
      generalize le (7 + fw2.length) 4 ++ le (100 + i) 1 ++ le i 2 ++ fw2 = pk at b2 hfl3
      obtain ⟨vo', G3, a3, bo3, u3, l3⟩ := bo2.append (S := [] :: S) b2 (by omega)
      have hGl : Hf.length ≤ G2.length := Nat.le_trans uF.l (Nat.le_trans u1.l u2.l)
      have uF3 : UpdH no Hf G3 := ((uF.then u1 (fun _ _ h => h)).then u2 (fun _ _ h => h)).then u3 (fun k hk h => by have := hvo k h; omega)
      have uG3 : UpdH no H G3 := uf.then uF3 (fun _ _ h => h)
      simp only [go_sem, a3]
      (repeat refine W_seq ?_); refine W_regionT [] ?_
      simp only [go_sem, show (i : Int) + 1 = ((i + 1 : Nat) : Int) from rfl, wrap_i64 (n := ((i + 1 : Nat) : Int)) (by omega) (by omega)]
      refine ⟨j - 1, by omega, _, _, _, _, _, _, _, _, _, _, _, _, _, _, _, _, _, _, _, _, _, _, _, _, _, _, _, _, _, _, _, _, _, _, _, _, _, _, _, _, _, _, _, _, _, _, _, _, _, _, _, _, _, _, _, _, _, _, _, _, _, _, _, _, _, _, _, _, _, _, _, _, _, _, _, _, _, _, _, _, _, _, _, _, _, _, _, _, _, _, _, _, _, _, _, _, _, vo', i + 1, G3, _, rfl, by omega, by omega, rfl, uG3, uF3, bo3, by simp; omega, fun k hk => (l3 k hk).elim (hvo k) (fun h => by omega)⟩
    · (repeat refine W_seq ?_)
      refine W_exit ?_
      simp only [go_sem]
      (repeat refine W_seq ?_); refine W_regionT [46, 47] ?_
      simp only [go_sem]
      refine AT_call rfl rfl (giveO (few (n := 200) (bo.bh.rb (S := [] :: S)) (by omega))) fun v M1 hd1 h1 => ?_
      obtain ⟨G1, rfl, u1, b1, c1⟩ := h1
      have bf1 := (bf.new uF).new u1
      have bo1 := bo.bh.new u1
      have htl : (l.take 200).length ≤ 200 := by simp; omega
      generalize l.take 200 = lt at b1 htl
      obtain ⟨v3, G3, a3, b3, u3, l3⟩ := b1.append (S := [] :: S) bf1 (by omega)
      have bf3 := bf1.upd u3 (fun k hk h => by have := c1 k h; have := RH.lt (bf.new uF) hk; omega)
      have bo3 := bo1.upd u3 (fun k hk h => by have := c1 k h; have := RH.lt bo.bh hk; omega)
      have t58 := three58 (H := G3) (S := [] :: S) ⟨bf3.one.2, bf3.one.1⟩ ⟨bo3.one.2, bo3.one.1⟩ ⟨b3.bh.one.2, b3.bh.one.1⟩
      simp only [go_sem, a3, t58]
      have uA : UpdH no H (G3 ++ [Block.row ⟨22, 1, [vf, vo, v3], false, false⟩]) := ((uG.then u1 (fun _ _ h => h)).then u3 (fun k hk h => by have := c1 k h; have := uG.l; omega)).then (UpdH.push (p := no)) (fun _ _ h => h)
      have hall : RH (G3 ++ [Block.row ⟨22, 1, [vf, vo, v3], false, false⟩]) (.sl ⟨0, G3.length, 0⟩ 3 (some 3)) 1 [vf, vo, v3] 3 := .inr ⟨G3.length, 0, some 3, ⟨22, 1, [vf, vo, v3], false, false⟩, rfl, by simp, rfl, rfl, rfl⟩
      have bfA := bf3.new (UpdH.push (p := no) (bs := [Block.row ⟨22, 1, [vf, vo, v3], false, false⟩]))
      have boA := bo3.new (UpdH.push (p := no) (bs := [Block.row ⟨22, 1, [vf, vo, v3], false, false⟩]))
      have b3A := b3.bh.new (UpdH.push (p := no) (bs := [Block.row ⟨22, 1, [vf, vo, v3], false, false⟩]))
      generalize G3.length = ia at hall
      generalize G3 ++ [Block.row ⟨22, 1, [vf, vo, v3], false, false⟩] = GA at uA hall bfA boA b3A
      (repeat refine W_seq ?_); refine W_regionT [51] ?_
      simp only [go_sem]
      refine AT_call rfl rfl (aroundF hm.1 hm.2 (by decide)) fun v M1 hd1 h1 => ?_
      obtain ⟨hv, hM⟩ := h1
      have hmr := around_range (n := m) (k := 31) (by decide)
      generalize around m 31 = mr at hv hmr
      subst hv; subst hM
      simp only [go_sem, three59]
      have hms : RH (GA ++ [Block.row ⟨3, 1, [.int .i64 m, .int .i64 mr, .int .i64 1024], false, false⟩]) (.sl ⟨0, GA.length, 0⟩ 3 (some 3)) 1 ([m, mr, 1024].map (AV.int .i64)) [m, mr, 1024].length := .inr ⟨GA.length, 0, some 3, ⟨3, 1, [.int .i64 m, .int .i64 mr, .int .i64 1024], false, false⟩, rfl, by simp, rfl, rfl, rfl⟩
      have uM := UpdH.push (p := no) (H := GA) (bs := [Block.row ⟨3, 1, [.int .i64 m, .int .i64 mr, .int .i64 1024], false, false⟩])
      have hall0 : RH (GA ++ [Block.row ⟨3, 1, [.int .i64 m, .int .i64 mr, .int .i64 1024], false, false⟩]) (.sl ⟨0, ia, 0⟩ 3 (some 3)) 1 ([(vf, fw), (vo, l), (v3, lt ++ fw)].map (·.1)) [(vf, fw), (vo, l), (v3, lt ++ fw)].length := hall.new uM
      have hel : ∀ w ∈ [(vf, fw), (vo, l), (v3, lt ++ fw)], BH (GA ++ [Block.row ⟨3, 1, [.int .i64 m, .int .i64 mr, .int .i64 1024], false, false⟩]) w.1 w.2 ∧ w.2.length < 1000000 := by
        intro w hw
        simp only [List.mem_cons, List.mem_nil_iff, or_false] at hw
        rcases hw with rfl | rfl | rfl
        · exact ⟨bfA.new uM, by simp only; omega⟩
        · exact ⟨boA.new uM, by simp only; omega⟩
        · exact ⟨b3A.new uM, by simp; omega⟩
      have hzl : [m, mr, 1024].length = 3 := rfl
      have hal : [(vf, fw), (vo, l), (v3, lt ++ fw)].length = 3 := rfl
      generalize [m, mr, 1024] = zs at hms hzl
      generalize [(vf, fw), (vo, l), (v3, lt ++ fw)] = al at hall0 hel hal
      generalize GA.length = im at hms
      generalize GA ++ [Block.row ⟨3, 1, [.int .i64 m, .int .i64 mr, .int .i64 1024], false, false⟩] = G0 at hms hall0 hel
      clear uM hall bfA boA b3A uA
      (repeat refine W_seq ?_); refine W_regionT [] ?_
      simp only [go_sem]
      (repeat refine W_seq ?_)
      refine W_block (W_loop (L_inv (fun j2 env M' => ∃ (y0 y1 y2 y3 y4 y5 y6 y7 y8 y9 y13 y14 y15 y16 y17 y18 y19 y20 y21 y22 y23 y24 y25 y26 y27 y28 y29 y30 y31 y32 y33 y34 y35 y36 y37 y38 y39 y40 y41 y42 y43 y44 y45 y46 y47 y48 y49 y50 y51 y52 y53 y54 y55 y56 y57 y58 y59 y60 y61 y62 y63 y64 y65 y66 y67 y68 y69 y70 y71 y72 y73 y74 y75 y76 y77 y78 y79 y80 y81 y82 y83 y84 y85 y86 y87 y88 y89 y90 y91 y92 y93 y94 y95 y96 y97 y98 y99 y100 y101 : AV) (i : Nat) (G' : List Block), env = [y0, y1, y2, y3, y4, y5, y6, y7, y8, y9, .sl ⟨0, ia, 0⟩ 3 (some 3), .sl ⟨0, im, 0⟩ 3 (some 3), .int .i64 i, y13, y14, y15, y16, y17, y18, y19, y20, y21, y22, y23, y24, y25, y26, y27, y28, y29, y30, y31, y32, y33, y34, y35, y36, y37, y38, y39, y40, y41, y42, y43, y44, y45, y46, y47, y48, y49, y50, y51, y52, y53, y54, y55, y56, y57, y58, y59, y60, y61, y62, y63, y64, y65, y66, y67, y68, y69, y70, y71, y72, y73, y74, y75, y76, y77, y78, y79, y80, y81, y82, y83, y84, y85, y86, y87, y88, y89, y90, y91, y92, y93, y94, y95, y96, y97, y98, y99, y100, y101] ∧ i + j2 = 3 ∧ M' = ⟨G', [] :: S⟩ ∧ UpdH no G0 G') (fun j2 env M2 => ?_) (3) ?_))
      case refine_2 => exact ⟨_, _, _, _, _, _, _, _, _, _, _, _, _, _, _, _, _, _, _, _, _, _, _, _, _, _, _, _, _, _, _, _, _, _, _, _, _, _, _, _, _, _, _, _, _, _, _, _, _, _, _, _, _, _, _, _, _, _, _, _, _, _, _, _, _, _, _, _, _, _, _, _, _, _, _, _, _, _, _, _, _, _, _, _, _, _, _, _, _, _, _, _, _, _, _, _, _, _, _, 0, G0, rfl, rfl, rfl, UpdH.refl⟩
      refine exE fun y0 => exE fun y1 => exE fun y2 => exE fun y3 => exE fun y4 => exE fun y5 => exE fun y6 => exE fun y7 => exE fun y8 => exE fun y9 => exE fun y13 => exE fun y14 => exE fun y15 => exE fun y16 => exE fun y17 => exE fun y18 => exE fun y19 => exE fun y20 => exE fun y21 => exE fun y22 => exE fun y23 => exE fun y24 => exE fun y25 => exE fun y26 => exE fun y27 => exE fun y28 => exE fun y29 => exE fun y30 => exE fun y31 => exE fun y32 => exE fun y33 => exE fun y34 => exE fun y35 => exE fun y36 => exE fun y37 => exE fun y38 => exE fun y39 => exE fun y40 => exE fun y41 => exE fun y42 => exE fun y43 => exE fun y44 => exE fun y45 => exE fun y46 => exE fun y47 => exE fun y48 => exE fun y49 => exE fun y50 => exE fun y51 => exE fun y52 => exE fun y53 => exE fun y54 => exE fun y55 => exE fun y56 => exE fun y57 => exE fun y58 => exE fun y59 => exE fun y60 => exE fun y61 => exE fun y62 => exE fun y63 => exE fun y64 => exE fun y65 => exE fun y66 => exE fun y67 => exE fun y68 => exE fun y69 => exE fun y70 => exE fun y71 => exE fun y72 => exE fun y73 => exE fun y74 => exE fun y75 => exE fun y76 => exE fun y77 => exE fun y78 => exE fun y79 => exE fun y80 => exE fun y81 => exE fun y82 => exE fun y83 => exE fun y84 => exE fun y85 => exE fun y86 => exE fun y87 => exE fun y88 => exE fun y89 => exE fun y90 => exE fun y91 => exE fun y92 => exE fun y93 => exE fun y94 => exE fun y95 => exE fun y96 => exE fun y97 => exE fun y98 => exE fun y99 => exE fun y100 => exE fun y101 => ?_
      rintro ⟨i, G, rfl, hij2, rfl, uI⟩
      (repeat refine W_seq ?_); refine W_regionT [] ?_
      simp only [go_sem]
      (repeat refine W_seq ?_)
      refine W_cond_if rfl (fun hb => ?_) (fun hb => ?_)
      · have hi3 : i < 3 := by simp at hb; omega
        refine W_skip ?_
        simp only [go_sem]
        (repeat refine W_seq ?_)
        refine W_block ?_
        (repeat refine W_seq ?_); refine W_regionT [] ?_
        simp only [go_sem]
        (repeat refine W_seq ?_)
        refine W_block (W_loop (L_inv (fun j3 env M' => ∃ (z0 z1 z2 z3 z4 z5 z6 z7 z8 z9 z14 z15 z16 z17 z18 z19 z20 z21 z22 z23 z24 z25 z26 z27 z28 z29 z30 z31 z32 z33 z34 z35 z36 z37 z38 z39 z40 z41 z42 z43 z44 z45 z46 z47 z48 z49 z50 z51 z52 z53 z54 z55 z56 z57 z58 z59 z60 z61 z62 z63 z64 z65 z66 z67 z68 z69 z70 z71 z72 z73 z74 z75 z76 z77 z78 z79 z80 z81 z82 z83 z84 z85 z86 z87 z88 z89 z90 z91 z92 z93 z94 z95 z96 z97 z98 z99 z100 z101 : AV) (k : Nat) (G' : List Block), env = [z0, z1, z2, z3, z4, z5, z6, z7, z8, z9, .sl ⟨0, ia, 0⟩ 3 (some 3), .sl ⟨0, im, 0⟩ 3 (some 3), .int .i64 i, .int .i64 k, z14, z15, z16, z17, z18, z19, z20, z21, z22, z23, z24, z25, z26, z27, z28, z29, z30, z31, z32, z33, z34, z35, z36, z37, z38, z39, z40, z41, z42, z43, z44, z45, z46, z47, z48, z49, z50, z51, z52, z53, z54, z55, z56, z57, z58, z59, z60, z61, z62, z63, z64, z65, z66, z67, z68, z69, z70, z71, z72, z73, z74, z75, z76, z77, z78, z79, z80, z81, z82, z83, z84, z85, z86, z87, z88, z89, z90, z91, z92, z93, z94, z95, z96, z97, z98, z99, z100, z101] ∧ k + j3 = 3 ∧ M' = ⟨G', [] :: S⟩ ∧ UpdH no G0 G') (fun j3 env M2 => ?_) (3) ?_))
        case refine_2 => exact ⟨_, _, _, _, _, _, _, _, _, _, _, _, _, _, _, _, _, _, _, _, _, _, _, _, _, _, _, _, _, _, _, _, _, _, _, _, _, _, _, _, _, _, _, _, _, _, _, _, _, _, _, _, _, _, _, _, _, _, _, _, _, _, _, _, _, _, _, _, _, _, _, _, _, _, _, _, _, _, _, _, _, _, _, _, _, _, _, _, _, _, _, _, _, _, _, _, _, _, 0, G, rfl, rfl, rfl, uI⟩
        refine exE fun z0 => exE fun z1 => exE fun z2 => exE fun z3 => exE fun z4 => exE fun z5 => exE fun z6 => exE fun z7 => exE fun z8 => exE fun z9 => exE fun z14 => exE fun z15 => exE fun z16 => exE fun z17 => exE fun z18 => exE fun z19 => exE fun z20 => exE fun z21 => exE fun z22 => exE fun z23 => exE fun z24 => exE fun z25 => exE fun z26 => exE fun z27 => exE fun z28 => exE fun z29 => exE fun z30 => exE fun z31 => exE fun z32 => exE fun z33 => exE fun z34 => exE fun z35 => exE fun z36 => exE fun z37 => exE fun z38 => exE fun z39 => exE fun z40 => exE fun z41 => exE fun z42 => exE fun z43 => exE fun z44 => exE fun z45 => exE fun z46 => exE fun z47 => exE fun z48 => exE fun z49 => exE fun z50 => exE fun z51 => exE fun z52 => exE fun z53 => exE fun z54 => exE fun z55 => exE fun z56 => exE fun z57 => exE fun z58 => exE fun z59 => exE fun z60 => exE fun z61 => exE fun z62 => exE fun z63 => exE fun z64 => exE fun z65 => exE fun z66 => exE fun z67 => exE fun z68 => exE fun z69 => exE fun z70 => exE fun z71 => exE fun z72 => exE fun z73 => exE fun z74 => exE fun z75 => exE fun z76 => exE fun z77 => exE fun z78 => exE fun z79 => exE fun z80 => exE fun z81 => exE fun z82 => exE fun z83 => exE fun z84 => exE fun z85 => exE fun z86 => exE fun z87 => exE fun z88 => exE fun z89 => exE fun z90 => exE fun z91 => exE fun z92 => exE fun z93 => exE fun z94 => exE fun z95 => exE fun z96 => exE fun z97 => exE fun z98 => exE fun z99 => exE fun z100 => exE fun z101 => ?_
        rintro ⟨k, G9, rfl, hij3, rfl, uK⟩
        (repeat refine W_seq ?_); refine W_regionT [] ?_
        simp only [go_sem]
        (repeat refine W_seq ?_)
        refine W_cond_if rfl (fun hb => ?_) (fun hb => ?_)
        · have hk3 : k < 3 := by simp at hb; omega
          refine W_skip ?_
          simp only [go_sem]
          (repeat refine W_seq ?_)
          refine W_block ?_
          have hia : i < al.length := by omega
          have hkz : k < zs.length := by omega
          obtain ⟨hbe, hble⟩ := hel _ (List.getElem_mem hia)
          have a58 := at58 (S := [] :: S) (hall0.new uK) hia
          have a59 := at59 (S := [] :: S) (hms.new uK) hkz
          (repeat refine W_seq ?_); refine W_regionC [] [8] [0, 1, 2, 3, 4, 5, 6, 7, 8, 9, 10, 11, 12, 13, 14, 15] [0, 0, 3, 7, 0, 0, 48, 112, 255, 511, 1023, 1023, 1023, 2047, 12287, 32767] mixedM (by kernel_rfl) (by kernel_rfl) (by kernel_rfl) (by kernel_rfl) ?_
          simp only [listed, go_sem, a58.1, a58.2, a59.1, a59.2, List.map_cons, List.map_nil]
          refine AT_call rfl rfl (split47 (m := zs[k]) (hbe.new uK) hble) fun v M1 hd1 h1 => ?_
          obtain ⟨G8, vl, vr, rfl, rfl, u8, lo8, hvl, b8, c8⟩ := h1
          have uK8 := uK.then u8 (fun _ _ h => h)
          simp only [go_sem, List.map_cons, List.map_nil]
          (repeat refine W_seq ?_); refine W_regionX [17] [8, 9, 10] [0, 1, 2, 3, 4, 5, 6, 7, 9, 8, 10] [0, 1, 2, 3, 4, 5, 6, 7, 8, 9, 10] [0, 0, 3, 7, 0, 0, 48, 112, 255, 0, 1023] 9 8 mixedM (by kernel_rfl) (by kernel_rfl) (by kernel_rfl) (by kernel_rfl) (by kernel_rfl) (by kernel_rfl) (by decide) (by decide) (by decide) ?_ ?_
          · simp only [listed, go_sem]
            refine AD_read (v := idx (.sl ⟨0, ia, 0⟩ 3 (some 3)) i) (fun M' => indexAddrA Try.prog 58 (.sl ⟨0, ia, 0⟩ 3 (some 3)) (.int .i64 i) M' = some (idx (.sl ⟨0, ia, 0⟩ 3 (some 3)) i) ∧ loadA Try.prog 22 (idx (.sl ⟨0, ia, 0⟩ 3 (some 3)) i) M' = some al[i].1) rfl rfl (fun M' h => by show pureV (indexAddrA Try.prog 58 (.sl ⟨0, ia, 0⟩ 3 (some 3)) (.int .i64 i) M') M' = _; rw [h.1]; rfl) (at58 (hall0.new uK8) hia) ?_
            simp only [go_sem]
            refine AD_read (v := al[i].1) (fun M' => indexAddrA Try.prog 58 (.sl ⟨0, ia, 0⟩ 3 (some 3)) (.int .i64 i) M' = some (idx (.sl ⟨0, ia, 0⟩ 3 (some 3)) i) ∧ loadA Try.prog 22 (idx (.sl ⟨0, ia, 0⟩ 3 (some 3)) i) M' = some al[i].1) rfl rfl (fun M' h => by show pureV (loadA Try.prog 22 (idx (.sl ⟨0, ia, 0⟩ 3 (some 3)) i) M') M' = _; rw [h.2]; rfl) (at58 (hall0.new uK8) hia) ?_
            simp only [go_sem]
            refine AD_read (v := idx (.sl ⟨0, im, 0⟩ 3 (some 3)) k) (fun M' => indexAddrA Try.prog 59 (.sl ⟨0, im, 0⟩ 3 (some 3)) (.int .i64 k) M' = some (idx (.sl ⟨0, im, 0⟩ 3 (some 3)) k) ∧ loadA Try.prog 3 (idx (.sl ⟨0, im, 0⟩ 3 (some 3)) k) M' = some (.int .i64 zs[k])) rfl rfl (fun M' h => by show pureV (indexAddrA Try.prog 59 (.sl ⟨0, im, 0⟩ 3 (some 3)) (.int .i64 k) M') M' = _; rw [h.1]; rfl) (at59 (hms.new uK8) hkz) ?_
            simp only [go_sem]
            refine AD_read (v := .int .i64 zs[k]) (fun M' => indexAddrA Try.prog 59 (.sl ⟨0, im, 0⟩ 3 (some 3)) (.int .i64 k) M' = some (idx (.sl ⟨0, im, 0⟩ 3 (some 3)) k) ∧ loadA Try.prog 3 (idx (.sl ⟨0, im, 0⟩ 3 (some 3)) k) M' = some (.int .i64 zs[k])) rfl rfl (fun M' h => by show pureV (loadA Try.prog 3 (idx (.sl ⟨0, im, 0⟩ 3 (some 3)) k) M') M' = _; rw [h.2]; rfl) (at59 (hms.new uK8) hkz) ?_
            simp only [go_sem]
            refine AD_loud (v := .ptr ⟨0, G8.length, 0⟩) (M' := ⟨G8 ++ [Block.row ⟨63, 3, [.nilsl, .nilsl, .int .i64 0], false, false⟩], [] :: S⟩) rfl (by show allocA Try.prog 63 true ⟨G8, [] :: S⟩ = _; exact alloc_agg (P := Try.prog) (hp := true) (M := ⟨G8, [] :: S⟩) ti63 rfl rfl rfl (by decide)) ⟨fun _ => at59 (hms.new (uK8.then UpdH.push (fun _ _ h => h))) hkz, fun _ => at59 (hms.new (uK8.then UpdH.push (fun _ _ h => h))) hkz, fun _ => at58 (hall0.new (uK8.then UpdH.push (fun _ _ h => h))) hia, fun _ => at58 (hall0.new (uK8.then UpdH.push (fun _ _ h => h))) hia, trivial⟩ ?_
            simp only [go_sem]
            refine AD_call rfl rfl rfl (split48 (m := zs[k]) ((hbe.new uK8).new (UpdH.push (p := no) (bs := [Block.row ⟨63, 3, [.nilsl, .nilsl, .int .i64 0], false, false⟩]))) hble) fun v M1 hd1 h1 => ?_
            obtain ⟨Hw, wo, wr, rfl, rfl, uw, low, lwo, bwr, cwr⟩ := h1
            have uA9 : UpdH no G8 Hw := (UpdH.push (p := no)).then uw (fun _ _ h => h)
            have hz0 : (G8 ++ [Block.row ⟨63, 3, [.nilsl, .nilsl, .int .i64 0], false, false⟩])[G8.length]? = some (.row ⟨63, 3, [.nilsl, .nilsl, .int .i64 0], false, false⟩) := by simp
            have hz1 := uw.get hz0 (fun h => h)
            have stA := st_all (S := [] :: S) hz1 low.st.1 bwr.one.1 (e' := (splitG al[i].2 zs[k]).2.2)
            have hz1l := (List.getElem?_eq_some_iff.1 hz1).1
            have hrow9 : (Hw.set G8.length (.row ⟨63, 3, [wo, wr, .int .i64 (splitG al[i].2 zs[k]).2.2], false, false⟩))[G8.length]? = some (.row ⟨63, 3, [wo, wr, .int .i64 (splitG al[i].2 zs[k]).2.2], false, false⟩) := List.getElem?_set_self hz1l
            have uS : UpdH (· = G8.length) Hw (Hw.set G8.length (.row ⟨63, 3, [wo, wr, .int .i64 (splitG al[i].2 zs[k]).2.2], false, false⟩)) := UpdH.set
            have hloc : ∀ q, al[i].1.loc q → q < G8.length := fun q hq => RH.lt (hbe.new uK8) hq
            have low9 : LO (Hw.set G8.length (.row ⟨63, 3, [wo, wr, .int .i64 (splitG al[i].2 zs[k]).2.2], false, false⟩)) al[i].1.loc wo (splitG al[i].2 zs[k]).1 := low.updAway uS (fun q hq h => by have := lwo q hq; simp at this; omega) (fun q hq h => by have := hloc q hq; omega)
            have bwr9 : BH (Hw.set G8.length (.row ⟨63, 3, [wo, wr, .int .i64 (splitG al[i].2 zs[k]).2.2], false, false⟩)) wr (splitG al[i].2 zs[k]).2.1 := bwr.upd uS (fun q hq h => by have := hloc q (cwr q hq); omega)
            have u9 : UpdH no G8 (Hw.set G8.length (.row ⟨63, 3, [wo, wr, .int .i64 (splitG al[i].2 zs[k]).2.2], false, false⟩)) := uA9.then uS (fun q hq h => by omega)
            refine ⟨⟨fun _ => at59 (hms.new (uK8.then uA9 (fun _ _ h => h))) hkz, fun _ => at59 (hms.new (uK8.then uA9 (fun _ _ h => h))) hkz, fun _ => at58 (hall0.new (uK8.then uA9 (fun _ _ h => h))) hia, fun _ => at58 (hall0.new (uK8.then uA9 (fun _ _ h => h))) hia, trivial⟩, ?_⟩
            simp only [go_sem]
            refine AD_loud (v := .undef) (M' := _) rfl (stA) ⟨fun ha => absurd (ha.symm.trans (show ancB _ _ _ _ = true by kernel_rfl)) (by decide), fun ha => absurd (ha.symm.trans (show ancB _ _ _ _ = true by kernel_rfl)) (by decide), fun ha => absurd (ha.symm.trans (show ancB _ _ _ _ = true by kernel_rfl)) (by decide), fun ha => absurd (ha.symm.trans (show ancB _ _ _ _ = true by kernel_rfl)) (by decide), trivial⟩ ?_
            simp only [go_sem]
            have lo9 := lo8.new u9
            have b9 := b8.new u9
            have g9 := get0 (S := [] :: S) hrow9
            have uK9 := uK8.then u9 (fun _ _ h => h)
            (repeat refine W_seq ?_); refine W_regionT [] ?_
            simp only [go_sem, st_a2 g9, st_l2 g9, decide_true, b9.text, st_a1 g9, st_l1 g9, bwr9.text, beq_self_eq_true, st_a0 g9, st_l0 g9]
            refine AT_call rfl rfl (same49 lo9.lh low9.lh (by have := (split_len (m := zs[k]) _ al[i].2 (Nat.le_refl _)); omega)) fun v M1 hd1 h1 => ?_
            obtain ⟨hv, hM⟩ := h1; subst hv; subst hM
            simp only [go_sem, decide_true]
            (repeat refine W_seq ?_)
            refine W_cond (b := false) rfl ?_
            simp only [Bool.false_eq_true, if_false]
            refine W_skip ?_
            simp only [go_sem]
            (repeat refine W_seq ?_); refine W_regionT [] ?_
            simp only [go_sem, show (k : Int) + 1 = ((k + 1 : Nat) : Int) from rfl, wrap_i64 (n := ((k + 1 : Nat) : Int)) (by omega) (by omega)]
            refine ⟨j3 - 1, by omega, _, _, _, _, _, _, _, _, _, _, _, _, _, _, _, _, _, _, _, _, _, _, _, _, _, _, _, _, _, _, _, _, _, _, _, _, _, _, _, _, _, _, _, _, _, _, _, _, _, _, _, _, _, _, _, _, _, _, _, _, _, _, _, _, _, _, _, _, _, _, _, _, _, _, _, _, _, _, _, _, _, _, _, _, _, _, _, _, _, _, _, _, _, _, _, _, _, _, k + 1, _, rfl, by omega, rfl, uK9⟩
          · simp only [listed, go_sem]
            refine AD_read (v := idx (.sl ⟨0, ia, 0⟩ 3 (some 3)) i) (fun M' => indexAddrA Try.prog 58 (.sl ⟨0, ia, 0⟩ 3 (some 3)) (.int .i64 i) M' = some (idx (.sl ⟨0, ia, 0⟩ 3 (some 3)) i) ∧ loadA Try.prog 22 (idx (.sl ⟨0, ia, 0⟩ 3 (some 3)) i) M' = some al[i].1) rfl rfl (fun M' h => by show pureV (indexAddrA Try.prog 58 (.sl ⟨0, ia, 0⟩ 3 (some 3)) (.int .i64 i) M') M' = _; rw [h.1]; rfl) (at58 (hall0.new uK8) hia) ?_
            simp only [go_sem]
            refine AD_read (v := al[i].1) (fun M' => indexAddrA Try.prog 58 (.sl ⟨0, ia, 0⟩ 3 (some 3)) (.int .i64 i) M' = some (idx (.sl ⟨0, ia, 0⟩ 3 (some 3)) i) ∧ loadA Try.prog 22 (idx (.sl ⟨0, ia, 0⟩ 3 (some 3)) i) M' = some al[i].1) rfl rfl (fun M' h => by show pureV (loadA Try.prog 22 (idx (.sl ⟨0, ia, 0⟩ 3 (some 3)) i) M') M' = _; rw [h.2]; rfl) (at58 (hall0.new uK8) hia) ?_
            simp only [go_sem]
            refine AD_read (v := idx (.sl ⟨0, im, 0⟩ 3 (some 3)) k) (fun M' => indexAddrA Try.prog 59 (.sl ⟨0, im, 0⟩ 3 (some 3)) (.int .i64 k) M' = some (idx (.sl ⟨0, im, 0⟩ 3 (some 3)) k) ∧ loadA Try.prog 3 (idx (.sl ⟨0, im, 0⟩ 3 (some 3)) k) M' = some (.int .i64 zs[k])) rfl rfl (fun M' h => by show pureV (indexAddrA Try.prog 59 (.sl ⟨0, im, 0⟩ 3 (some 3)) (.int .i64 k) M') M' = _; rw [h.1]; rfl) (at59 (hms.new uK8) hkz) ?_
            simp only [go_sem]
            refine AD_read (v := .int .i64 zs[k]) (fun M' => indexAddrA Try.prog 59 (.sl ⟨0, im, 0⟩ 3 (some 3)) (.int .i64 k) M' = some (idx (.sl ⟨0, im, 0⟩ 3 (some 3)) k) ∧ loadA Try.prog 3 (idx (.sl ⟨0, im, 0⟩ 3 (some 3)) k) M' = some (.int .i64 zs[k])) rfl rfl (fun M' h => by show pureV (loadA Try.prog 3 (idx (.sl ⟨0, im, 0⟩ 3 (some 3)) k) M') M' = _; rw [h.2]; rfl) (at59 (hms.new uK8) hkz) ?_
            simp only [go_sem]
            refine AD_call rfl rfl rfl (split48 (m := zs[k]) (hbe.new uK8) hble) fun v M1 hd1 h1 => ?_
            obtain ⟨Hw, wo, wr, rfl, rfl, uw, low, lwo, bwr, cwr⟩ := h1
            have hz1 : (Hw ++ [Block.row ⟨63, 3, [.nilsl, .nilsl, .int .i64 0], false, false⟩])[Hw.length]? = some (.row ⟨63, 3, [.nilsl, .nilsl, .int .i64 0], false, false⟩) := by simp
            have stA := st_all (S := [] :: S) hz1 low.st.1 bwr.one.1 (e' := (splitG al[i].2 zs[k]).2.2)
            have hz1l := (List.getElem?_eq_some_iff.1 hz1).1
            have hrow9 : ((Hw ++ [Block.row ⟨63, 3, [.nilsl, .nilsl, .int .i64 0], false, false⟩]).set Hw.length (.row ⟨63, 3, [wo, wr, .int .i64 (splitG al[i].2 zs[k]).2.2], false, false⟩))[Hw.length]? = some (.row ⟨63, 3, [wo, wr, .int .i64 (splitG al[i].2 zs[k]).2.2], false, false⟩) := List.getElem?_set_self hz1l
            have uS : UpdH no Hw ((Hw ++ [Block.row ⟨63, 3, [.nilsl, .nilsl, .int .i64 0], false, false⟩]).set Hw.length (.row ⟨63, 3, [wo, wr, .int .i64 (splitG al[i].2 zs[k]).2.2], false, false⟩)) := (UpdH.push (p := no)).then UpdH.set (fun q hq h => by omega)
            have low9 := low.new uS
            have bwr9 := bwr.new uS
            have u9 : UpdH no G8 _ := uw.then uS (fun _ _ h => h)
            refine ⟨⟨fun _ => at59 (hms.new (uK8.then uw (fun _ _ h => h))) hkz, fun _ => at59 (hms.new (uK8.then uw (fun _ _ h => h))) hkz, fun _ => at58 (hall0.new (uK8.then uw (fun _ _ h => h))) hia, fun _ => at58 (hall0.new (uK8.then uw (fun _ _ h => h))) hia, trivial⟩, ?_⟩
            simp only [go_sem]
            refine AD_loud (v := .ptr ⟨0, Hw.length, 0⟩) (M' := ⟨Hw ++ [Block.row ⟨63, 3, [.nilsl, .nilsl, .int .i64 0], false, false⟩], [] :: S⟩) rfl (by show allocA Try.prog 63 true ⟨Hw, [] :: S⟩ = _; exact alloc_agg (P := Try.prog) (hp := true) (M := ⟨Hw, [] :: S⟩) ti63 rfl rfl rfl (by decide)) ⟨fun _ => at59 (hms.new (uK8.then (uw.then (UpdH.push (p := no)) (fun _ _ h => h)) (fun _ _ h => h))) hkz, fun _ => at59 (hms.new (uK8.then (uw.then (UpdH.push (p := no)) (fun _ _ h => h)) (fun _ _ h => h))) hkz, fun _ => at58 (hall0.new (uK8.then (uw.then (UpdH.push (p := no)) (fun _ _ h => h)) (fun _ _ h => h))) hia, fun _ => at58 (hall0.new (uK8.then (uw.then (UpdH.push (p := no)) (fun _ _ h => h)) (fun _ _ h => h))) hia, trivial⟩ ?_
            simp only [go_sem]
            refine AD_loud (v := .undef) (M' := _) rfl (stA) ⟨fun ha => absurd (ha.symm.trans (show ancB _ _ _ _ = true by kernel_rfl)) (by decide), fun ha => absurd (ha.symm.trans (show ancB _ _ _ _ = true by kernel_rfl)) (by decide), fun ha => absurd (ha.symm.trans (show ancB _ _ _ _ = true by kernel_rfl)) (by decide), fun ha => absurd (ha.symm.trans (show ancB _ _ _ _ = true by kernel_rfl)) (by decide), trivial⟩ ?_
            simp only [go_sem]
            have lo9 := lo8.new u9
            have b9 := b8.new u9
            have g9 := get0 (S := [] :: S) hrow9
            have uK9 := uK8.then u9 (fun _ _ h => h)
            (repeat refine W_seq ?_); refine W_regionT [] ?_
            simp only [go_sem, st_a2 g9, st_l2 g9, decide_true, b9.text, st_a1 g9, st_l1 g9, bwr9.text, beq_self_eq_true, st_a0 g9, st_l0 g9]
            refine AT_call rfl rfl (same49 lo9.lh low9.lh (by have := (split_len (m := zs[k]) _ al[i].2 (Nat.le_refl _)); omega)) fun v M1 hd1 h1 => ?_
            obtain ⟨hv, hM⟩ := h1; subst hv; subst hM
            simp only [go_sem, decide_true]
            (repeat refine W_seq ?_)
            refine W_cond (b := false) rfl ?_
            simp only [Bool.false_eq_true, if_false]
            refine W_skip ?_
            simp only [go_sem]
            (repeat refine W_seq ?_); refine W_regionT [] ?_
            simp only [go_sem, show (k : Int) + 1 = ((k + 1 : Nat) : Int) from rfl, wrap_i64 (n := ((k + 1 : Nat) : Int)) (by omega) (by omega)]
            refine ⟨j3 - 1, by omega, _, _, _, _, _, _, _, _, _, _, _, _, _, _, _, _, _, _, _, _, _, _, _, _, _, _, _, _, _, _, _, _, _, _, _, _, _, _, _, _, _, _, _, _, _, _, _, _, _, _, _, _, _, _, _, _, _, _, _, _, _, _, _, _, _, _, _, _, _, _, _, _, _, _, _, _, _, _, _, _, _, _, _, _, _, _, _, _, _, _, _, _, _, _, _, _, _, _, k + 1, _, rfl, by omega, rfl, uK9⟩
        · (repeat refine W_seq ?_)
          refine W_exit ?_
          simp only [go_sem]
          (repeat refine W_seq ?_); refine W_regionT [] ?_
          simp only [go_sem, show (i : Int) + 1 = ((i + 1 : Nat) : Int) from rfl, wrap_i64 (n := ((i + 1 : Nat) : Int)) (by omega) (by omega)]
          refine ⟨j2 - 1, by omega, _, _, _, _, _, _, _, _, _, _, _, _, _, _, _, _, _, _, _, _, _, _, _, _, _, _, _, _, _, _, _, _, _, _, _, _, _, _, _, _, _, _, _, _, _, _, _, _, _, _, _, _, _, _, _, _, _, _, _, _, _, _, _, _, _, _, _, _, _, _, _, _, _, _, _, _, _, _, _, _, _, _, _, _, _, _, _, _, _, _, _, _, _, _, _, _, _, _, _, i + 1, G9, rfl, by omega, rfl, uK⟩
      · (repeat refine W_seq ?_)
        refine W_exit ?_
        simp only [go_sem]
        (repeat refine W_seq ?_); refine W_regionT [] ?_
        simp only [go_sem]
        refine AT_call rfl rfl (lives02) fun v M1 hd1 h1 => ?_
        obtain ⟨hv, hM⟩ := h1; subst hv; subst hM
        simp only [go_sem]
        exact W_ret ⟨.inr rfl, _, rfl, rfl, rfl⟩
  · have hN' : ¬ (i : Int) < (ws.length : Int) := by omega
    have hlen := len_rd ((hs.new uG).rd (S := [] :: S)) ti58 rfl
    (repeat refine W_seq ?_); refine W_regionT [] ?_
    simp only [go_sem, hlen, hN', decide_true, decide_false]
    (repeat refine W_seq ?_)
    refine W_cond (b := false) rfl ?_
    simp only [Bool.false_eq_true, if_false]
    (repeat refine W_seq ?_)
    refine W_exit ?_
    simp only [go_sem]
    (repeat refine W_seq ?_); refine W_regionT [46, 47] ?_
    simp only [go_sem]
    refine AT_call rfl rfl (giveO (few (n := 200) (bo.bh.rb (S := [] :: S)) (by omega))) fun v M1 hd1 h1 => ?_
    obtain ⟨G1, rfl, u1, b1, c1⟩ := h1
    have bf1 := (bf.new uF).new u1
    have bo1 := bo.bh.new u1
    have htl : (l.take 200).length ≤ 200 := by simp; omega
    generalize l.take 200 = lt at b1 htl
    obtain ⟨v3, G3, a3, b3, u3, l3⟩ := b1.append (S := [] :: S) bf1 (by omega)
    have bf3 := bf1.upd u3 (fun k hk h => by have := c1 k h; have := RH.lt (bf.new uF) hk; omega)
    have bo3 := bo1.upd u3 (fun k hk h => by have := c1 k h; have := RH.lt bo.bh hk; omega)
    have t58 := three58 (H := G3) (S := [] :: S) ⟨bf3.one.2, bf3.one.1⟩ ⟨bo3.one.2, bo3.one.1⟩ ⟨b3.bh.one.2, b3.bh.one.1⟩
    simp only [go_sem, a3, t58]
    have uA : UpdH no H (G3 ++ [Block.row ⟨22, 1, [vf, vo, v3], false, false⟩]) := ((uG.then u1 (fun _ _ h => h)).then u3 (fun k hk h => by have := c1 k h; have := uG.l; omega)).then (UpdH.push (p := no)) (fun _ _ h => h)
    have hall : RH (G3 ++ [Block.row ⟨22, 1, [vf, vo, v3], false, false⟩]) (.sl ⟨0, G3.length, 0⟩ 3 (some 3)) 1 [vf, vo, v3] 3 := .inr ⟨G3.length, 0, some 3, ⟨22, 1, [vf, vo, v3], false, false⟩, rfl, by simp, rfl, rfl, rfl⟩
    have bfA := bf3.new (UpdH.push (p := no) (bs := [Block.row ⟨22, 1, [vf, vo, v3], false, false⟩]))
    have boA := bo3.new (UpdH.push (p := no) (bs := [Block.row ⟨22, 1, [vf, vo, v3], false, false⟩]))
    have b3A := b3.bh.new (UpdH.push (p := no) (bs := [Block.row ⟨22, 1, [vf, vo, v3], false, false⟩]))
    generalize G3.length = ia at hall
    generalize G3 ++ [Block.row ⟨22, 1, [vf, vo, v3], false, false⟩] = GA at uA hall bfA boA b3A
    (repeat refine W_seq ?_); refine W_regionT [51] ?_
    simp only [go_sem]
    refine AT_call rfl rfl (aroundF hm.1 hm.2 (by decide)) fun v M1 hd1 h1 => ?_
    obtain ⟨hv, hM⟩ := h1
    have hmr := around_range (n := m) (k := 31) (by decide)
    generalize around m 31 = mr at hv hmr
    subst hv; subst hM
    simp only [go_sem, three59]
    have hms : RH (GA ++ [Block.row ⟨3, 1, [.int .i64 m, .int .i64 mr, .int .i64 1024], false, false⟩]) (.sl ⟨0, GA.length, 0⟩ 3 (some 3)) 1 ([m, mr, 1024].map (AV.int .i64)) [m, mr, 1024].length := .inr ⟨GA.length, 0, some 3, ⟨3, 1, [.int .i64 m, .int .i64 mr, .int .i64 1024], false, false⟩, rfl, by simp, rfl, rfl, rfl⟩
    have uM := UpdH.push (p := no) (H := GA) (bs := [Block.row ⟨3, 1, [.int .i64 m, .int .i64 mr, .int .i64 1024], false, false⟩])
    have hall0 : RH (GA ++ [Block.row ⟨3, 1, [.int .i64 m, .int .i64 mr, .int .i64 1024], false, false⟩]) (.sl ⟨0, ia, 0⟩ 3 (some 3)) 1 ([(vf, fw), (vo, l), (v3, lt ++ fw)].map (·.1)) [(vf, fw), (vo, l), (v3, lt ++ fw)].length := hall.new uM
    have hel : ∀ w ∈ [(vf, fw), (vo, l), (v3, lt ++ fw)], BH (GA ++ [Block.row ⟨3, 1, [.int .i64 m, .int .i64 mr, .int .i64 1024], false, false⟩]) w.1 w.2 ∧ w.2.length < 1000000 := by
      intro w hw
      simp only [List.mem_cons, List.mem_nil_iff, or_false] at hw
      rcases hw with rfl | rfl | rfl
      · exact ⟨bfA.new uM, by simp only; omega⟩
      · exact ⟨boA.new uM, by simp only; omega⟩
      · exact ⟨b3A.new uM, by simp; omega⟩
    have hzl : [m, mr, 1024].length = 3 := rfl
    have hal : [(vf, fw), (vo, l), (v3, lt ++ fw)].length = 3 := rfl
    generalize [m, mr, 1024] = zs at hms hzl
    generalize [(vf, fw), (vo, l), (v3, lt ++ fw)] = al at hall0 hel hal
    generalize GA.length = im at hms
    generalize GA ++ [Block.row ⟨3, 1, [.int .i64 m, .int .i64 mr, .int .i64 1024], false, false⟩] = G0 at hms hall0 hel
    clear uM hall bfA boA b3A uA
    (repeat refine W_seq ?_); refine W_regionT [] ?_
    simp only [go_sem]
    (repeat refine W_seq ?_)
    refine W_block (W_loop (L_inv (fun j2 env M' => ∃ (y0 y1 y2 y3 y4 y5 y6 y7 y8 y9 y13 y14 y15 y16 y17 y18 y19 y20 y21 y22 y23 y24 y25 y26 y27 y28 y29 y30 y31 y32 y33 y34 y35 y36 y37 y38 y39 y40 y41 y42 y43 y44 y45 y46 y47 y48 y49 y50 y51 y52 y53 y54 y55 y56 y57 y58 y59 y60 y61 y62 y63 y64 y65 y66 y67 y68 y69 y70 y71 y72 y73 y74 y75 y76 y77 y78 y79 y80 y81 y82 y83 y84 y85 y86 y87 y88 y89 y90 y91 y92 y93 y94 y95 y96 y97 y98 y99 y100 y101 : AV) (i : Nat) (G' : List Block), env = [y0, y1, y2, y3, y4, y5, y6, y7, y8, y9, .sl ⟨0, ia, 0⟩ 3 (some 3), .sl ⟨0, im, 0⟩ 3 (some 3), .int .i64 i, y13, y14, y15, y16, y17, y18, y19, y20, y21, y22, y23, y24, y25, y26, y27, y28, y29, y30, y31, y32, y33, y34, y35, y36, y37, y38, y39, y40, y41, y42, y43, y44, y45, y46, y47, y48, y49, y50, y51, y52, y53, y54, y55, y56, y57, y58, y59, y60, y61, y62, y63, y64, y65, y66, y67, y68, y69, y70, y71, y72, y73, y74, y75, y76, y77, y78, y79, y80, y81, y82, y83, y84, y85, y86, y87, y88, y89, y90, y91, y92, y93, y94, y95, y96, y97, y98, y99, y100, y101] ∧ i + j2 = 3 ∧ M' = ⟨G', [] :: S⟩ ∧ UpdH no G0 G') (fun j2 env M2 => ?_) (3) ?_))
    case refine_2 => exact ⟨_, _, _, _, _, _, _, _, _, _, _, _, _, _, _, _, _, _, _, _, _, _, _, _, _, _, _, _, _, _, _, _, _, _, _, _, _, _, _, _, _, _, _, _, _, _, _, _, _, _, _, _, _, _, _, _, _, _, _, _, _, _, _, _, _, _, _, _, _, _, _, _, _, _, _, _, _, _, _, _, _, _, _, _, _, _, _, _, _, _, _, _, _, _, _, _, _, _, _, 0, G0, rfl, rfl, rfl, UpdH.refl⟩
    refine exE fun y0 => exE fun y1 => exE fun y2 => exE fun y3 => exE fun y4 => exE fun y5 => exE fun y6 => exE fun y7 => exE fun y8 => exE fun y9 => exE fun y13 => exE fun y14 => exE fun y15 => exE fun y16 => exE fun y17 => exE fun y18 => exE fun y19 => exE fun y20 => exE fun y21 => exE fun y22 => exE fun y23 => exE fun y24 => exE fun y25 => exE fun y26 => exE fun y27 => exE fun y28 => exE fun y29 => exE fun y30 => exE fun y31 => exE fun y32 => exE fun y33 => exE fun y34 => exE fun y35 => exE fun y36 => exE fun y37 => exE fun y38 => exE fun y39 => exE fun y40 => exE fun y41 => exE fun y42 => exE fun y43 => exE fun y44 => exE fun y45 => exE fun y46 => exE fun y47 => exE fun y48 => exE fun y49 => exE fun y50 => exE fun y51 => exE fun y52 => exE fun y53 => exE fun y54 => exE fun y55 => exE fun y56 => exE fun y57 => exE fun y58 => exE fun y59 => exE fun y60 => exE fun y61 => exE fun y62 => exE fun y63 => exE fun y64 => exE fun y65 => exE fun y66 => exE fun y67 => exE fun y68 => exE fun y69 => exE fun y70 => exE fun y71 => exE fun y72 => exE fun y73 => exE fun y74 => exE fun y75 => exE fun y76 => exE fun y77 => exE fun y78 => exE fun y79 => exE fun y80 => exE fun y81 => exE fun y82 => exE fun y83 => exE fun y84 => exE fun y85 => exE fun y86 => exE fun y87 => exE fun y88 => exE fun y89 => exE fun y90 => exE fun y91 => exE fun y92 => exE fun y93 => exE fun y94 => exE fun y95 => exE fun y96 => exE fun y97 => exE fun y98 => exE fun y99 => exE fun y100 => exE fun y101 => ?_
    rintro ⟨i, G, rfl, hij2, rfl, uI⟩
    (repeat refine W_seq ?_); refine W_regionT [] ?_
    simp only [go_sem]
    (repeat refine W_seq ?_)
    refine W_cond_if rfl (fun hb => ?_) (fun hb => ?_)
    · have hi3 : i < 3 := by simp at hb; omega
      refine W_skip ?_
      simp only [go_sem]
      (repeat refine W_seq ?_)
      refine W_block ?_
      (repeat refine W_seq ?_); refine W_regionT [] ?_
      simp only [go_sem]
      (repeat refine W_seq ?_)
      refine W_block (W_loop (L_inv (fun j3 env M' => ∃ (z0 z1 z2 z3 z4 z5 z6 z7 z8 z9 z14 z15 z16 z17 z18 z19 z20 z21 z22 z23 z24 z25 z26 z27 z28 z29 z30 z31 z32 z33 z34 z35 z36 z37 z38 z39 z40 z41 z42 z43 z44 z45 z46 z47 z48 z49 z50 z51 z52 z53 z54 z55 z56 z57 z58 z59 z60 z61 z62 z63 z64 z65 z66 z67 z68 z69 z70 z71 z72 z73 z74 z75 z76 z77 z78 z79 z80 z81 z82 z83 z84 z85 z86 z87 z88 z89 z90 z91 z92 z93 z94 z95 z96 z97 z98 z99 z100 z101 : AV) (k : Nat) (G' : List Block), env = [z0, z1, z2, z3, z4, z5, z6, z7, z8, z9, .sl ⟨0, ia, 0⟩ 3 (some 3), .sl ⟨0, im, 0⟩ 3 (some 3), .int .i64 i, .int .i64 k, z14, z15, z16, z17, z18, z19, z20, z21, z22, z23, z24, z25, z26, z27, z28, z29, z30, z31, z32, z33, z34, z35, z36, z37, z38, z39, z40, z41, z42, z43, z44, z45, z46, z47, z48, z49, z50, z51, z52, z53, z54, z55, z56, z57, z58, z59, z60, z61, z62, z63, z64, z65, z66, z67, z68, z69, z70, z71, z72, z73, z74, z75, z76, z77, z78, z79, z80, z81, z82, z83, z84, z85, z86, z87, z88, z89, z90, z91, z92, z93, z94, z95, z96, z97, z98, z99, z100, z101] ∧ k + j3 = 3 ∧ M' = ⟨G', [] :: S⟩ ∧ UpdH no G0 G') (fun j3 env M2 => ?_) (3) ?_))
      case refine_2 => exact ⟨_, _, _, _, _, _, _, _, _, _, _, _, _, _, _, _, _, _, _, _, _, _, _, _, _, _, _, _, _, _, _, _, _, _, _, _, _, _, _, _, _, _, _, _, _, _, _, _, _, _, _, _, _, _, _, _, _, _, _, _, _, _, _, _, _, _, _, _, _, _, _, _, _, _, _, _, _, _, _, _, _, _, _, _, _, _, _, _, _, _, _, _, _, _, _, _, _, _, 0, G, rfl, rfl, rfl, uI⟩
      refine exE fun z0 => exE fun z1 => exE fun z2 => exE fun z3 => exE fun z4 => exE fun z5 => exE fun z6 => exE fun z7 => exE fun z8 => exE fun z9 => exE fun z14 => exE fun z15 => exE fun z16 => exE fun z17 => exE fun z18 => exE fun z19 => exE fun z20 => exE fun z21 => exE fun z22 => exE fun z23 => exE fun z24 => exE fun z25 => exE fun z26 => exE fun z27 => exE fun z28 => exE fun z29 => exE fun z30 => exE fun z31 => exE fun z32 => exE fun z33 => exE fun z34 => exE fun z35 => exE fun z36 => exE fun z37 => exE fun z38 => exE fun z39 => exE fun z40 => exE fun z41 => exE fun z42 => exE fun z43 => exE fun z44 => exE fun z45 => exE fun z46 => exE fun z47 => exE fun z48 => exE fun z49 => exE fun z50 => exE fun z51 => exE fun z52 => exE fun z53 => exE fun z54 => exE fun z55 => exE fun z56 => exE fun z57 => exE fun z58 => exE fun z59 => exE fun z60 => exE fun z61 => exE fun z62 => exE fun z63 => exE fun z64 => exE fun z65 => exE fun z66 => exE fun z67 => exE fun z68 => exE fun z69 => exE fun z70 => exE fun z71 => exE fun z72 => exE fun z73 => exE fun z74 => exE fun z75 => exE fun z76 => exE fun z77 => exE fun z78 => exE fun z79 => exE fun z80 => exE fun z81 => exE fun z82 => exE fun z83 => exE fun z84 => exE fun z85 => exE fun z86 => exE fun z87 => exE fun z88 => exE fun z89 => exE fun z90 => exE fun z91 => exE fun z92 => exE fun z93 => exE fun z94 => exE fun z95 => exE fun z96 => exE fun z97 => exE fun z98 => exE fun z99 => exE fun z100 => exE fun z101 => ?_
      rintro ⟨k, G9, rfl, hij3, rfl, uK⟩
      (repeat refine W_seq ?_); refine W_regionT [] ?_
      simp only [go_sem]
      (repeat refine W_seq ?_)
      refine W_cond_if rfl (fun hb => ?_) (fun hb => ?_)
      · have hk3 : k < 3 := by simp at hb; omega
        refine W_skip ?_
        simp only [go_sem]
        (repeat refine W_seq ?_)
        refine W_block ?_
        have hia : i < al.length := by omega
        have hkz : k < zs.length := by omega
        obtain ⟨hbe, hble⟩ := hel _ (List.getElem_mem hia)
        have a58 := at58 (S := [] :: S) (hall0.new uK) hia
        have a59 := at59 (S := [] :: S) (hms.new uK) hkz
        (repeat refine W_seq ?_); refine W_regionC [] [8] [0, 1, 2, 3, 4, 5, 6, 7, 8, 9, 10, 11, 12, 13, 14, 15] [0, 0, 3, 7, 0, 0, 48, 112, 255, 511, 1023, 1023, 1023, 2047, 12287, 32767] mixedM (by kernel_rfl) (by kernel_rfl) (by kernel_rfl) (by kernel_rfl) ?_
        simp only [listed, go_sem, a58.1, a58.2, a59.1, a59.2, List.map_cons, List.map_nil]
        refine AT_call rfl rfl (split47 (m := zs[k]) (hbe.new uK) hble) fun v M1 hd1 h1 => ?_
        obtain ⟨G8, vl, vr, rfl, rfl, u8, lo8, hvl, b8, c8⟩ := h1
        have uK8 := uK.then u8 (fun _ _ h => h)
        simp only [go_sem, List.map_cons, List.map_nil]
        (repeat refine W_seq ?_); refine W_regionX [17] [8, 9, 10] [0, 1, 2, 3, 4, 5, 6, 7, 9, 8, 10] [0, 1, 2, 3, 4, 5, 6, 7, 8, 9, 10] [0, 0, 3, 7, 0, 0, 48, 112, 255, 0, 1023] 9 8 mixedM (by kernel_rfl) (by kernel_rfl) (by kernel_rfl) (by kernel_rfl) (by kernel_rfl) (by kernel_rfl) (by decide) (by decide) (by decide) ?_ ?_
        · simp only [listed, go_sem]
          refine AD_read (v := idx (.sl ⟨0, ia, 0⟩ 3 (some 3)) i) (fun M' => indexAddrA Try.prog 58 (.sl ⟨0, ia, 0⟩ 3 (some 3)) (.int .i64 i) M' = some (idx (.sl ⟨0, ia, 0⟩ 3 (some 3)) i) ∧ loadA Try.prog 22 (idx (.sl ⟨0, ia, 0⟩ 3 (some 3)) i) M' = some al[i].1) rfl rfl (fun M' h => by show pureV (indexAddrA Try.prog 58 (.sl ⟨0, ia, 0⟩ 3 (some 3)) (.int .i64 i) M') M' = _; rw [h.1]; rfl) (at58 (hall0.new uK8) hia) ?_
          simp only [go_sem]
          refine AD_read (v := al[i].1) (fun M' => indexAddrA Try.prog 58 (.sl ⟨0, ia, 0⟩ 3 (some 3)) (.int .i64 i) M' = some (idx (.sl ⟨0, ia, 0⟩ 3 (some 3)) i) ∧ loadA Try.prog 22 (idx (.sl ⟨0, ia, 0⟩ 3 (some 3)) i) M' = some al[i].1) rfl rfl (fun M' h => by show pureV (loadA Try.prog 22 (idx (.sl ⟨0, ia, 0⟩ 3 (some 3)) i) M') M' = _; rw [h.2]; rfl) (at58 (hall0.new uK8) hia) ?_
          simp only [go_sem]
          refine AD_read (v := idx (.sl ⟨0, im, 0⟩ 3 (some 3)) k) (fun M' => indexAddrA Try.prog 59 (.sl ⟨0, im, 0⟩ 3 (some 3)) (.int .i64 k) M' = some (idx (.sl ⟨0, im, 0⟩ 3 (some 3)) k) ∧ loadA Try.prog 3 (idx (.sl ⟨0, im, 0⟩ 3 (some 3)) k) M' = some (.int .i64 zs[k])) rfl rfl (fun M' h => by show pureV (indexAddrA Try.prog 59 (.sl ⟨0, im, 0⟩ 3 (some 3)) (.int .i64 k) M') M' = _; rw [h.1]; rfl) (at59 (hms.new uK8) hkz) ?_
          simp only [go_sem]
          refine AD_read (v := .int .i64 zs[k]) (fun M' => indexAddrA Try.prog 59 (.sl ⟨0, im, 0⟩ 3 (some 3)) (.int .i64 k) M' = some (idx (.sl ⟨0, im, 0⟩ 3 (some 3)) k) ∧ loadA Try.prog 3 (idx (.sl ⟨0, im, 0⟩ 3 (some 3)) k) M' = some (.int .i64 zs[k])) rfl rfl (fun M' h => by show pureV (loadA Try.prog 3 (idx (.sl ⟨0, im, 0⟩ 3 (some 3)) k) M') M' = _; rw [h.2]; rfl) (at59 (hms.new uK8) hkz) ?_
          simp only [go_sem]
          refine AD_loud (v := .ptr ⟨0, G8.length, 0⟩) (M' := ⟨G8 ++ [Block.row ⟨63, 3, [.nilsl, .nilsl, .int .i64 0], false, false⟩], [] :: S⟩) rfl (by show allocA Try.prog 63 true ⟨G8, [] :: S⟩ = _; exact alloc_agg (P := Try.prog) (hp := true) (M := ⟨G8, [] :: S⟩) ti63 rfl rfl rfl (by decide)) ⟨fun _ => at59 (hms.new (uK8.then UpdH.push (fun _ _ h => h))) hkz, fun _ => at59 (hms.new (uK8.then UpdH.push (fun _ _ h => h))) hkz, fun _ => at58 (hall0.new (uK8.then UpdH.push (fun _ _ h => h))) hia, fun _ => at58 (hall0.new (uK8.then UpdH.push (fun _ _ h => h))) hia, trivial⟩ ?_
          simp only [go_sem]
          refine AD_call rfl rfl rfl (split48 (m := zs[k]) ((hbe.new uK8).new (UpdH.push (p := no) (bs := [Block.row ⟨63, 3, [.nilsl, .nilsl, .int .i64 0], false, false⟩]))) hble) fun v M1 hd1 h1 => ?_
          obtain ⟨Hw, wo, wr, rfl, rfl, uw, low, lwo, bwr, cwr⟩ := h1
          have uA9 : UpdH no G8 Hw := (UpdH.push (p := no)).then uw (fun _ _ h => h)
          have hz0 : (G8 ++ [Block.row ⟨63, 3, [.nilsl, .nilsl, .int .i64 0], false, false⟩])[G8.length]? = some (.row ⟨63, 3, [.nilsl, .nilsl, .int .i64 0], false, false⟩) := by simp
          have hz1 := uw.get hz0 (fun h => h)
          have stA := st_all (S := [] :: S) hz1 low.st.1 bwr.one.1 (e' := (splitG al[i].2 zs[k]).2.2)
          have hz1l := (List.getElem?_eq_some_iff.1 hz1).1
          have hrow9 : (Hw.set G8.length (.row ⟨63, 3, [wo, wr, .int .i64 (splitG al[i].2 zs[k]).2.2], false, false⟩))[G8.length]? = some (.row ⟨63, 3, [wo, wr, .int .i64 (splitG al[i].2 zs[k]).2.2], false, false⟩) := List.getElem?_set_self hz1l
          have uS : UpdH (· = G8.length) Hw (Hw.set G8.length (.row ⟨63, 3, [wo, wr, .int .i64 (splitG al[i].2 zs[k]).2.2], false, false⟩)) := UpdH.set
          have hloc : ∀ q, al[i].1.loc q → q < G8.length := fun q hq => RH.lt (hbe.new uK8) hq
          have low9 : LO (Hw.set G8.length (.row ⟨63, 3, [wo, wr, .int .i64 (splitG al[i].2 zs[k]).2.2], false, false⟩)) al[i].1.loc wo (splitG al[i].2 zs[k]).1 := low.updAway uS (fun q hq h => by have := lwo q hq; simp at this; omega) (fun q hq h => by have := hloc q hq; omega)
          have bwr9 : BH (Hw.set G8.length (.row ⟨63, 3, [wo, wr, .int .i64 (splitG al[i].2 zs[k]).2.2], false, false⟩)) wr (splitG al[i].2 zs[k]).2.1 := bwr.upd uS (fun q hq h => by have := hloc q (cwr q hq); omega)
          have u9 : UpdH no G8 (Hw.set G8.length (.row ⟨63, 3, [wo, wr, .int .i64 (splitG al[i].2 zs[k]).2.2], false, false⟩)) := uA9.then uS (fun q hq h => by omega)
          refine ⟨⟨fun _ => at59 (hms.new (uK8.then uA9 (fun _ _ h => h))) hkz, fun _ => at59 (hms.new (uK8.then uA9 (fun _ _ h => h))) hkz, fun _ => at58 (hall0.new (uK8.then uA9 (fun _ _ h => h))) hia, fun _ => at58 (hall0.new (uK8.then uA9 (fun _ _ h => h))) hia, trivial⟩, ?_⟩
          simp only [go_sem]
          refine AD_loud (v := .undef) (M' := _) rfl (stA) ⟨fun ha => absurd (ha.symm.trans (show ancB _ _ _ _ = true by kernel_rfl)) (by decide), fun ha => absurd (ha.symm.trans (show ancB _ _ _ _ = true by kernel_rfl)) (by decide), fun ha => absurd (ha.symm.trans (show ancB _ _ _ _ = true by kernel_rfl)) (by decide), fun ha => absurd (ha.symm.trans (show ancB _ _ _ _ = true by kernel_rfl)) (by decide), trivial⟩ ?_
          simp only [go_sem]
          have lo9 := lo8.new u9
          have b9 := b8.new u9
          have g9 := get0 (S := [] :: S) hrow9
          have uK9 := uK8.then u9 (fun _ _ h => h)
          (repeat refine W_seq ?_); refine W_regionT [] ?_
          simp only [go_sem, st_a2 g9, st_l2 g9, decide_true, b9.text, st_a1 g9, st_l1 g9, bwr9.text, beq_self_eq_true, st_a0 g9, st_l0 g9]
          refine AT_call rfl rfl (same49 lo9.lh low9.lh (by have := (split_len (m := zs[k]) _ al[i].2 (Nat.le_refl _)); omega)) fun v M1 hd1 h1 => ?_
          obtain ⟨hv, hM⟩ := h1; subst hv; subst hM
          simp only [go_sem, decide_true]
          (repeat refine W_seq ?_)
          refine W_cond (b := false) rfl ?_
          simp only [Bool.false_eq_true, if_false]
          refine W_skip ?_
          simp only [go_sem]
          (repeat refine W_seq ?_); refine W_regionT [] ?_
          simp only [go_sem, show (k : Int) + 1 = ((k + 1 : Nat) : Int) from rfl, wrap_i64 (n := ((k + 1 : Nat) : Int)) (by omega) (by omega)]
          refine ⟨j3 - 1, by omega, _, _, _, _, _, _, _, _, _, _, _, _, _, _, _, _, _, _, _, _, _, _, _, _, _, _, _, _, _, _, _, _, _, _, _, _, _, _, _, _, _, _, _, _, _, _, _, _, _, _, _, _, _, _, _, _, _, _, _, _, _, _, _, _, _, _, _, _, _, _, _, _, _, _, _, _, _, _, _, _, _, _, _, _, _, _, _, _, _, _, _, _, _, _, _, _, _, _, k + 1, _, rfl, by omega, rfl, uK9⟩
        · simp only [listed, go_sem]
          refine AD_read (v := idx (.sl ⟨0, ia, 0⟩ 3 (some 3)) i) (fun M' => indexAddrA Try.prog 58 (.sl ⟨0, ia, 0⟩ 3 (some 3)) (.int .i64 i) M' = some (idx (.sl ⟨0, ia, 0⟩ 3 (some 3)) i) ∧ loadA Try.prog 22 (idx (.sl ⟨0, ia, 0⟩ 3 (some 3)) i) M' = some al[i].1) rfl rfl (fun M' h => by show pureV (indexAddrA Try.prog 58 (.sl ⟨0, ia, 0⟩ 3 (some 3)) (.int .i64 i) M') M' = _; rw [h.1]; rfl) (at58 (hall0.new uK8) hia) ?_
          simp only [go_sem]
          refine AD_read (v := al[i].1) (fun M' => indexAddrA Try.prog 58 (.sl ⟨0, ia, 0⟩ 3 (some 3)) (.int .i64 i) M' = some (idx (.sl ⟨0, ia, 0⟩ 3 (some 3)) i) ∧ loadA Try.prog 22 (idx (.sl ⟨0, ia, 0⟩ 3 (some 3)) i) M' = some al[i].1) rfl rfl (fun M' h => by show pureV (loadA Try.prog 22 (idx (.sl ⟨0, ia, 0⟩ 3 (some 3)) i) M') M' = _; rw [h.2]; rfl) (at58 (hall0.new uK8) hia) ?_
          simp only [go_sem]
          refine AD_read (v := idx (.sl ⟨0, im, 0⟩ 3 (some 3)) k) (fun M' => indexAddrA Try.prog 59 (.sl ⟨0, im, 0⟩ 3 (some 3)) (.int .i64 k) M' = some (idx (.sl ⟨0, im, 0⟩ 3 (some 3)) k) ∧ loadA Try.prog 3 (idx (.sl ⟨0, im, 0⟩ 3 (some 3)) k) M' = some (.int .i64 zs[k])) rfl rfl (fun M' h => by show pureV (indexAddrA Try.prog 59 (.sl ⟨0, im, 0⟩ 3 (some 3)) (.int .i64 k) M') M' = _; rw [h.1]; rfl) (at59 (hms.new uK8) hkz) ?_
          simp only [go_sem]
          refine AD_read (v := .int .i64 zs[k]) (fun M' => indexAddrA Try.prog 59 (.sl ⟨0, im, 0⟩ 3 (some 3)) (.int .i64 k) M' = some (idx (.sl ⟨0, im, 0⟩ 3 (some 3)) k) ∧ loadA Try.prog 3 (idx (.sl ⟨0, im, 0⟩ 3 (some 3)) k) M' = some (.int .i64 zs[k])) rfl rfl (fun M' h => by show pureV (loadA Try.prog 3 (idx (.sl ⟨0, im, 0⟩ 3 (some 3)) k) M') M' = _; rw [h.2]; rfl) (at59 (hms.new uK8) hkz) ?_
          simp only [go_sem]
          refine AD_call rfl rfl rfl (split48 (m := zs[k]) (hbe.new uK8) hble) fun v M1 hd1 h1 => ?_
          obtain ⟨Hw, wo, wr, rfl, rfl, uw, low, lwo, bwr, cwr⟩ := h1
          have hz1 : (Hw ++ [Block.row ⟨63, 3, [.nilsl, .nilsl, .int .i64 0], false, false⟩])[Hw.length]? = some (.row ⟨63, 3, [.nilsl, .nilsl, .int .i64 0], false, false⟩) := by simp
          have stA := st_all (S := [] :: S) hz1 low.st.1 bwr.one.1 (e' := (splitG al[i].2 zs[k]).2.2)
          have hz1l := (List.getElem?_eq_some_iff.1 hz1).1
          have hrow9 : ((Hw ++ [Block.row ⟨63, 3, [.nilsl, .nilsl, .int .i64 0], false, false⟩]).set Hw.length (.row ⟨63, 3, [wo, wr, .int .i64 (splitG al[i].2 zs[k]).2.2], false, false⟩))[Hw.length]? = some (.row ⟨63, 3, [wo, wr, .int .i64 (splitG al[i].2 zs[k]).2.2], false, false⟩) := List.getElem?_set_self hz1l
          have uS : UpdH no Hw ((Hw ++ [Block.row ⟨63, 3, [.nilsl, .nilsl, .int .i64 0], false, false⟩]).set Hw.length (.row ⟨63, 3, [wo, wr, .int .i64 (splitG al[i].2 zs[k]).2.2], false, false⟩)) := (UpdH.push (p := no)).then UpdH.set (fun q hq h => by omega)
          have low9 := low.new uS
          have bwr9 := bwr.new uS
          have u9 : UpdH no G8 _ := uw.then uS (fun _ _ h => h)
          refine ⟨⟨fun _ => at59 (hms.new (uK8.then uw (fun _ _ h => h))) hkz, fun _ => at59 (hms.new (uK8.then uw (fun _ _ h => h))) hkz, fun _ => at58 (hall0.new (uK8.then uw (fun _ _ h => h))) hia, fun _ => at58 (hall0.new (uK8.then uw (fun _ _ h => h))) hia, trivial⟩, ?_⟩
          simp only [go_sem]
          refine AD_loud (v := .ptr ⟨0, Hw.length, 0⟩) (M' := ⟨Hw ++ [Block.row ⟨63, 3, [.nilsl, .nilsl, .int .i64 0], false, false⟩], [] :: S⟩) rfl (by show allocA Try.prog 63 true ⟨Hw, [] :: S⟩ = _; exact alloc_agg (P := Try.prog) (hp := true) (M := ⟨Hw, [] :: S⟩) ti63 rfl rfl rfl (by decide)) ⟨fun _ => at59 (hms.new (uK8.then (uw.then (UpdH.push (p := no)) (fun _ _ h => h)) (fun _ _ h => h))) hkz, fun _ => at59 (hms.new (uK8.then (uw.then (UpdH.push (p := no)) (fun _ _ h => h)) (fun _ _ h => h))) hkz, fun _ => at58 (hall0.new (uK8.then (uw.then (UpdH.push (p := no)) (fun _ _ h => h)) (fun _ _ h => h))) hia, fun _ => at58 (hall0.new (uK8.then (uw.then (UpdH.push (p := no)) (fun _ _ h => h)) (fun _ _ h => h))) hia, trivial⟩ ?_
          simp only [go_sem]
          refine AD_loud (v := .undef) (M' := _) rfl (stA) ⟨fun ha => absurd (ha.symm.trans (show ancB _ _ _ _ = true by kernel_rfl)) (by decide), fun ha => absurd (ha.symm.trans (show ancB _ _ _ _ = true by kernel_rfl)) (by decide), fun ha => absurd (ha.symm.trans (show ancB _ _ _ _ = true by kernel_rfl)) (by decide), fun ha => absurd (ha.symm.trans (show ancB _ _ _ _ = true by kernel_rfl)) (by decide), trivial⟩ ?_
          simp only [go_sem]
          have lo9 := lo8.new u9
          have b9 := b8.new u9
          have g9 := get0 (S := [] :: S) hrow9
          have uK9 := uK8.then u9 (fun _ _ h => h)
          (repeat refine W_seq ?_); refine W_regionT [] ?_
          simp only [go_sem, st_a2 g9, st_l2 g9, decide_true, b9.text, st_a1 g9, st_l1 g9, bwr9.text, beq_self_eq_true, st_a0 g9, st_l0 g9]
          refine AT_call rfl rfl (same49 lo9.lh low9.lh (by have := (split_len (m := zs[k]) _ al[i].2 (Nat.le_refl _)); omega)) fun v M1 hd1 h1 => ?_
          obtain ⟨hv, hM⟩ := h1; subst hv; subst hM
          simp only [go_sem, decide_true]
          (repeat refine W_seq ?_)
          refine W_cond (b := false) rfl ?_
          simp only [Bool.false_eq_true, if_false]
          refine W_skip ?_
          simp only [go_sem]
          (repeat refine W_seq ?_); refine W_regionT [] ?_
          simp only [go_sem, show (k : Int) + 1 = ((k + 1 : Nat) : Int) from rfl, wrap_i64 (n := ((k + 1 : Nat) : Int)) (by omega) (by omega)]
          refine ⟨j3 - 1, by omega, _, _, _, _, _, _, _, _, _, _, _, _, _, _, _, _, _, _, _, _, _, _, _, _, _, _, _, _, _, _, _, _, _, _, _, _, _, _, _, _, _, _, _, _, _, _, _, _, _, _, _, _, _, _, _, _, _, _, _, _, _, _, _, _, _, _, _, _, _, _, _, _, _, _, _, _, _, _, _, _, _, _, _, _, _, _, _, _, _, _, _, _, _, _, _, _, _, _, k + 1, _, rfl, by omega, rfl, uK9⟩
      · (repeat refine W_seq ?_)
        refine W_exit ?_
        simp only [go_sem]
        (repeat refine W_seq ?_); refine W_regionT [] ?_
        simp only [go_sem, show (i : Int) + 1 = ((i + 1 : Nat) : Int) from rfl, wrap_i64 (n := ((i + 1 : Nat) : Int)) (by omega) (by omega)]
        refine ⟨j2 - 1, by omega, _, _, _, _, _, _, _, _, _, _, _, _, _, _, _, _, _, _, _, _, _, _, _, _, _, _, _, _, _, _, _, _, _, _, _, _, _, _, _, _, _, _, _, _, _, _, _, _, _, _, _, _, _, _, _, _, _, _, _, _, _, _, _, _, _, _, _, _, _, _, _, _, _, _, _, _, _, _, _, _, _, _, _, _, _, _, _, _, _, _, _, _, _, _, _, _, _, _, _, i + 1, G9, rfl, by omega, rfl, uK⟩
    · (repeat refine W_seq ?_)
      refine W_exit ?_
      simp only [go_sem]
      (repeat refine W_seq ?_); refine W_regionT [] ?_
      simp only [go_sem]
      refine AT_call rfl rfl (lives02) fun v M1 hd1 h1 => ?_
      obtain ⟨hv, hM⟩ := h1; subst hv; subst hM
      simp only [go_sem]
      exact W_ret ⟨.inr rfl, _, rfl, rfl, rfl⟩
end
end Go.Proofs.Ytlpcbfndjffpfaa
