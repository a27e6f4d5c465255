/- The walk of ask.laid and ask.May. -/
import Derived.Test.YtlpcbfndjffpfaaAsks
set_option maxRecDepth 100000
set_option maxHeartbeats 4000000
set_option linter.unusedSimpArgs false
set_option linter.unusedVariables false
namespace Go.Proofs.Ytlpcbfndjffpfaa
open Go.Abs
def fieldsOf (k : Int) : List UInt8 := if k = 100 then [122, 110] else if k = 104 then [102, 110] else if k = 108 then [116] else if k = 110 then [102, 119, 108] else if k = 112 then [102, 109] else if k = 114 then [102, 110, 112, 109] else if k = 116 then [102, 111, 99] else if k = 118 then [102, 111, 100] else if k = 120 then [102] else if k = 122 then [102] else if k = 124 then [102] else if k = 126 then [102, 115, 110] else []
def hasF (k : Int) (f : UInt8) : Bool := (fieldsOf k).any (· == f)
def known (k : Int) : Bool := !(fieldsOf k).isEmpty
def AskR.own (a : AskR) : AskR := { ty := a.ty, tag := a.tag, fid := if hasF a.ty 102 then a.fid else 0, newfid := if hasF a.ty 119 then a.newfid else 0, oldtag := if hasF a.ty 116 then a.oldtag else 0, msize := if hasF a.ty 122 then a.msize else 0, mode := if hasF a.ty 109 then a.mode else 0, perm := if hasF a.ty 112 then a.perm else 0, off := if hasF a.ty 111 then a.off else 0, count := if hasF a.ty 99 then a.count else 0, name := if hasF a.ty 110 then a.name else [], names := if hasF a.ty 108 then a.names else [], size := if hasF a.ty 115 then a.size else 0, data := if hasF a.ty 100 then a.data else [] }
def AskR.words (a : AskR) : List Int := [a.fid, a.newfid, a.msize, a.perm, a.count]
def AskR.head (a : AskR) : Bool := known a.ty && decide (a = a.own) && inB a.tag 0 65535 && inB a.oldtag 0 65535 && inB a.mode 0 255 && inB a.off 0 4611686018427387904 && inB a.size (-1) 4294967294
def AskR.may (a : AskR) : Bool := a.head && (a.words.all fun n => inB n 0 4294967295) && !((a.name :: a.names).any fun s => decide (255 < s.length)) && decide ((a.names.length : Int) ≤ 8) && decide ((a.data.length : Int) ≤ 1024)
theorem fields_no {k : Int} (h100 : ¬ k = 100) (h104 : ¬ k = 104) (h108 : ¬ k = 108) (h110 : ¬ k = 110) (h112 : ¬ k = 112) (h114 : ¬ k = 114) (h116 : ¬ k = 116) (h118 : ¬ k = 118) (h120 : ¬ k = 120) (h122 : ¬ k = 122) (h124 : ¬ k = 124) (h126 : ¬ k = 126) : fieldsOf k = [] := by unfold fieldsOf; simp [h100, h104, h108, h110, h112, h114, h116, h118, h120, h122, h124, h126]
theorem known_no {k : Int} (h100 : ¬ k = 100) (h104 : ¬ k = 104) (h108 : ¬ k = 108) (h110 : ¬ k = 110) (h112 : ¬ k = 112) (h114 : ¬ k = 114) (h116 : ¬ k = 116) (h118 : ¬ k = 118) (h120 : ¬ k = 120) (h122 : ¬ k = 122) (h124 : ¬ k = 124) (h126 : ¬ k = 126) : known k = false := by unfold known; rw [fields_no h100 h104 h108 h110 h112 h114 h116 h118 h120 h122 h124 h126]; rfl
theorem fields100 {k : Int} (h : k = 100) : fieldsOf k = [122, 110] := by subst h; rfl
theorem known100 {k : Int} (h : k = 100) : known k = true := by subst h; rfl
theorem own100 {a : AskR} (h : a.ty = 100) : a.own = ⟨a.ty, a.tag, 0, 0, 0, a.msize, 0, 0, 0, 0, a.name, [], 0, []⟩ := by unfold AskR.own hasF; rw [fields100 h]; rfl
theorem fields104 {k : Int} (h : k = 104) : fieldsOf k = [102, 110] := by subst h; rfl
theorem known104 {k : Int} (h : k = 104) : known k = true := by subst h; rfl
theorem own104 {a : AskR} (h : a.ty = 104) : a.own = ⟨a.ty, a.tag, a.fid, 0, 0, 0, 0, 0, 0, 0, a.name, [], 0, []⟩ := by unfold AskR.own hasF; rw [fields104 h]; rfl
theorem fields108 {k : Int} (h : k = 108) : fieldsOf k = [116] := by subst h; rfl
theorem known108 {k : Int} (h : k = 108) : known k = true := by subst h; rfl
theorem own108 {a : AskR} (h : a.ty = 108) : a.own = ⟨a.ty, a.tag, 0, 0, a.oldtag, 0, 0, 0, 0, 0, [], [], 0, []⟩ := by unfold AskR.own hasF; rw [fields108 h]; rfl
theorem fields110 {k : Int} (h : k = 110) : fieldsOf k = [102, 119, 108] := by subst h; rfl
theorem known110 {k : Int} (h : k = 110) : known k = true := by subst h; rfl
theorem own110 {a : AskR} (h : a.ty = 110) : a.own = ⟨a.ty, a.tag, a.fid, a.newfid, 0, 0, 0, 0, 0, 0, [], a.names, 0, []⟩ := by unfold AskR.own hasF; rw [fields110 h]; rfl
theorem fields112 {k : Int} (h : k = 112) : fieldsOf k = [102, 109] := by subst h; rfl
theorem known112 {k : Int} (h : k = 112) : known k = true := by subst h; rfl
theorem own112 {a : AskR} (h : a.ty = 112) : a.own = ⟨a.ty, a.tag, a.fid, 0, 0, 0, a.mode, 0, 0, 0, [], [], 0, []⟩ := by unfold AskR.own hasF; rw [fields112 h]; rfl
theorem fields114 {k : Int} (h : k = 114) : fieldsOf k = [102, 110, 112, 109] := by subst h; rfl
theorem known114 {k : Int} (h : k = 114) : known k = true := by subst h; rfl
theorem own114 {a : AskR} (h : a.ty = 114) : a.own = ⟨a.ty, a.tag, a.fid, 0, 0, 0, a.mode, a.perm, 0, 0, a.name, [], 0, []⟩ := by unfold AskR.own hasF; rw [fields114 h]; rfl
theorem fields116 {k : Int} (h : k = 116) : fieldsOf k = [102, 111, 99] := by subst h; rfl
theorem known116 {k : Int} (h : k = 116) : known k = true := by subst h; rfl
theorem own116 {a : AskR} (h : a.ty = 116) : a.own = ⟨a.ty, a.tag, a.fid, 0, 0, 0, 0, 0, a.off, a.count, [], [], 0, []⟩ := by unfold AskR.own hasF; rw [fields116 h]; rfl
theorem fields118 {k : Int} (h : k = 118) : fieldsOf k = [102, 111, 100] := by subst h; rfl
theorem known118 {k : Int} (h : k = 118) : known k = true := by subst h; rfl
theorem own118 {a : AskR} (h : a.ty = 118) : a.own = ⟨a.ty, a.tag, a.fid, 0, 0, 0, 0, 0, a.off, 0, [], [], 0, a.data⟩ := by unfold AskR.own hasF; rw [fields118 h]; rfl
theorem fields120 {k : Int} (h : k = 120) : fieldsOf k = [102] := by subst h; rfl
theorem known120 {k : Int} (h : k = 120) : known k = true := by subst h; rfl
theorem own120 {a : AskR} (h : a.ty = 120) : a.own = ⟨a.ty, a.tag, a.fid, 0, 0, 0, 0, 0, 0, 0, [], [], 0, []⟩ := by unfold AskR.own hasF; rw [fields120 h]; rfl
theorem fields122 {k : Int} (h : k = 122) : fieldsOf k = [102] := by subst h; rfl
theorem known122 {k : Int} (h : k = 122) : known k = true := by subst h; rfl
theorem own122 {a : AskR} (h : a.ty = 122) : a.own = ⟨a.ty, a.tag, a.fid, 0, 0, 0, 0, 0, 0, 0, [], [], 0, []⟩ := by unfold AskR.own hasF; rw [fields122 h]; rfl
theorem fields124 {k : Int} (h : k = 124) : fieldsOf k = [102] := by subst h; rfl
theorem known124 {k : Int} (h : k = 124) : known k = true := by subst h; rfl
theorem own124 {a : AskR} (h : a.ty = 124) : a.own = ⟨a.ty, a.tag, a.fid, 0, 0, 0, 0, 0, 0, 0, [], [], 0, []⟩ := by unfold AskR.own hasF; rw [fields124 h]; rfl
theorem fields126 {k : Int} (h : k = 126) : fieldsOf k = [102, 115, 110] := by subst h; rfl
theorem known126 {k : Int} (h : k = 126) : known k = true := by subst h; rfl
theorem own126 {a : AskR} (h : a.ty = 126) : a.own = ⟨a.ty, a.tag, a.fid, 0, 0, 0, 0, 0, 0, 0, a.name, [], a.size, []⟩ := by unfold AskR.own hasF; rw [fields126 h]; rfl
section
variable {H H' : List Block} {S : List (List Block)} {M' : Mem}
theorem cells_st2 (b : AskR) {vn vd : AV} (h1 : vn.st = true) (h2 : vd.st = true) : (b.cells vn vd).all AV.st = true := by
  simp [AskR.cells, h1, h2]; simp [AV.st, AV.lev0]
theorem cells_lev {b : AskR} {vn vd : AV} (h1 : vn.lev0 = true) (h2 : vd.lev0 = true) : lev0s (b.cells vn vd) = true := by simp [AskR.cells, lev0s, h1, h2, AV.lev0]
theorem bld3 {p q r : Int} : buildA Try.prog 72 [(0, .int .i64 p), (1, .int .i64 q), (2, .int .i64 r)] = some (.agg (AskR.cells ⟨p, q, r, 0, 0, 0, 0, 0, 0, 0, [], [], 0, []⟩ .nilsl .nilsl)) := by unfold buildA; simp only [ti72]; rfl
theorem in97' {n lo hi : Int} : AC Try.prog 97 [.int .i64 n, .int .i64 lo, .int .i64 hi] ⟨H, S⟩ (fun v M' => v = .bool (inB n lo hi) ∧ M' = ⟨H, S⟩) := in97
theorem TH.lev0' {v : AV} {l : List (List UInt8)} (h : TH H v l) : v.lev0 = true := RH.lev0 h
theorem laid96 {x : AV} {a : AskR} (hx : AskV H x a) : AC Try.prog 96 [x] ⟨H, S⟩ (fun v M' => (∃ b wn wd, v = .tup [.agg (AskR.cells b wn wd), .bool (known a.ty)] ∧ (known a.ty = true → b = a.own) ∧ TH H wn b.names ∧ BH H wd b.data) ∧ M' = ⟨H, S⟩) := by
  refine AC_of_WE Try.func96 rfl ?_
  simp only [Try.ntmps96, List.length_cons, List.length_nil, List.replicate, List.cons_append, List.nil_append, mem_enter]
  obtain ⟨vn, vd, rfl, hn, hd⟩ := hx
  have c11 := fun b : AskR => cells_st2 b hn.one.1 hd.one.1
  have c00 := fun b : AskR => cells_st2 b (vn := .nilsl) (vd := .nilsl) rfl rfl
  have c10 := fun b : AskR => cells_st2 b (vn := vn) (vd := .nilsl) hn.one.1 rfl
  have c01 := fun b : AskR => cells_st2 b (vn := .nilsl) (vd := vd) rfl hd.one.1
  (repeat refine W_seq ?_); refine W_regionT [] ?_
  simp only [go_sem, kboxL (c11 a), kallocL, List.nil_append, List.cons_append, List.length_nil, List.length_cons, Nat.zero_add, Nat.reduceAdd]
  (repeat refine W_seq ?_); refine W_regionT [] ?_
  simp only [go_sem, bld3, kallocL, kS_2 (c00 _), ka0_0, ka1_0, ka2_0, ka3_0, ka4_0, ka5_0, ka6_0, ka7_0, ka8_0, ka9_0, ka10_0, ka11_0, ka12_0, ka13_0, kl0_0, kl1_0, kl2_0, kl3_0, kl4_0, kl5_0, kl6_0, kl7_0, kl8_0, kl9_0, kl10_0, kl11_0, kl12_0, kl13_0, kL_0, ka0_1, ka1_1, ka2_1, ka3_1, ka4_1, ka5_1, ka6_1, ka7_1, ka8_1, ka9_1, ka10_1, ka11_1, ka12_1, ka13_1, kl0_1, kl1_1, kl2_1, kl3_1, kl4_1, kl5_1, kl6_1, kl7_1, kl8_1, kl9_1, kl10_1, kl11_1, kl12_1, kl13_1, kL_1, List.nil_append, List.cons_append, List.length_nil, List.length_cons, Nat.zero_add, Nat.reduceAdd]
  (repeat refine W_seq ?_); refine W_regionT [] ?_
  simp only [go_sem, ka0_0, ka1_0, ka2_0, ka3_0, ka4_0, ka5_0, ka6_0, ka7_0, ka8_0, ka9_0, ka10_0, ka11_0, ka12_0, ka13_0, kl0_0, ks0_0, kl1_0, ks1_0, kl2_0, ks2_0, kl3_0, ks3_0, kl4_0, ks4_0, kl5_0, ks5_0, kl6_0, ks6_0, kl7_0, ks7_0, kl8_0, ks8_0, kl9_0, ks9_0, kl10_0, ks10_0, kl11_0, kl12_0, ks12_0, kl13_0, kL_0, ka0_1, ka1_1, ka2_1, ka3_1, ka4_1, ka5_1, ka6_1, ka7_1, ka8_1, ka9_1, ka10_1, ka11_1, ka12_1, ka13_1, kl0_1, ks0_1, kl1_1, ks1_1, kl2_1, ks2_1, kl3_1, ks3_1, kl4_1, ks4_1, kl5_1, ks5_1, kl6_1, ks6_1, kl7_1, ks7_1, kl8_1, ks8_1, kl9_1, ks9_1, kl10_1, ks10_1, kl11_1, kl12_1, ks12_1, kl13_1, kL_1, ka0_2, ka1_2, ka2_2, ka3_2, ka4_2, ka5_2, ka6_2, ka7_2, ka8_2, ka9_2, ka10_2, ka11_2, ka12_2, ka13_2, kl0_2, ks0_2, kl1_2, ks1_2, kl2_2, ks2_2, kl3_2, ks3_2, kl4_2, ks4_2, kl5_2, ks5_2, kl6_2, ks6_2, kl7_2, ks7_2, kl8_2, ks8_2, kl9_2, ks9_2, kl10_2, ks10_2, kl11_2, kl12_2, ks12_2, kl13_2, kL_2]
  (repeat refine W_seq ?_)
  refine W_block ?_
  (repeat refine W_seq ?_); refine W_regionT [] ?_
  simp only [go_sem]
  (repeat refine W_seq ?_)
  refine W_cond_if rfl (fun hb => ?_) (fun hb => ?_)
  · have hk : a.ty = 100 := by simpa using hb
    (repeat refine W_seq ?_); refine W_regionD [] [5, 7, 9] [0, 1, 2, 3, 4, 5, 6, 7, 8, 9] [0, 1, 0, 4, 0, 16, 51, 115, 255, 511] mixedM (by kernel_rfl) (by kernel_rfl) (by kernel_rfl) ?_
    simp only [listed, go_sem]
    refine AD_read (v := .ptr ⟨S.length + 1, 0, 5⟩) (fun M' => M'.get (S.length + 1) 0 = some (Block.row ⟨72, 14, AskR.cells a vn vd, false, false⟩)) rfl rfl (fun M' h => by show pureV (fieldAddrA Try.prog 72 (.ptr ⟨S.length + 1, 0, 0⟩) 5 M') M' = _; rw [ka5 h]; rfl) (gt0) ?_
    simp only [go_sem]
    refine AD_read (v := .int .i64 a.msize) (fun M' => M'.get (S.length + 1) 0 = some (Block.row ⟨72, 14, AskR.cells a vn vd, false, false⟩)) rfl rfl (fun M' h => by show pureV (loadA Try.prog 3 (.ptr ⟨S.length + 1, 0, 5⟩) M') M' = _; rw [kl5 h]; rfl) (gt0) ?_
    simp only [go_sem]
    refine AD_read (v := .ptr ⟨S.length + 1, 0, 10⟩) (fun M' => M'.get (S.length + 1) 0 = some (Block.row ⟨72, 14, AskR.cells a vn vd, false, false⟩)) rfl rfl (fun M' h => by show pureV (fieldAddrA Try.prog 72 (.ptr ⟨S.length + 1, 0, 0⟩) 10 M') M' = _; rw [ka10 h]; rfl) (gt0) ?_
    simp only [go_sem]
    refine AD_read (v := .str a.name) (fun M' => M'.get (S.length + 1) 0 = some (Block.row ⟨72, 14, AskR.cells a vn vd, false, false⟩)) rfl rfl (fun M' h => by show pureV (loadA Try.prog 9 (.ptr ⟨S.length + 1, 0, 10⟩) M') M' = _; rw [kl10 h]; rfl) (gt0) ?_
    simp only [go_sem]
    refine AD_read (v := .ptr ⟨S.length + 1, 2, 2⟩) (fun M' => M'.get (S.length + 1) 2 = some (Block.row ⟨72, 14, AskR.cells ⟨a.ty, a.tag, a.fid, 0, 0, 0, 0, 0, 0, 0, [], [], 0, []⟩ .nilsl .nilsl, false, false⟩)) rfl rfl (fun M' h => by show pureV (fieldAddrA Try.prog 72 (.ptr ⟨S.length + 1, 2, 0⟩) 2 M') M' = _; rw [ka2 h]; rfl) (gt2) ?_
    simp only [go_sem]
    refine AD_loud (v := .undef) (M' := ⟨H, [Block.row ⟨72, 14, AskR.cells a vn vd, false, false⟩, Block.row ⟨72, 14, AskR.cells AskR.z .nilsl .nilsl, false, false⟩, Block.row ⟨72, 14, AskR.cells ⟨a.ty, a.tag, 0, 0, 0, 0, 0, 0, 0, 0, [], [], 0, []⟩ .nilsl .nilsl, false, false⟩] :: S⟩) rfl (ks2_2 (a := ⟨a.ty, a.tag, a.fid, 0, 0, 0, 0, 0, 0, 0, [], [], 0, []⟩) (vn := .nilsl) (vd := .nilsl)) ⟨fun ha => absurd (ha.symm.trans (show ancB _ _ _ _ = true by kernel_rfl)) (by decide), fun _ => gt0, fun _ => gt0, fun _ => gt0, fun _ => gt0, trivial⟩ ?_
    simp only [go_sem]
    refine AD_read (v := .ptr ⟨S.length + 1, 2, 5⟩) (fun M' => M'.get (S.length + 1) 2 = some (Block.row ⟨72, 14, AskR.cells ⟨a.ty, a.tag, 0, 0, 0, 0, 0, 0, 0, 0, [], [], 0, []⟩ .nilsl .nilsl, false, false⟩)) rfl rfl (fun M' h => by show pureV (fieldAddrA Try.prog 72 (.ptr ⟨S.length + 1, 2, 0⟩) 5 M') M' = _; rw [ka5 h]; rfl) (gt2) ?_
    simp only [go_sem]
    refine AD_loud (v := .undef) (M' := ⟨H, [Block.row ⟨72, 14, AskR.cells a vn vd, false, false⟩, Block.row ⟨72, 14, AskR.cells AskR.z .nilsl .nilsl, false, false⟩, Block.row ⟨72, 14, AskR.cells ⟨a.ty, a.tag, 0, 0, 0, a.msize, 0, 0, 0, 0, [], [], 0, []⟩ .nilsl .nilsl, false, false⟩] :: S⟩) rfl (ks5_2 (a := ⟨a.ty, a.tag, 0, 0, 0, 0, 0, 0, 0, 0, [], [], 0, []⟩) (vn := .nilsl) (vd := .nilsl)) ⟨fun ha => absurd (ha.symm.trans (show ancB _ _ _ _ = true by kernel_rfl)) (by decide), fun ha => absurd (ha.symm.trans (show ancB _ _ _ _ = true by kernel_rfl)) (by decide), fun _ => gt0, fun _ => gt0, fun ha => absurd (ha.symm.trans (show ancB _ _ _ _ = true by kernel_rfl)) (by decide), fun ha => absurd (ha.symm.trans (show ancB _ _ _ _ = true by kernel_rfl)) (by decide), trivial⟩ ?_
    simp only [go_sem]
    refine AD_read (v := .ptr ⟨S.length + 1, 2, 10⟩) (fun M' => M'.get (S.length + 1) 2 = some (Block.row ⟨72, 14, AskR.cells ⟨a.ty, a.tag, 0, 0, 0, a.msize, 0, 0, 0, 0, [], [], 0, []⟩ .nilsl .nilsl, false, false⟩)) rfl rfl (fun M' h => by show pureV (fieldAddrA Try.prog 72 (.ptr ⟨S.length + 1, 2, 0⟩) 10 M') M' = _; rw [ka10 h]; rfl) (gt2) ?_
    simp only [go_sem]
    refine AD_loud (v := .undef) (M' := ⟨H, [Block.row ⟨72, 14, AskR.cells a vn vd, false, false⟩, Block.row ⟨72, 14, AskR.cells AskR.z .nilsl .nilsl, false, false⟩, Block.row ⟨72, 14, AskR.cells ⟨a.ty, a.tag, 0, 0, 0, a.msize, 0, 0, 0, 0, a.name, [], 0, []⟩ .nilsl .nilsl, false, false⟩] :: S⟩) rfl (ks10_2 (a := ⟨a.ty, a.tag, 0, 0, 0, a.msize, 0, 0, 0, 0, [], [], 0, []⟩) (vn := .nilsl) (vd := .nilsl)) ⟨fun ha => absurd (ha.symm.trans (show ancB _ _ _ _ = true by kernel_rfl)) (by decide), fun ha => absurd (ha.symm.trans (show ancB _ _ _ _ = true by kernel_rfl)) (by decide), fun ha => absurd (ha.symm.trans (show ancB _ _ _ _ = true by kernel_rfl)) (by decide), fun ha => absurd (ha.symm.trans (show ancB _ _ _ _ = true by kernel_rfl)) (by decide), fun ha => absurd (ha.symm.trans (show ancB _ _ _ _ = true by kernel_rfl)) (by decide), fun ha => absurd (ha.symm.trans (show ancB _ _ _ _ = true by kernel_rfl)) (by decide), fun ha => absurd (ha.symm.trans (show ancB _ _ _ _ = true by kernel_rfl)) (by decide), trivial⟩ ?_
    simp only [go_sem]
    (repeat refine W_seq ?_); refine W_regionT [] ?_
    simp only [go_sem, kL_2, kS_1 (c00 _), kS_1 (c10 _), kS_1 (c01 _)]
    have ho := own100 hk
    refine W_ret ⟨.inr rfl, [.agg (AskR.cells ⟨a.ty, a.tag, 0, 0, 0, a.msize, 0, 0, 0, 0, a.name, [], 0, []⟩ .nilsl .nilsl), .bool true], ?_, ?_, ⟨_, .nilsl, .nilsl, ?_, fun _ => ho.symm, TH.nil, BH.nil⟩, rfl⟩
    · show (match loadA Try.prog 72 (.ptr ⟨S.length + 1, 1, 0⟩) _, resE Try.prog _ _ [.tmp 3] with | some v, some vs => some (v :: vs) | _, _ => none) = _
      rw [kL_1]; rfl
    · show lev0s [AV.agg _, .bool true] = true
      have e : lev0s (AskR.cells ⟨a.ty, a.tag, 0, 0, 0, a.msize, 0, 0, 0, 0, a.name, [], 0, []⟩ .nilsl .nilsl) = true := cells_lev rfl rfl
      simp only [lev0s, AV.lev0, e, Bool.and_true]
    · rw [known100 hk]; rfl
  · have n100 : ¬ a.ty = 100 := by simpa using hb
    (repeat refine W_seq ?_); refine W_regionT [] ?_
    simp only [go_sem]
    (repeat refine W_seq ?_)
    refine W_cond_if rfl (fun hb => ?_) (fun hb => ?_)
    · have hk : a.ty = 104 := by simpa using hb
      (repeat refine W_seq ?_); refine W_regionT [] ?_
      simp only [go_sem, ka0_0, ka1_0, ka2_0, ka3_0, ka4_0, ka5_0, ka6_0, ka7_0, ka8_0, ka9_0, ka10_0, ka11_0, ka12_0, ka13_0, kl0_0, ks0_0, kl1_0, ks1_0, kl2_0, ks2_0, kl3_0, ks3_0, kl4_0, ks4_0, kl5_0, ks5_0, kl6_0, ks6_0, kl7_0, ks7_0, kl8_0, ks8_0, kl9_0, ks9_0, kl10_0, ks10_0, kl11_0, kl12_0, ks12_0, kl13_0, kL_0, ka0_1, ka1_1, ka2_1, ka3_1, ka4_1, ka5_1, ka6_1, ka7_1, ka8_1, ka9_1, ka10_1, ka11_1, ka12_1, ka13_1, kl0_1, ks0_1, kl1_1, ks1_1, kl2_1, ks2_1, kl3_1, ks3_1, kl4_1, ks4_1, kl5_1, ks5_1, kl6_1, ks6_1, kl7_1, ks7_1, kl8_1, ks8_1, kl9_1, ks9_1, kl10_1, ks10_1, kl11_1, kl12_1, ks12_1, kl13_1, kL_1, ka0_2, ka1_2, ka2_2, ka3_2, ka4_2, ka5_2, ka6_2, ka7_2, ka8_2, ka9_2, ka10_2, ka11_2, ka12_2, ka13_2, kl0_2, ks0_2, kl1_2, ks1_2, kl2_2, ks2_2, kl3_2, ks3_2, kl4_2, ks4_2, kl5_2, ks5_2, kl6_2, ks6_2, kl7_2, ks7_2, kl8_2, ks8_2, kl9_2, ks9_2, kl10_2, ks10_2, kl11_2, kl12_2, ks12_2, kl13_2, kL_2]
      (repeat refine W_seq ?_); refine W_regionT [] ?_
      simp only [go_sem, kL_2, kS_1 (c00 _), kS_1 (c10 _), kS_1 (c01 _)]
      have ho := own104 hk
      refine W_ret ⟨.inr rfl, [.agg (AskR.cells ⟨a.ty, a.tag, a.fid, 0, 0, 0, 0, 0, 0, 0, a.name, [], 0, []⟩ .nilsl .nilsl), .bool true], ?_, ?_, ⟨_, .nilsl, .nilsl, ?_, fun _ => ho.symm, TH.nil, BH.nil⟩, rfl⟩
      · show (match loadA Try.prog 72 (.ptr ⟨S.length + 1, 1, 0⟩) _, resE Try.prog _ _ [.tmp 3] with | some v, some vs => some (v :: vs) | _, _ => none) = _
        rw [kL_1]; rfl
      · show lev0s [AV.agg _, .bool true] = true
        have e : lev0s (AskR.cells ⟨a.ty, a.tag, a.fid, 0, 0, 0, 0, 0, 0, 0, a.name, [], 0, []⟩ .nilsl .nilsl) = true := cells_lev rfl rfl
        simp only [lev0s, AV.lev0, e, Bool.and_true]
      · rw [known104 hk]; rfl
    · have n104 : ¬ a.ty = 104 := by simpa using hb
      (repeat refine W_seq ?_); refine W_regionT [] ?_
      simp only [go_sem]
      (repeat refine W_seq ?_)
      refine W_cond_if rfl (fun hb => ?_) (fun hb => ?_)
      · have hk : a.ty = 108 := by simpa using hb
        (repeat refine W_seq ?_); refine W_regionD [] [3, 5] [0, 1, 2, 3, 4, 5] [0, 1, 0, 4, 15, 31] mixedM (by kernel_rfl) (by kernel_rfl) (by kernel_rfl) ?_
        simp only [listed, go_sem]
        refine AD_read (v := .ptr ⟨S.length + 1, 0, 4⟩) (fun M' => M'.get (S.length + 1) 0 = some (Block.row ⟨72, 14, AskR.cells a vn vd, false, false⟩)) rfl rfl (fun M' h => by show pureV (fieldAddrA Try.prog 72 (.ptr ⟨S.length + 1, 0, 0⟩) 4 M') M' = _; rw [ka4 h]; rfl) (gt0) ?_
        simp only [go_sem]
        refine AD_read (v := .int .i64 a.oldtag) (fun M' => M'.get (S.length + 1) 0 = some (Block.row ⟨72, 14, AskR.cells a vn vd, false, false⟩)) rfl rfl (fun M' h => by show pureV (loadA Try.prog 3 (.ptr ⟨S.length + 1, 0, 4⟩) M') M' = _; rw [kl4 h]; rfl) (gt0) ?_
        simp only [go_sem]
        refine AD_read (v := .ptr ⟨S.length + 1, 2, 2⟩) (fun M' => M'.get (S.length + 1) 2 = some (Block.row ⟨72, 14, AskR.cells ⟨a.ty, a.tag, a.fid, 0, 0, 0, 0, 0, 0, 0, [], [], 0, []⟩ .nilsl .nilsl, false, false⟩)) rfl rfl (fun M' h => by show pureV (fieldAddrA Try.prog 72 (.ptr ⟨S.length + 1, 2, 0⟩) 2 M') M' = _; rw [ka2 h]; rfl) (gt2) ?_
        simp only [go_sem]
        refine AD_loud (v := .undef) (M' := ⟨H, [Block.row ⟨72, 14, AskR.cells a vn vd, false, false⟩, Block.row ⟨72, 14, AskR.cells AskR.z .nilsl .nilsl, false, false⟩, Block.row ⟨72, 14, AskR.cells ⟨a.ty, a.tag, 0, 0, 0, 0, 0, 0, 0, 0, [], [], 0, []⟩ .nilsl .nilsl, false, false⟩] :: S⟩) rfl (ks2_2 (a := ⟨a.ty, a.tag, a.fid, 0, 0, 0, 0, 0, 0, 0, [], [], 0, []⟩) (vn := .nilsl) (vd := .nilsl)) ⟨fun ha => absurd (ha.symm.trans (show ancB _ _ _ _ = true by kernel_rfl)) (by decide), fun _ => gt0, fun _ => gt0, trivial⟩ ?_
        simp only [go_sem]
        refine AD_read (v := .ptr ⟨S.length + 1, 2, 4⟩) (fun M' => M'.get (S.length + 1) 2 = some (Block.row ⟨72, 14, AskR.cells ⟨a.ty, a.tag, 0, 0, 0, 0, 0, 0, 0, 0, [], [], 0, []⟩ .nilsl .nilsl, false, false⟩)) rfl rfl (fun M' h => by show pureV (fieldAddrA Try.prog 72 (.ptr ⟨S.length + 1, 2, 0⟩) 4 M') M' = _; rw [ka4 h]; rfl) (gt2) ?_
        simp only [go_sem]
        refine AD_loud (v := .undef) (M' := ⟨H, [Block.row ⟨72, 14, AskR.cells a vn vd, false, false⟩, Block.row ⟨72, 14, AskR.cells AskR.z .nilsl .nilsl, false, false⟩, Block.row ⟨72, 14, AskR.cells ⟨a.ty, a.tag, 0, 0, a.oldtag, 0, 0, 0, 0, 0, [], [], 0, []⟩ .nilsl .nilsl, false, false⟩] :: S⟩) rfl (ks4_2 (a := ⟨a.ty, a.tag, 0, 0, 0, 0, 0, 0, 0, 0, [], [], 0, []⟩) (vn := .nilsl) (vd := .nilsl)) ⟨fun ha => absurd (ha.symm.trans (show ancB _ _ _ _ = true by kernel_rfl)) (by decide), fun ha => absurd (ha.symm.trans (show ancB _ _ _ _ = true by kernel_rfl)) (by decide), fun ha => absurd (ha.symm.trans (show ancB _ _ _ _ = true by kernel_rfl)) (by decide), fun ha => absurd (ha.symm.trans (show ancB _ _ _ _ = true by kernel_rfl)) (by decide), trivial⟩ ?_
        simp only [go_sem]
        (repeat refine W_seq ?_); refine W_regionT [] ?_
        simp only [go_sem, kL_2, kS_1 (c00 _), kS_1 (c10 _), kS_1 (c01 _)]
        have ho := own108 hk
        refine W_ret ⟨.inr rfl, [.agg (AskR.cells ⟨a.ty, a.tag, 0, 0, a.oldtag, 0, 0, 0, 0, 0, [], [], 0, []⟩ .nilsl .nilsl), .bool true], ?_, ?_, ⟨_, .nilsl, .nilsl, ?_, fun _ => ho.symm, TH.nil, BH.nil⟩, rfl⟩
        · show (match loadA Try.prog 72 (.ptr ⟨S.length + 1, 1, 0⟩) _, resE Try.prog _ _ [.tmp 3] with | some v, some vs => some (v :: vs) | _, _ => none) = _
          rw [kL_1]; rfl
        · show lev0s [AV.agg _, .bool true] = true
          have e : lev0s (AskR.cells ⟨a.ty, a.tag, 0, 0, a.oldtag, 0, 0, 0, 0, 0, [], [], 0, []⟩ .nilsl .nilsl) = true := cells_lev rfl rfl
          simp only [lev0s, AV.lev0, e, Bool.and_true]
        · rw [known108 hk]; rfl
      · have n108 : ¬ a.ty = 108 := by simpa using hb
        (repeat refine W_seq ?_); refine W_regionT [] ?_
        simp only [go_sem]
        (repeat refine W_seq ?_)
        refine W_cond_if rfl (fun hb => ?_) (fun hb => ?_)
        · have hk : a.ty = 110 := by simpa using hb
          (repeat refine W_seq ?_); refine W_regionD [] [5, 7] [0, 1, 2, 3, 4, 5, 6, 7] [0, 1, 0, 4, 3, 19, 63, 127] mixedM (by kernel_rfl) (by kernel_rfl) (by kernel_rfl) ?_
          simp only [listed, go_sem]
          refine AD_read (v := .ptr ⟨S.length + 1, 0, 3⟩) (fun M' => M'.get (S.length + 1) 0 = some (Block.row ⟨72, 14, AskR.cells a vn vd, false, false⟩)) rfl rfl (fun M' h => by show pureV (fieldAddrA Try.prog 72 (.ptr ⟨S.length + 1, 0, 0⟩) 3 M') M' = _; rw [ka3 h]; rfl) (gt0) ?_
          simp only [go_sem]
          refine AD_read (v := .int .i64 a.newfid) (fun M' => M'.get (S.length + 1) 0 = some (Block.row ⟨72, 14, AskR.cells a vn vd, false, false⟩)) rfl rfl (fun M' h => by show pureV (loadA Try.prog 3 (.ptr ⟨S.length + 1, 0, 3⟩) M') M' = _; rw [kl3 h]; rfl) (gt0) ?_
          simp only [go_sem]
          refine AD_read (v := .ptr ⟨S.length + 1, 0, 11⟩) (fun M' => M'.get (S.length + 1) 0 = some (Block.row ⟨72, 14, AskR.cells a vn vd, false, false⟩)) rfl rfl (fun M' h => by show pureV (fieldAddrA Try.prog 72 (.ptr ⟨S.length + 1, 0, 0⟩) 11 M') M' = _; rw [ka11 h]; rfl) (gt0) ?_
          simp only [go_sem]
          refine AD_read (v := vn) (fun M' => M'.get (S.length + 1) 0 = some (Block.row ⟨72, 14, AskR.cells a vn vd, false, false⟩)) rfl rfl (fun M' h => by show pureV (loadA Try.prog 70 (.ptr ⟨S.length + 1, 0, 11⟩) M') M' = _; rw [kl11 h]; rfl) (gt0) ?_
          simp only [go_sem]
          refine AD_read (v := .ptr ⟨S.length + 1, 2, 3⟩) (fun M' => M'.get (S.length + 1) 2 = some (Block.row ⟨72, 14, AskR.cells ⟨a.ty, a.tag, a.fid, 0, 0, 0, 0, 0, 0, 0, [], [], 0, []⟩ .nilsl .nilsl, false, false⟩)) rfl rfl (fun M' h => by show pureV (fieldAddrA Try.prog 72 (.ptr ⟨S.length + 1, 2, 0⟩) 3 M') M' = _; rw [ka3 h]; rfl) (gt2) ?_
          simp only [go_sem]
          refine AD_loud (v := .undef) (M' := ⟨H, [Block.row ⟨72, 14, AskR.cells a vn vd, false, false⟩, Block.row ⟨72, 14, AskR.cells AskR.z .nilsl .nilsl, false, false⟩, Block.row ⟨72, 14, AskR.cells ⟨a.ty, a.tag, a.fid, a.newfid, 0, 0, 0, 0, 0, 0, [], [], 0, []⟩ .nilsl .nilsl, false, false⟩] :: S⟩) rfl (ks3_2 (a := ⟨a.ty, a.tag, a.fid, 0, 0, 0, 0, 0, 0, 0, [], [], 0, []⟩) (vn := .nilsl) (vd := .nilsl)) ⟨fun ha => absurd (ha.symm.trans (show ancB _ _ _ _ = true by kernel_rfl)) (by decide), fun _ => gt0, fun _ => gt0, fun ha => absurd (ha.symm.trans (show ancB _ _ _ _ = true by kernel_rfl)) (by decide), fun ha => absurd (ha.symm.trans (show ancB _ _ _ _ = true by kernel_rfl)) (by decide), trivial⟩ ?_
          simp only [go_sem]
          refine AD_read (v := .ptr ⟨S.length + 1, 2, 11⟩) (fun M' => M'.get (S.length + 1) 2 = some (Block.row ⟨72, 14, AskR.cells ⟨a.ty, a.tag, a.fid, a.newfid, 0, 0, 0, 0, 0, 0, [], [], 0, []⟩ .nilsl .nilsl, false, false⟩)) rfl rfl (fun M' h => by show pureV (fieldAddrA Try.prog 72 (.ptr ⟨S.length + 1, 2, 0⟩) 11 M') M' = _; rw [ka11 h]; rfl) (gt2) ?_
          simp only [go_sem]
          refine AD_loud (v := .undef) (M' := ⟨H, [Block.row ⟨72, 14, AskR.cells a vn vd, false, false⟩, Block.row ⟨72, 14, AskR.cells AskR.z .nilsl .nilsl, false, false⟩, Block.row ⟨72, 14, AskR.cells ⟨a.ty, a.tag, a.fid, a.newfid, 0, 0, 0, 0, 0, 0, [], [], 0, []⟩ vn .nilsl, false, false⟩] :: S⟩) rfl (ks11_2 (a := ⟨a.ty, a.tag, a.fid, a.newfid, 0, 0, 0, 0, 0, 0, [], [], 0, []⟩) (vn := .nilsl) (vd := .nilsl) hn.one.1 hn.one.2) ⟨fun ha => absurd (ha.symm.trans (show ancB _ _ _ _ = true by kernel_rfl)) (by decide), fun ha => absurd (ha.symm.trans (show ancB _ _ _ _ = true by kernel_rfl)) (by decide), fun ha => absurd (ha.symm.trans (show ancB _ _ _ _ = true by kernel_rfl)) (by decide), fun ha => absurd (ha.symm.trans (show ancB _ _ _ _ = true by kernel_rfl)) (by decide), fun ha => absurd (ha.symm.trans (show ancB _ _ _ _ = true by kernel_rfl)) (by decide), fun ha => absurd (ha.symm.trans (show ancB _ _ _ _ = true by kernel_rfl)) (by decide), trivial⟩ ?_
          simp only [go_sem]
          (repeat refine W_seq ?_); refine W_regionT [] ?_
          simp only [go_sem, kL_2, kS_1 (c00 _), kS_1 (c10 _), kS_1 (c01 _)]
          have ho := own110 hk
          refine W_ret ⟨.inr rfl, [.agg (AskR.cells ⟨a.ty, a.tag, a.fid, a.newfid, 0, 0, 0, 0, 0, 0, [], a.names, 0, []⟩ vn .nilsl), .bool true], ?_, ?_, ⟨_, vn, .nilsl, ?_, fun _ => ho.symm, hn, BH.nil⟩, rfl⟩
          · show (match loadA Try.prog 72 (.ptr ⟨S.length + 1, 1, 0⟩) _, resE Try.prog _ _ [.tmp 3] with | some v, some vs => some (v :: vs) | _, _ => none) = _
            rw [kL_1]; rfl
          · show lev0s [AV.agg _, .bool true] = true
            have e : lev0s (AskR.cells ⟨a.ty, a.tag, a.fid, a.newfid, 0, 0, 0, 0, 0, 0, [], a.names, 0, []⟩ vn .nilsl) = true := cells_lev hn.lev0' rfl
            simp only [lev0s, AV.lev0, e, Bool.and_true]
          · rw [known110 hk]; rfl
        · have n110 : ¬ a.ty = 110 := by simpa using hb
          (repeat refine W_seq ?_); refine W_regionT [] ?_
          simp only [go_sem]
          (repeat refine W_seq ?_)
          refine W_cond_if rfl (fun hb => ?_) (fun hb => ?_)
          · have hk : a.ty = 112 := by simpa using hb
            (repeat refine W_seq ?_); refine W_regionT [] ?_
            simp only [go_sem, ka0_0, ka1_0, ka2_0, ka3_0, ka4_0, ka5_0, ka6_0, ka7_0, ka8_0, ka9_0, ka10_0, ka11_0, ka12_0, ka13_0, kl0_0, ks0_0, kl1_0, ks1_0, kl2_0, ks2_0, kl3_0, ks3_0, kl4_0, ks4_0, kl5_0, ks5_0, kl6_0, ks6_0, kl7_0, ks7_0, kl8_0, ks8_0, kl9_0, ks9_0, kl10_0, ks10_0, kl11_0, kl12_0, ks12_0, kl13_0, kL_0, ka0_1, ka1_1, ka2_1, ka3_1, ka4_1, ka5_1, ka6_1, ka7_1, ka8_1, ka9_1, ka10_1, ka11_1, ka12_1, ka13_1, kl0_1, ks0_1, kl1_1, ks1_1, kl2_1, ks2_1, kl3_1, ks3_1, kl4_1, ks4_1, kl5_1, ks5_1, kl6_1, ks6_1, kl7_1, ks7_1, kl8_1, ks8_1, kl9_1, ks9_1, kl10_1, ks10_1, kl11_1, kl12_1, ks12_1, kl13_1, kL_1, ka0_2, ka1_2, ka2_2, ka3_2, ka4_2, ka5_2, ka6_2, ka7_2, ka8_2, ka9_2, ka10_2, ka11_2, ka12_2, ka13_2, kl0_2, ks0_2, kl1_2, ks1_2, kl2_2, ks2_2, kl3_2, ks3_2, kl4_2, ks4_2, kl5_2, ks5_2, kl6_2, ks6_2, kl7_2, ks7_2, kl8_2, ks8_2, kl9_2, ks9_2, kl10_2, ks10_2, kl11_2, kl12_2, ks12_2, kl13_2, kL_2]
            (repeat refine W_seq ?_); refine W_regionT [] ?_
            simp only [go_sem, kL_2, kS_1 (c00 _), kS_1 (c10 _), kS_1 (c01 _)]
            have ho := own112 hk
            refine W_ret ⟨.inr rfl, [.agg (AskR.cells ⟨a.ty, a.tag, a.fid, 0, 0, 0, a.mode, 0, 0, 0, [], [], 0, []⟩ .nilsl .nilsl), .bool true], ?_, ?_, ⟨_, .nilsl, .nilsl, ?_, fun _ => ho.symm, TH.nil, BH.nil⟩, rfl⟩
            · show (match loadA Try.prog 72 (.ptr ⟨S.length + 1, 1, 0⟩) _, resE Try.prog _ _ [.tmp 3] with | some v, some vs => some (v :: vs) | _, _ => none) = _
              rw [kL_1]; rfl
            · show lev0s [AV.agg _, .bool true] = true
              have e : lev0s (AskR.cells ⟨a.ty, a.tag, a.fid, 0, 0, 0, a.mode, 0, 0, 0, [], [], 0, []⟩ .nilsl .nilsl) = true := cells_lev rfl rfl
              simp only [lev0s, AV.lev0, e, Bool.and_true]
            · rw [known112 hk]; rfl
          · have n112 : ¬ a.ty = 112 := by simpa using hb
            (repeat refine W_seq ?_); refine W_regionT [] ?_
            simp only [go_sem]
            (repeat refine W_seq ?_)
            refine W_cond_if rfl (fun hb => ?_) (fun hb => ?_)
            · have hk : a.ty = 114 := by simpa using hb
              (repeat refine W_seq ?_); refine W_regionD [] [7, 9, 11] [0, 1, 2, 3, 4, 5, 6, 7, 8, 9, 10, 11] [0, 1, 0, 4, 0, 16, 3, 67, 207, 463, 1023, 2047] mixedM (by kernel_rfl) (by kernel_rfl) (by kernel_rfl) ?_
              simp only [listed, go_sem]
              refine AD_read (v := .ptr ⟨S.length + 1, 0, 10⟩) (fun M' => M'.get (S.length + 1) 0 = some (Block.row ⟨72, 14, AskR.cells a vn vd, false, false⟩)) rfl rfl (fun M' h => by show pureV (fieldAddrA Try.prog 72 (.ptr ⟨S.length + 1, 0, 0⟩) 10 M') M' = _; rw [ka10 h]; rfl) (gt0) ?_
              simp only [go_sem]
              refine AD_read (v := .str a.name) (fun M' => M'.get (S.length + 1) 0 = some (Block.row ⟨72, 14, AskR.cells a vn vd, false, false⟩)) rfl rfl (fun M' h => by show pureV (loadA Try.prog 9 (.ptr ⟨S.length + 1, 0, 10⟩) M') M' = _; rw [kl10 h]; rfl) (gt0) ?_
              simp only [go_sem]
              refine AD_read (v := .ptr ⟨S.length + 1, 0, 7⟩) (fun M' => M'.get (S.length + 1) 0 = some (Block.row ⟨72, 14, AskR.cells a vn vd, false, false⟩)) rfl rfl (fun M' h => by show pureV (fieldAddrA Try.prog 72 (.ptr ⟨S.length + 1, 0, 0⟩) 7 M') M' = _; rw [ka7 h]; rfl) (gt0) ?_
              simp only [go_sem]
              refine AD_read (v := .int .i64 a.perm) (fun M' => M'.get (S.length + 1) 0 = some (Block.row ⟨72, 14, AskR.cells a vn vd, false, false⟩)) rfl rfl (fun M' h => by show pureV (loadA Try.prog 3 (.ptr ⟨S.length + 1, 0, 7⟩) M') M' = _; rw [kl7 h]; rfl) (gt0) ?_
              simp only [go_sem]
              refine AD_read (v := .ptr ⟨S.length + 1, 0, 6⟩) (fun M' => M'.get (S.length + 1) 0 = some (Block.row ⟨72, 14, AskR.cells a vn vd, false, false⟩)) rfl rfl (fun M' h => by show pureV (fieldAddrA Try.prog 72 (.ptr ⟨S.length + 1, 0, 0⟩) 6 M') M' = _; rw [ka6 h]; rfl) (gt0) ?_
              simp only [go_sem]
              refine AD_read (v := .int .i64 a.mode) (fun M' => M'.get (S.length + 1) 0 = some (Block.row ⟨72, 14, AskR.cells a vn vd, false, false⟩)) rfl rfl (fun M' h => by show pureV (loadA Try.prog 3 (.ptr ⟨S.length + 1, 0, 6⟩) M') M' = _; rw [kl6 h]; rfl) (gt0) ?_
              simp only [go_sem]
              refine AD_read (v := .ptr ⟨S.length + 1, 2, 10⟩) (fun M' => M'.get (S.length + 1) 2 = some (Block.row ⟨72, 14, AskR.cells ⟨a.ty, a.tag, a.fid, 0, 0, 0, 0, 0, 0, 0, [], [], 0, []⟩ .nilsl .nilsl, false, false⟩)) rfl rfl (fun M' h => by show pureV (fieldAddrA Try.prog 72 (.ptr ⟨S.length + 1, 2, 0⟩) 10 M') M' = _; rw [ka10 h]; rfl) (gt2) ?_
              simp only [go_sem]
              refine AD_loud (v := .undef) (M' := ⟨H, [Block.row ⟨72, 14, AskR.cells a vn vd, false, false⟩, Block.row ⟨72, 14, AskR.cells AskR.z .nilsl .nilsl, false, false⟩, Block.row ⟨72, 14, AskR.cells ⟨a.ty, a.tag, a.fid, 0, 0, 0, 0, 0, 0, 0, a.name, [], 0, []⟩ .nilsl .nilsl, false, false⟩] :: S⟩) rfl (ks10_2 (a := ⟨a.ty, a.tag, a.fid, 0, 0, 0, 0, 0, 0, 0, [], [], 0, []⟩) (vn := .nilsl) (vd := .nilsl)) ⟨fun ha => absurd (ha.symm.trans (show ancB _ _ _ _ = true by kernel_rfl)) (by decide), fun _ => gt0, fun _ => gt0, fun _ => gt0, fun _ => gt0, fun ha => absurd (ha.symm.trans (show ancB _ _ _ _ = true by kernel_rfl)) (by decide), fun ha => absurd (ha.symm.trans (show ancB _ _ _ _ = true by kernel_rfl)) (by decide), trivial⟩ ?_
              simp only [go_sem]
              refine AD_read (v := .ptr ⟨S.length + 1, 2, 7⟩) (fun M' => M'.get (S.length + 1) 2 = some (Block.row ⟨72, 14, AskR.cells ⟨a.ty, a.tag, a.fid, 0, 0, 0, 0, 0, 0, 0, a.name, [], 0, []⟩ .nilsl .nilsl, false, false⟩)) rfl rfl (fun M' h => by show pureV (fieldAddrA Try.prog 72 (.ptr ⟨S.length + 1, 2, 0⟩) 7 M') M' = _; rw [ka7 h]; rfl) (gt2) ?_
              simp only [go_sem]
              refine AD_loud (v := .undef) (M' := ⟨H, [Block.row ⟨72, 14, AskR.cells a vn vd, false, false⟩, Block.row ⟨72, 14, AskR.cells AskR.z .nilsl .nilsl, false, false⟩, Block.row ⟨72, 14, AskR.cells ⟨a.ty, a.tag, a.fid, 0, 0, 0, 0, a.perm, 0, 0, a.name, [], 0, []⟩ .nilsl .nilsl, false, false⟩] :: S⟩) rfl (ks7_2 (a := ⟨a.ty, a.tag, a.fid, 0, 0, 0, 0, 0, 0, 0, a.name, [], 0, []⟩) (vn := .nilsl) (vd := .nilsl)) ⟨fun ha => absurd (ha.symm.trans (show ancB _ _ _ _ = true by kernel_rfl)) (by decide), fun ha => absurd (ha.symm.trans (show ancB _ _ _ _ = true by kernel_rfl)) (by decide), fun _ => gt0, fun _ => gt0, fun ha => absurd (ha.symm.trans (show ancB _ _ _ _ = true by kernel_rfl)) (by decide), fun ha => absurd (ha.symm.trans (show ancB _ _ _ _ = true by kernel_rfl)) (by decide), fun ha => absurd (ha.symm.trans (show ancB _ _ _ _ = true by kernel_rfl)) (by decide), fun ha => absurd (ha.symm.trans (show ancB _ _ _ _ = true by kernel_rfl)) (by decide), trivial⟩ ?_
              simp only [go_sem]
              refine AD_read (v := .ptr ⟨S.length + 1, 2, 6⟩) (fun M' => M'.get (S.length + 1) 2 = some (Block.row ⟨72, 14, AskR.cells ⟨a.ty, a.tag, a.fid, 0, 0, 0, 0, a.perm, 0, 0, a.name, [], 0, []⟩ .nilsl .nilsl, false, false⟩)) rfl rfl (fun M' h => by show pureV (fieldAddrA Try.prog 72 (.ptr ⟨S.length + 1, 2, 0⟩) 6 M') M' = _; rw [ka6 h]; rfl) (gt2) ?_
              simp only [go_sem]
              refine AD_loud (v := .undef) (M' := ⟨H, [Block.row ⟨72, 14, AskR.cells a vn vd, false, false⟩, Block.row ⟨72, 14, AskR.cells AskR.z .nilsl .nilsl, false, false⟩, Block.row ⟨72, 14, AskR.cells ⟨a.ty, a.tag, a.fid, 0, 0, 0, a.mode, a.perm, 0, 0, a.name, [], 0, []⟩ .nilsl .nilsl, false, false⟩] :: S⟩) rfl (ks6_2 (a := ⟨a.ty, a.tag, a.fid, 0, 0, 0, 0, a.perm, 0, 0, a.name, [], 0, []⟩) (vn := .nilsl) (vd := .nilsl)) ⟨fun ha => absurd (ha.symm.trans (show ancB _ _ _ _ = true by kernel_rfl)) (by decide), fun ha => absurd (ha.symm.trans (show ancB _ _ _ _ = true by kernel_rfl)) (by decide), fun ha => absurd (ha.symm.trans (show ancB _ _ _ _ = true by kernel_rfl)) (by decide), fun ha => absurd (ha.symm.trans (show ancB _ _ _ _ = true by kernel_rfl)) (by decide), fun ha => absurd (ha.symm.trans (show ancB _ _ _ _ = true by kernel_rfl)) (by decide), fun ha => absurd (ha.symm.trans (show ancB _ _ _ _ = true by kernel_rfl)) (by decide), fun ha => absurd (ha.symm.trans (show ancB _ _ _ _ = true by kernel_rfl)) (by decide), fun ha => absurd (ha.symm.trans (show ancB _ _ _ _ = true by kernel_rfl)) (by decide), fun ha => absurd (ha.symm.trans (show ancB _ _ _ _ = true by kernel_rfl)) (by decide), trivial⟩ ?_
              simp only [go_sem]
              (repeat refine W_seq ?_); refine W_regionT [] ?_
              simp only [go_sem, kL_2, kS_1 (c00 _), kS_1 (c10 _), kS_1 (c01 _)]
              have ho := own114 hk
              refine W_ret ⟨.inr rfl, [.agg (AskR.cells ⟨a.ty, a.tag, a.fid, 0, 0, 0, a.mode, a.perm, 0, 0, a.name, [], 0, []⟩ .nilsl .nilsl), .bool true], ?_, ?_, ⟨_, .nilsl, .nilsl, ?_, fun _ => ho.symm, TH.nil, BH.nil⟩, rfl⟩
              · show (match loadA Try.prog 72 (.ptr ⟨S.length + 1, 1, 0⟩) _, resE Try.prog _ _ [.tmp 3] with | some v, some vs => some (v :: vs) | _, _ => none) = _
                rw [kL_1]; rfl
              · show lev0s [AV.agg _, .bool true] = true
                have e : lev0s (AskR.cells ⟨a.ty, a.tag, a.fid, 0, 0, 0, a.mode, a.perm, 0, 0, a.name, [], 0, []⟩ .nilsl .nilsl) = true := cells_lev rfl rfl
                simp only [lev0s, AV.lev0, e, Bool.and_true]
              · rw [known114 hk]; rfl
            · have n114 : ¬ a.ty = 114 := by simpa using hb
              (repeat refine W_seq ?_); refine W_regionT [] ?_
              simp only [go_sem]
              (repeat refine W_seq ?_)
              refine W_cond_if rfl (fun hb => ?_) (fun hb => ?_)
              · have hk : a.ty = 116 := by simpa using hb
                (repeat refine W_seq ?_); refine W_regionD [] [5, 7] [0, 1, 2, 3, 4, 5, 6, 7] [0, 1, 0, 4, 3, 19, 63, 127] mixedM (by kernel_rfl) (by kernel_rfl) (by kernel_rfl) ?_
                simp only [listed, go_sem]
                refine AD_read (v := .ptr ⟨S.length + 1, 0, 8⟩) (fun M' => M'.get (S.length + 1) 0 = some (Block.row ⟨72, 14, AskR.cells a vn vd, false, false⟩)) rfl rfl (fun M' h => by show pureV (fieldAddrA Try.prog 72 (.ptr ⟨S.length + 1, 0, 0⟩) 8 M') M' = _; rw [ka8 h]; rfl) (gt0) ?_
                simp only [go_sem]
                refine AD_read (v := .int .i64 a.off) (fun M' => M'.get (S.length + 1) 0 = some (Block.row ⟨72, 14, AskR.cells a vn vd, false, false⟩)) rfl rfl (fun M' h => by show pureV (loadA Try.prog 3 (.ptr ⟨S.length + 1, 0, 8⟩) M') M' = _; rw [kl8 h]; rfl) (gt0) ?_
                simp only [go_sem]
                refine AD_read (v := .ptr ⟨S.length + 1, 0, 9⟩) (fun M' => M'.get (S.length + 1) 0 = some (Block.row ⟨72, 14, AskR.cells a vn vd, false, false⟩)) rfl rfl (fun M' h => by show pureV (fieldAddrA Try.prog 72 (.ptr ⟨S.length + 1, 0, 0⟩) 9 M') M' = _; rw [ka9 h]; rfl) (gt0) ?_
                simp only [go_sem]
                refine AD_read (v := .int .i64 a.count) (fun M' => M'.get (S.length + 1) 0 = some (Block.row ⟨72, 14, AskR.cells a vn vd, false, false⟩)) rfl rfl (fun M' h => by show pureV (loadA Try.prog 3 (.ptr ⟨S.length + 1, 0, 9⟩) M') M' = _; rw [kl9 h]; rfl) (gt0) ?_
                simp only [go_sem]
                refine AD_read (v := .ptr ⟨S.length + 1, 2, 8⟩) (fun M' => M'.get (S.length + 1) 2 = some (Block.row ⟨72, 14, AskR.cells ⟨a.ty, a.tag, a.fid, 0, 0, 0, 0, 0, 0, 0, [], [], 0, []⟩ .nilsl .nilsl, false, false⟩)) rfl rfl (fun M' h => by show pureV (fieldAddrA Try.prog 72 (.ptr ⟨S.length + 1, 2, 0⟩) 8 M') M' = _; rw [ka8 h]; rfl) (gt2) ?_
                simp only [go_sem]
                refine AD_loud (v := .undef) (M' := ⟨H, [Block.row ⟨72, 14, AskR.cells a vn vd, false, false⟩, Block.row ⟨72, 14, AskR.cells AskR.z .nilsl .nilsl, false, false⟩, Block.row ⟨72, 14, AskR.cells ⟨a.ty, a.tag, a.fid, 0, 0, 0, 0, 0, a.off, 0, [], [], 0, []⟩ .nilsl .nilsl, false, false⟩] :: S⟩) rfl (ks8_2 (a := ⟨a.ty, a.tag, a.fid, 0, 0, 0, 0, 0, 0, 0, [], [], 0, []⟩) (vn := .nilsl) (vd := .nilsl)) ⟨fun ha => absurd (ha.symm.trans (show ancB _ _ _ _ = true by kernel_rfl)) (by decide), fun _ => gt0, fun _ => gt0, fun ha => absurd (ha.symm.trans (show ancB _ _ _ _ = true by kernel_rfl)) (by decide), fun ha => absurd (ha.symm.trans (show ancB _ _ _ _ = true by kernel_rfl)) (by decide), trivial⟩ ?_
                simp only [go_sem]
                refine AD_read (v := .ptr ⟨S.length + 1, 2, 9⟩) (fun M' => M'.get (S.length + 1) 2 = some (Block.row ⟨72, 14, AskR.cells ⟨a.ty, a.tag, a.fid, 0, 0, 0, 0, 0, a.off, 0, [], [], 0, []⟩ .nilsl .nilsl, false, false⟩)) rfl rfl (fun M' h => by show pureV (fieldAddrA Try.prog 72 (.ptr ⟨S.length + 1, 2, 0⟩) 9 M') M' = _; rw [ka9 h]; rfl) (gt2) ?_
                simp only [go_sem]
                refine AD_loud (v := .undef) (M' := ⟨H, [Block.row ⟨72, 14, AskR.cells a vn vd, false, false⟩, Block.row ⟨72, 14, AskR.cells AskR.z .nilsl .nilsl, false, false⟩, Block.row ⟨72, 14, AskR.cells ⟨a.ty, a.tag, a.fid, 0, 0, 0, 0, 0, a.off, a.count, [], [], 0, []⟩ .nilsl .nilsl, false, false⟩] :: S⟩) rfl (ks9_2 (a := ⟨a.ty, a.tag, a.fid, 0, 0, 0, 0, 0, a.off, 0, [], [], 0, []⟩) (vn := .nilsl) (vd := .nilsl)) ⟨fun ha => absurd (ha.symm.trans (show ancB _ _ _ _ = true by kernel_rfl)) (by decide), fun ha => absurd (ha.symm.trans (show ancB _ _ _ _ = true by kernel_rfl)) (by decide), fun ha => absurd (ha.symm.trans (show ancB _ _ _ _ = true by kernel_rfl)) (by decide), fun ha => absurd (ha.symm.trans (show ancB _ _ _ _ = true by kernel_rfl)) (by decide), fun ha => absurd (ha.symm.trans (show ancB _ _ _ _ = true by kernel_rfl)) (by decide), fun ha => absurd (ha.symm.trans (show ancB _ _ _ _ = true by kernel_rfl)) (by decide), trivial⟩ ?_
                simp only [go_sem]
                (repeat refine W_seq ?_); refine W_regionT [] ?_
                simp only [go_sem, kL_2, kS_1 (c00 _), kS_1 (c10 _), kS_1 (c01 _)]
                have ho := own116 hk
                refine W_ret ⟨.inr rfl, [.agg (AskR.cells ⟨a.ty, a.tag, a.fid, 0, 0, 0, 0, 0, a.off, a.count, [], [], 0, []⟩ .nilsl .nilsl), .bool true], ?_, ?_, ⟨_, .nilsl, .nilsl, ?_, fun _ => ho.symm, TH.nil, BH.nil⟩, rfl⟩
                · show (match loadA Try.prog 72 (.ptr ⟨S.length + 1, 1, 0⟩) _, resE Try.prog _ _ [.tmp 3] with | some v, some vs => some (v :: vs) | _, _ => none) = _
                  rw [kL_1]; rfl
                · show lev0s [AV.agg _, .bool true] = true
                  have e : lev0s (AskR.cells ⟨a.ty, a.tag, a.fid, 0, 0, 0, 0, 0, a.off, a.count, [], [], 0, []⟩ .nilsl .nilsl) = true := cells_lev rfl rfl
                  simp only [lev0s, AV.lev0, e, Bool.and_true]
                · rw [known116 hk]; rfl
              · have n116 : ¬ a.ty = 116 := by simpa using hb
                (repeat refine W_seq ?_); refine W_regionT [] ?_
                simp only [go_sem]
                (repeat refine W_seq ?_)
                refine W_cond_if rfl (fun hb => ?_) (fun hb => ?_)
                · have hk : a.ty = 118 := by simpa using hb
                  (repeat refine W_seq ?_); refine W_regionD [] [5, 7] [0, 1, 2, 3, 4, 5, 6, 7] [0, 1, 0, 4, 3, 19, 63, 127] mixedM (by kernel_rfl) (by kernel_rfl) (by kernel_rfl) ?_
                  simp only [listed, go_sem]
                  refine AD_read (v := .ptr ⟨S.length + 1, 0, 8⟩) (fun M' => M'.get (S.length + 1) 0 = some (Block.row ⟨72, 14, AskR.cells a vn vd, false, false⟩)) rfl rfl (fun M' h => by show pureV (fieldAddrA Try.prog 72 (.ptr ⟨S.length + 1, 0, 0⟩) 8 M') M' = _; rw [ka8 h]; rfl) (gt0) ?_
                  simp only [go_sem]
                  refine AD_read (v := .int .i64 a.off) (fun M' => M'.get (S.length + 1) 0 = some (Block.row ⟨72, 14, AskR.cells a vn vd, false, false⟩)) rfl rfl (fun M' h => by show pureV (loadA Try.prog 3 (.ptr ⟨S.length + 1, 0, 8⟩) M') M' = _; rw [kl8 h]; rfl) (gt0) ?_
                  simp only [go_sem]
                  refine AD_read (v := .ptr ⟨S.length + 1, 0, 13⟩) (fun M' => M'.get (S.length + 1) 0 = some (Block.row ⟨72, 14, AskR.cells a vn vd, false, false⟩)) rfl rfl (fun M' h => by show pureV (fieldAddrA Try.prog 72 (.ptr ⟨S.length + 1, 0, 0⟩) 13 M') M' = _; rw [ka13 h]; rfl) (gt0) ?_
                  simp only [go_sem]
                  refine AD_read (v := vd) (fun M' => M'.get (S.length + 1) 0 = some (Block.row ⟨72, 14, AskR.cells a vn vd, false, false⟩)) rfl rfl (fun M' h => by show pureV (loadA Try.prog 22 (.ptr ⟨S.length + 1, 0, 13⟩) M') M' = _; rw [kl13 h]; rfl) (gt0) ?_
                  simp only [go_sem]
                  refine AD_read (v := .ptr ⟨S.length + 1, 2, 8⟩) (fun M' => M'.get (S.length + 1) 2 = some (Block.row ⟨72, 14, AskR.cells ⟨a.ty, a.tag, a.fid, 0, 0, 0, 0, 0, 0, 0, [], [], 0, []⟩ .nilsl .nilsl, false, false⟩)) rfl rfl (fun M' h => by show pureV (fieldAddrA Try.prog 72 (.ptr ⟨S.length + 1, 2, 0⟩) 8 M') M' = _; rw [ka8 h]; rfl) (gt2) ?_
                  simp only [go_sem]
                  refine AD_loud (v := .undef) (M' := ⟨H, [Block.row ⟨72, 14, AskR.cells a vn vd, false, false⟩, Block.row ⟨72, 14, AskR.cells AskR.z .nilsl .nilsl, false, false⟩, Block.row ⟨72, 14, AskR.cells ⟨a.ty, a.tag, a.fid, 0, 0, 0, 0, 0, a.off, 0, [], [], 0, []⟩ .nilsl .nilsl, false, false⟩] :: S⟩) rfl (ks8_2 (a := ⟨a.ty, a.tag, a.fid, 0, 0, 0, 0, 0, 0, 0, [], [], 0, []⟩) (vn := .nilsl) (vd := .nilsl)) ⟨fun ha => absurd (ha.symm.trans (show ancB _ _ _ _ = true by kernel_rfl)) (by decide), fun _ => gt0, fun _ => gt0, fun ha => absurd (ha.symm.trans (show ancB _ _ _ _ = true by kernel_rfl)) (by decide), fun ha => absurd (ha.symm.trans (show ancB _ _ _ _ = true by kernel_rfl)) (by decide), trivial⟩ ?_
                  simp only [go_sem]
                  refine AD_read (v := .ptr ⟨S.length + 1, 2, 13⟩) (fun M' => M'.get (S.length + 1) 2 = some (Block.row ⟨72, 14, AskR.cells ⟨a.ty, a.tag, a.fid, 0, 0, 0, 0, 0, a.off, 0, [], [], 0, []⟩ .nilsl .nilsl, false, false⟩)) rfl rfl (fun M' h => by show pureV (fieldAddrA Try.prog 72 (.ptr ⟨S.length + 1, 2, 0⟩) 13 M') M' = _; rw [ka13 h]; rfl) (gt2) ?_
                  simp only [go_sem]
                  refine AD_loud (v := .undef) (M' := ⟨H, [Block.row ⟨72, 14, AskR.cells a vn vd, false, false⟩, Block.row ⟨72, 14, AskR.cells AskR.z .nilsl .nilsl, false, false⟩, Block.row ⟨72, 14, AskR.cells ⟨a.ty, a.tag, a.fid, 0, 0, 0, 0, 0, a.off, 0, [], [], 0, []⟩ .nilsl vd, false, false⟩] :: S⟩) rfl (ks13_2 (a := ⟨a.ty, a.tag, a.fid, 0, 0, 0, 0, 0, a.off, 0, [], [], 0, []⟩) (vn := .nilsl) (vd := .nilsl) hd.one.1 hd.one.2) ⟨fun ha => absurd (ha.symm.trans (show ancB _ _ _ _ = true by kernel_rfl)) (by decide), fun ha => absurd (ha.symm.trans (show ancB _ _ _ _ = true by kernel_rfl)) (by decide), fun ha => absurd (ha.symm.trans (show ancB _ _ _ _ = true by kernel_rfl)) (by decide), fun ha => absurd (ha.symm.trans (show ancB _ _ _ _ = true by kernel_rfl)) (by decide), fun ha => absurd (ha.symm.trans (show ancB _ _ _ _ = true by kernel_rfl)) (by decide), fun ha => absurd (ha.symm.trans (show ancB _ _ _ _ = true by kernel_rfl)) (by decide), trivial⟩ ?_
                  simp only [go_sem]
                  (repeat refine W_seq ?_); refine W_regionT [] ?_
                  simp only [go_sem, kL_2, kS_1 (c00 _), kS_1 (c10 _), kS_1 (c01 _)]
                  have ho := own118 hk
                  refine W_ret ⟨.inr rfl, [.agg (AskR.cells ⟨a.ty, a.tag, a.fid, 0, 0, 0, 0, 0, a.off, 0, [], [], 0, a.data⟩ .nilsl vd), .bool true], ?_, ?_, ⟨_, .nilsl, vd, ?_, fun _ => ho.symm, TH.nil, hd⟩, rfl⟩
                  · show (match loadA Try.prog 72 (.ptr ⟨S.length + 1, 1, 0⟩) _, resE Try.prog _ _ [.tmp 3] with | some v, some vs => some (v :: vs) | _, _ => none) = _
                    rw [kL_1]; rfl
                  · show lev0s [AV.agg _, .bool true] = true
                    have e : lev0s (AskR.cells ⟨a.ty, a.tag, a.fid, 0, 0, 0, 0, 0, a.off, 0, [], [], 0, a.data⟩ .nilsl vd) = true := cells_lev rfl hd.lev0'
                    simp only [lev0s, AV.lev0, e, Bool.and_true]
                  · rw [known118 hk]; rfl
                · have n118 : ¬ a.ty = 118 := by simpa using hb
                  (repeat refine W_seq ?_); refine W_regionT [] ?_
                  simp only [go_sem]
                  (repeat refine W_seq ?_)
                  refine W_cond_if rfl (fun hb => ?_) (fun hb => ?_)
                  · have hk : a.ty = 120 := by simpa using hb
                    simp only [hb]
                    refine W_skip ?_
                    simp only [go_sem]
                    (repeat refine W_seq ?_)
                    refine W_cond (b := true) rfl ?_
                    simp only [if_true]
                    refine W_skip ?_
                    simp only [go_sem]
                    (repeat refine W_seq ?_); refine W_regionT [] ?_
                    simp only [go_sem, kL_2, kS_1 (c00 _), kS_1 (c10 _), kS_1 (c01 _)]
                    have ho := own120 hk
                    refine W_ret ⟨.inr rfl, [.agg (AskR.cells ⟨a.ty, a.tag, a.fid, 0, 0, 0, 0, 0, 0, 0, [], [], 0, []⟩ .nilsl .nilsl), .bool true], ?_, ?_, ⟨_, .nilsl, .nilsl, ?_, fun _ => ho.symm, TH.nil, BH.nil⟩, rfl⟩
                    · show (match loadA Try.prog 72 (.ptr ⟨S.length + 1, 1, 0⟩) _, resE Try.prog _ _ [.tmp 3] with | some v, some vs => some (v :: vs) | _, _ => none) = _
                      rw [kL_1]; rfl
                    · show lev0s [AV.agg _, .bool true] = true
                      have e : lev0s (AskR.cells ⟨a.ty, a.tag, a.fid, 0, 0, 0, 0, 0, 0, 0, [], [], 0, []⟩ .nilsl .nilsl) = true := cells_lev rfl rfl
                      simp only [lev0s, AV.lev0, e, Bool.and_true]
                    · rw [known120 hk]; rfl
                  · have n120 : ¬ a.ty = 120 := by simpa using hb
                    (repeat refine W_seq ?_); refine W_regionT [] ?_
                    simp only [go_sem]
                    (repeat refine W_seq ?_)
                    refine W_cond_if rfl (fun hb => ?_) (fun hb => ?_)
                    · have hk : a.ty = 122 := by simpa using hb
                      simp only [hb]
                      refine W_skip ?_
                      simp only [go_sem]
                      (repeat refine W_seq ?_)
                      refine W_cond (b := true) rfl ?_
                      simp only [if_true]
                      refine W_skip ?_
                      simp only [go_sem]
                      (repeat refine W_seq ?_); refine W_regionT [] ?_
                      simp only [go_sem, kL_2, kS_1 (c00 _), kS_1 (c10 _), kS_1 (c01 _)]
                      have ho := own122 hk
                      refine W_ret ⟨.inr rfl, [.agg (AskR.cells ⟨a.ty, a.tag, a.fid, 0, 0, 0, 0, 0, 0, 0, [], [], 0, []⟩ .nilsl .nilsl), .bool true], ?_, ?_, ⟨_, .nilsl, .nilsl, ?_, fun _ => ho.symm, TH.nil, BH.nil⟩, rfl⟩
                      · show (match loadA Try.prog 72 (.ptr ⟨S.length + 1, 1, 0⟩) _, resE Try.prog _ _ [.tmp 3] with | some v, some vs => some (v :: vs) | _, _ => none) = _
                        rw [kL_1]; rfl
                      · show lev0s [AV.agg _, .bool true] = true
                        have e : lev0s (AskR.cells ⟨a.ty, a.tag, a.fid, 0, 0, 0, 0, 0, 0, 0, [], [], 0, []⟩ .nilsl .nilsl) = true := cells_lev rfl rfl
                        simp only [lev0s, AV.lev0, e, Bool.and_true]
                      · rw [known122 hk]; rfl
                    · have n122 : ¬ a.ty = 122 := by simpa using hb
                      (repeat refine W_seq ?_); refine W_regionT [] ?_
                      simp only [go_sem]
                      (repeat refine W_seq ?_)
                      refine W_cond_if rfl (fun hb => ?_) (fun hb => ?_)
                      · have hk : a.ty = 124 := by simpa using hb
                        refine W_skip ?_
                        simp only [go_sem]
                        (repeat refine W_seq ?_); refine W_regionT [] ?_
                        simp only [go_sem, kL_2, kS_1 (c00 _), kS_1 (c10 _), kS_1 (c01 _)]
                        have ho := own124 hk
                        refine W_ret ⟨.inr rfl, [.agg (AskR.cells ⟨a.ty, a.tag, a.fid, 0, 0, 0, 0, 0, 0, 0, [], [], 0, []⟩ .nilsl .nilsl), .bool true], ?_, ?_, ⟨_, .nilsl, .nilsl, ?_, fun _ => ho.symm, TH.nil, BH.nil⟩, rfl⟩
                        · show (match loadA Try.prog 72 (.ptr ⟨S.length + 1, 1, 0⟩) _, resE Try.prog _ _ [.tmp 3] with | some v, some vs => some (v :: vs) | _, _ => none) = _
                          rw [kL_1]; rfl
                        · show lev0s [AV.agg _, .bool true] = true
                          have e : lev0s (AskR.cells ⟨a.ty, a.tag, a.fid, 0, 0, 0, 0, 0, 0, 0, [], [], 0, []⟩ .nilsl .nilsl) = true := cells_lev rfl rfl
                          simp only [lev0s, AV.lev0, e, Bool.and_true]
                        · rw [known124 hk]; rfl
                      · have n124 : ¬ a.ty = 124 := by simpa using hb
                        (repeat refine W_seq ?_); refine W_regionT [] ?_
                        simp only [go_sem]
                        (repeat refine W_seq ?_)
                        refine W_cond_if rfl (fun hb => ?_) (fun hb => ?_)
                        · have hk : a.ty = 126 := by simpa using hb
                          (repeat refine W_seq ?_); refine W_regionD [] [5, 7] [0, 1, 2, 3, 4, 5, 6, 7] [0, 1, 0, 4, 3, 19, 63, 127] mixedM (by kernel_rfl) (by kernel_rfl) (by kernel_rfl) ?_
                          simp only [listed, go_sem]
                          refine AD_read (v := .ptr ⟨S.length + 1, 0, 12⟩) (fun M' => M'.get (S.length + 1) 0 = some (Block.row ⟨72, 14, AskR.cells a vn vd, false, false⟩)) rfl rfl (fun M' h => by show pureV (fieldAddrA Try.prog 72 (.ptr ⟨S.length + 1, 0, 0⟩) 12 M') M' = _; rw [ka12 h]; rfl) (gt0) ?_
                          simp only [go_sem]
                          refine AD_read (v := .int .i64 a.size) (fun M' => M'.get (S.length + 1) 0 = some (Block.row ⟨72, 14, AskR.cells a vn vd, false, false⟩)) rfl rfl (fun M' h => by show pureV (loadA Try.prog 3 (.ptr ⟨S.length + 1, 0, 12⟩) M') M' = _; rw [kl12 h]; rfl) (gt0) ?_
                          simp only [go_sem]
                          refine AD_read (v := .ptr ⟨S.length + 1, 0, 10⟩) (fun M' => M'.get (S.length + 1) 0 = some (Block.row ⟨72, 14, AskR.cells a vn vd, false, false⟩)) rfl rfl (fun M' h => by show pureV (fieldAddrA Try.prog 72 (.ptr ⟨S.length + 1, 0, 0⟩) 10 M') M' = _; rw [ka10 h]; rfl) (gt0) ?_
                          simp only [go_sem]
                          refine AD_read (v := .str a.name) (fun M' => M'.get (S.length + 1) 0 = some (Block.row ⟨72, 14, AskR.cells a vn vd, false, false⟩)) rfl rfl (fun M' h => by show pureV (loadA Try.prog 9 (.ptr ⟨S.length + 1, 0, 10⟩) M') M' = _; rw [kl10 h]; rfl) (gt0) ?_
                          simp only [go_sem]
                          refine AD_read (v := .ptr ⟨S.length + 1, 2, 12⟩) (fun M' => M'.get (S.length + 1) 2 = some (Block.row ⟨72, 14, AskR.cells ⟨a.ty, a.tag, a.fid, 0, 0, 0, 0, 0, 0, 0, [], [], 0, []⟩ .nilsl .nilsl, false, false⟩)) rfl rfl (fun M' h => by show pureV (fieldAddrA Try.prog 72 (.ptr ⟨S.length + 1, 2, 0⟩) 12 M') M' = _; rw [ka12 h]; rfl) (gt2) ?_
                          simp only [go_sem]
                          refine AD_loud (v := .undef) (M' := ⟨H, [Block.row ⟨72, 14, AskR.cells a vn vd, false, false⟩, Block.row ⟨72, 14, AskR.cells AskR.z .nilsl .nilsl, false, false⟩, Block.row ⟨72, 14, AskR.cells ⟨a.ty, a.tag, a.fid, 0, 0, 0, 0, 0, 0, 0, [], [], a.size, []⟩ .nilsl .nilsl, false, false⟩] :: S⟩) rfl (ks12_2 (a := ⟨a.ty, a.tag, a.fid, 0, 0, 0, 0, 0, 0, 0, [], [], 0, []⟩) (vn := .nilsl) (vd := .nilsl)) ⟨fun ha => absurd (ha.symm.trans (show ancB _ _ _ _ = true by kernel_rfl)) (by decide), fun _ => gt0, fun _ => gt0, fun ha => absurd (ha.symm.trans (show ancB _ _ _ _ = true by kernel_rfl)) (by decide), fun ha => absurd (ha.symm.trans (show ancB _ _ _ _ = true by kernel_rfl)) (by decide), trivial⟩ ?_
                          simp only [go_sem]
                          refine AD_read (v := .ptr ⟨S.length + 1, 2, 10⟩) (fun M' => M'.get (S.length + 1) 2 = some (Block.row ⟨72, 14, AskR.cells ⟨a.ty, a.tag, a.fid, 0, 0, 0, 0, 0, 0, 0, [], [], a.size, []⟩ .nilsl .nilsl, false, false⟩)) rfl rfl (fun M' h => by show pureV (fieldAddrA Try.prog 72 (.ptr ⟨S.length + 1, 2, 0⟩) 10 M') M' = _; rw [ka10 h]; rfl) (gt2) ?_
                          simp only [go_sem]
                          refine AD_loud (v := .undef) (M' := ⟨H, [Block.row ⟨72, 14, AskR.cells a vn vd, false, false⟩, Block.row ⟨72, 14, AskR.cells AskR.z .nilsl .nilsl, false, false⟩, Block.row ⟨72, 14, AskR.cells ⟨a.ty, a.tag, a.fid, 0, 0, 0, 0, 0, 0, 0, a.name, [], a.size, []⟩ .nilsl .nilsl, false, false⟩] :: S⟩) rfl (ks10_2 (a := ⟨a.ty, a.tag, a.fid, 0, 0, 0, 0, 0, 0, 0, [], [], a.size, []⟩) (vn := .nilsl) (vd := .nilsl)) ⟨fun ha => absurd (ha.symm.trans (show ancB _ _ _ _ = true by kernel_rfl)) (by decide), fun ha => absurd (ha.symm.trans (show ancB _ _ _ _ = true by kernel_rfl)) (by decide), fun ha => absurd (ha.symm.trans (show ancB _ _ _ _ = true by kernel_rfl)) (by decide), fun ha => absurd (ha.symm.trans (show ancB _ _ _ _ = true by kernel_rfl)) (by decide), fun ha => absurd (ha.symm.trans (show ancB _ _ _ _ = true by kernel_rfl)) (by decide), fun ha => absurd (ha.symm.trans (show ancB _ _ _ _ = true by kernel_rfl)) (by decide), trivial⟩ ?_
                          simp only [go_sem]
                          (repeat refine W_seq ?_); refine W_regionT [] ?_
                          simp only [go_sem, kL_2, kS_1 (c00 _), kS_1 (c10 _), kS_1 (c01 _)]
                          have ho := own126 hk
                          refine W_ret ⟨.inr rfl, [.agg (AskR.cells ⟨a.ty, a.tag, a.fid, 0, 0, 0, 0, 0, 0, 0, a.name, [], a.size, []⟩ .nilsl .nilsl), .bool true], ?_, ?_, ⟨_, .nilsl, .nilsl, ?_, fun _ => ho.symm, TH.nil, BH.nil⟩, rfl⟩
                          · show (match loadA Try.prog 72 (.ptr ⟨S.length + 1, 1, 0⟩) _, resE Try.prog _ _ [.tmp 3] with | some v, some vs => some (v :: vs) | _, _ => none) = _
                            rw [kL_1]; rfl
                          · show lev0s [AV.agg _, .bool true] = true
                            have e : lev0s (AskR.cells ⟨a.ty, a.tag, a.fid, 0, 0, 0, 0, 0, 0, 0, a.name, [], a.size, []⟩ .nilsl .nilsl) = true := cells_lev rfl rfl
                            simp only [lev0s, AV.lev0, e, Bool.and_true]
                          · rw [known126 hk]; rfl
                        · have n126 : ¬ a.ty = 126 := by simpa using hb
                          (repeat refine W_seq ?_); refine W_regionT [] ?_
                          simp only [go_sem, kL_2, kS_1 (c00 _)]
                          refine W_ret ⟨.inr rfl, [.agg (AskR.cells ⟨a.ty, a.tag, a.fid, 0, 0, 0, 0, 0, 0, 0, [], [], 0, []⟩ .nilsl .nilsl), .bool false], ?_, ?_, ⟨⟨a.ty, a.tag, a.fid, 0, 0, 0, 0, 0, 0, 0, [], [], 0, []⟩, .nilsl, .nilsl, ?_, fun h => absurd h (by rw [known_no n100 n104 n108 n110 n112 n114 n116 n118 n120 n122 n124 n126]; decide), TH.nil, BH.nil⟩, rfl⟩
                          · show (match loadA Try.prog 72 (.ptr ⟨S.length + 1, 1, 0⟩) _, resE Try.prog _ _ [.tmp 3] with | some v, some vs => some (v :: vs) | _, _ => none) = _
                            rw [kL_1]; rfl
                          · show lev0s [AV.agg _, .bool false] = true
                            have e : lev0s (AskR.cells ⟨a.ty, a.tag, a.fid, 0, 0, 0, 0, 0, 0, 0, [], [], 0, []⟩ .nilsl .nilsl) = true := cells_lev rfl rfl
                            simp only [lev0s, AV.lev0, e, Bool.and_true]
                          · rw [known_no n100 n104 n108 n110 n112 n114 n116 n118 n120 n122 n124 n126]; rfl
theorem one70 {s : List UInt8} : buildSliceA Try.prog 70 true 1 [(0, .str s)] ⟨H, S⟩ = some (.sl ⟨0, H.length, 0⟩ 1 (some 1), ⟨H ++ [.row ⟨9, 1, [.str s], false, false⟩], S⟩) := one_cell ti70 rfl ti9 rfl rfl rfl rfl rfl
theorem five59 {a b c d e : Int} : buildSliceA Try.prog 59 true 5 [(0, .int .i64 a), (1, .int .i64 b), (2, .int .i64 c), (3, .int .i64 d), (4, .int .i64 e)] ⟨H, S⟩ = some (.sl ⟨0, H.length, 0⟩ 5 (some 5), ⟨H ++ [.row ⟨3, 1, [.int .i64 a, .int .i64 b, .int .i64 c, .int .i64 d, .int .i64 e], false, false⟩], S⟩) := by
  unfold buildSliceA
  simp only [ti59, ti3]
  have e1 : fillA (fun i => some (i * 1, 1)) (zeros (AV.int .i64 0).cells 5) [(0, .int .i64 a), (1, .int .i64 b), (2, .int .i64 c), (3, .int .i64 d), (4, .int .i64 e)] = some [.int .i64 a, .int .i64 b, .int .i64 c, .int .i64 d, .int .i64 e] := rfl
  rw [if_pos ⟨by decide, rfl, rfl⟩, e1]
  simp only
  rw [if_pos ⟨by simp, by simp, by rfl⟩]
  rfl
theorem th_cons {v : AV} {l : List (List UInt8)} {s : List UInt8} (h : TH H v l) (hl : l.length < 1000000) : ∃ v' H', appendA Try.prog 70 70 true (.sl ⟨0, H.length, 0⟩ 1 (some 1)) v ⟨H ++ [.row ⟨9, 1, [.str s], false, false⟩], S⟩ = some (v', ⟨H', S⟩) ∧ TH H' v' (s :: l) ∧ UpdH no H H' := by
  have h1 : OH (H ++ [Block.row ⟨9, 1, [.str s], false, false⟩]) (.sl ⟨0, H.length, 0⟩ 1 (some 1)) 9 1 [.str s] 1 := .inr ⟨H.length, some 1, false, rfl, .inr rfl, by simp, rfl⟩
  have h2 : TH (H ++ [Block.row ⟨9, 1, [.str s], false, false⟩]) v l := h.new UpdH.push
  obtain ⟨v', H', a1, a2, a3, a4⟩ := appH (S := S) ti70 rfl ti9 ti70 rfl rfl ⟨by decide, by decide, rfl, rfl⟩ h1 (content_rh h2) (by simp [AV.st, AV.lev0]) (by show (1 + l.length) * 16 ≤ _; omega)
  have a5 := OH.rh a2
  refine ⟨v', H', a1, ?_, (UpdH.push (p := no)).then a3 (fun k hk h => by simp [AV.loc] at h; omega)⟩
  unfold TH
  rw [show (s :: l).length = 1 + l.length by simp; omega]
  exact a5
theorem may55 {x : AV} {a : AskR} (hx : AskV H x a) (hl : a.names.length < 900000) : AC Try.prog 55 [x] ⟨H, S⟩ (fun v M' => v = .bool a.may ∧ ∃ H', M' = ⟨H', S⟩ ∧ UpdH no H H') := by
  refine AC_of_WE Try.func55 rfl ?_
  simp only [Try.ntmps55, List.length_cons, List.length_nil, List.replicate, List.cons_append, List.nil_append, mem_enter]
  obtain ⟨vn, vd, rfl, hn, hd⟩ := hx
  have hx' : AskV H (.agg (a.cells vn vd)) a := ⟨vn, vd, rfl, hn, hd⟩
  have c11 := fun b : AskR => cells_st2 b hn.one.1 hd.one.1
  (repeat refine W_seq ?_); refine W_regionT [] ?_
  simp only [go_sem, kboxL (c11 a), List.nil_append, List.cons_append, List.length_nil, List.length_cons, Nat.zero_add, Nat.reduceAdd]
  (repeat refine W_seq ?_); refine W_regionT [] ?_
  simp only [go_sem, ka0_0, ka1_0, ka2_0, ka3_0, ka4_0, ka5_0, ka6_0, ka7_0, ka8_0, ka9_0, ka10_0, ka11_0, ka12_0, ka13_0, kl0_0, kl1_0, kl2_0, kl3_0, kl4_0, kl5_0, kl6_0, kl7_0, kl8_0, kl9_0, kl10_0, kl11_0, kl12_0, kl13_0, kL_0]
  refine AT_call rfl rfl (laid96 hx') fun v M1 hd1 h1 => ?_
  obtain ⟨⟨b, wn, wd, hv, hbo, hn2, hd2⟩, hM⟩ := h1; subst hv; subst hM
  have cb := cells_st2 b hn2.one.1 hd2.one.1
  simp only [go_sem, kallocL, kS_1 cb, List.nil_append, List.cons_append, List.length_nil, List.length_cons, Nat.zero_add, Nat.reduceAdd]
  rcases ff7 (known a.ty) (decide (a = a.own)) (inB a.tag 0 65535) (inB a.oldtag 0 65535) (inB a.mode 0 255) (inB a.off 0 4611686018427387904) (inB a.size (-1) 4294967294) with Q | Q | Q | Q | Q | Q | Q | Q
  · (repeat refine W_seq ?_); refine W_regionT [] ?_
    simp (maxSteps := 1000000) only [go_sem, Q, ka0_0, ka1_0, ka2_0, ka3_0, ka4_0, ka5_0, ka6_0, ka7_0, ka8_0, ka9_0, ka10_0, ka11_0, ka12_0, ka13_0, kl0_0, kl1_0, kl2_0, kl3_0, kl4_0, kl5_0, kl6_0, kl7_0, kl8_0, kl9_0, kl10_0, kl11_0, kl12_0, kl13_0, kL_0, ka0_1, ka1_1, ka2_1, ka3_1, ka4_1, ka5_1, ka6_1, ka7_1, ka8_1, ka9_1, ka10_1, ka11_1, ka12_1, ka13_1, kl0_1, kl1_1, kl2_1, kl3_1, kl4_1, kl5_1, kl6_1, kl7_1, kl8_1, kl9_1, kl10_1, kl11_1, kl12_1, kl13_1, kL_1]
    (repeat refine W_seq ?_)
    refine W_cond (b := true) rfl ?_
    simp only [if_true]
    (repeat refine W_seq ?_); refine W_regionT [] ?_
    simp only [go_sem]
    refine W_ret ⟨.inr rfl, _, rfl, rfl, ?_, _, rfl, UpdH.refl⟩
    rw [show a.may = false by unfold AskR.may AskR.head; simp only [Q, Bool.and_true, Bool.true_and, Bool.false_and, Bool.and_false, Bool.not_true, Bool.not_false]]; rfl
  · obtain rfl := hbo Q.1
    have hx2 : AskV H (.agg (AskR.cells a.own wn wd)) a.own := ⟨wn, wd, rfl, hn2, hd2⟩
    (repeat refine W_seq ?_); refine W_regionT [] ?_
    simp (maxSteps := 1000000) only [go_sem, Q, ka0_0, ka1_0, ka2_0, ka3_0, ka4_0, ka5_0, ka6_0, ka7_0, ka8_0, ka9_0, ka10_0, ka11_0, ka12_0, ka13_0, kl0_0, kl1_0, kl2_0, kl3_0, kl4_0, kl5_0, kl6_0, kl7_0, kl8_0, kl9_0, kl10_0, kl11_0, kl12_0, kl13_0, kL_0, ka0_1, ka1_1, ka2_1, ka3_1, ka4_1, ka5_1, ka6_1, ka7_1, ka8_1, ka9_1, ka10_1, ka11_1, ka12_1, ka13_1, kl0_1, kl1_1, kl2_1, kl3_1, kl4_1, kl5_1, kl6_1, kl7_1, kl8_1, kl9_1, kl10_1, kl11_1, kl12_1, kl13_1, kL_1]
    refine AT_call rfl rfl (same58 hx' hx2 (by omega)) fun v M1 hd1 h1 => ?_
    obtain ⟨hv, hM⟩ := h1; subst hv; subst hM
    simp (maxSteps := 1000000) only [go_sem, Q, ka0_0, ka1_0, ka2_0, ka3_0, ka4_0, ka5_0, ka6_0, ka7_0, ka8_0, ka9_0, ka10_0, ka11_0, ka12_0, ka13_0, kl0_0, kl1_0, kl2_0, kl3_0, kl4_0, kl5_0, kl6_0, kl7_0, kl8_0, kl9_0, kl10_0, kl11_0, kl12_0, kl13_0, kL_0, ka0_1, ka1_1, ka2_1, ka3_1, ka4_1, ka5_1, ka6_1, ka7_1, ka8_1, ka9_1, ka10_1, ka11_1, ka12_1, ka13_1, kl0_1, kl1_1, kl2_1, kl3_1, kl4_1, kl5_1, kl6_1, kl7_1, kl8_1, kl9_1, kl10_1, kl11_1, kl12_1, kl13_1, kL_1]
    (repeat refine W_seq ?_)
    refine W_cond (b := true) rfl ?_
    simp only [if_true]
    (repeat refine W_seq ?_); refine W_regionT [] ?_
    simp only [go_sem]
    refine W_ret ⟨.inr rfl, _, rfl, rfl, ?_, _, rfl, UpdH.refl⟩
    rw [show a.may = false by unfold AskR.may AskR.head; simp only [Q, Bool.and_true, Bool.true_and, Bool.false_and, Bool.and_false, Bool.not_true, Bool.not_false]]; rfl
  · obtain rfl := hbo Q.1
    have hx2 : AskV H (.agg (AskR.cells a.own wn wd)) a.own := ⟨wn, wd, rfl, hn2, hd2⟩
    (repeat refine W_seq ?_); refine W_regionT [] ?_
    simp (maxSteps := 1000000) only [go_sem, Q, ka0_0, ka1_0, ka2_0, ka3_0, ka4_0, ka5_0, ka6_0, ka7_0, ka8_0, ka9_0, ka10_0, ka11_0, ka12_0, ka13_0, kl0_0, kl1_0, kl2_0, kl3_0, kl4_0, kl5_0, kl6_0, kl7_0, kl8_0, kl9_0, kl10_0, kl11_0, kl12_0, kl13_0, kL_0, ka0_1, ka1_1, ka2_1, ka3_1, ka4_1, ka5_1, ka6_1, ka7_1, ka8_1, ka9_1, ka10_1, ka11_1, ka12_1, ka13_1, kl0_1, kl1_1, kl2_1, kl3_1, kl4_1, kl5_1, kl6_1, kl7_1, kl8_1, kl9_1, kl10_1, kl11_1, kl12_1, kl13_1, kL_1]
    refine AT_call rfl rfl (same58 hx' hx2 (by omega)) fun v M1 hd1 h1 => ?_
    obtain ⟨hv, hM⟩ := h1; subst hv; subst hM
    simp (maxSteps := 1000000) only [go_sem, Q, ka0_0, ka1_0, ka2_0, ka3_0, ka4_0, ka5_0, ka6_0, ka7_0, ka8_0, ka9_0, ka10_0, ka11_0, ka12_0, ka13_0, kl0_0, kl1_0, kl2_0, kl3_0, kl4_0, kl5_0, kl6_0, kl7_0, kl8_0, kl9_0, kl10_0, kl11_0, kl12_0, kl13_0, kL_0, ka0_1, ka1_1, ka2_1, ka3_1, ka4_1, ka5_1, ka6_1, ka7_1, ka8_1, ka9_1, ka10_1, ka11_1, ka12_1, ka13_1, kl0_1, kl1_1, kl2_1, kl3_1, kl4_1, kl5_1, kl6_1, kl7_1, kl8_1, kl9_1, kl10_1, kl11_1, kl12_1, kl13_1, kL_1]
    refine AT_call rfl rfl (in97') fun v M1 hd1 h1 => ?_
    obtain ⟨hv, hM⟩ := h1; subst hv; subst hM
    simp (maxSteps := 1000000) only [go_sem, Q, ka0_0, ka1_0, ka2_0, ka3_0, ka4_0, ka5_0, ka6_0, ka7_0, ka8_0, ka9_0, ka10_0, ka11_0, ka12_0, ka13_0, kl0_0, kl1_0, kl2_0, kl3_0, kl4_0, kl5_0, kl6_0, kl7_0, kl8_0, kl9_0, kl10_0, kl11_0, kl12_0, kl13_0, kL_0, ka0_1, ka1_1, ka2_1, ka3_1, ka4_1, ka5_1, ka6_1, ka7_1, ka8_1, ka9_1, ka10_1, ka11_1, ka12_1, ka13_1, kl0_1, kl1_1, kl2_1, kl3_1, kl4_1, kl5_1, kl6_1, kl7_1, kl8_1, kl9_1, kl10_1, kl11_1, kl12_1, kl13_1, kL_1]
    (repeat refine W_seq ?_)
    refine W_cond (b := true) rfl ?_
    simp only [if_true]
    (repeat refine W_seq ?_); refine W_regionT [] ?_
    simp only [go_sem]
    refine W_ret ⟨.inr rfl, _, rfl, rfl, ?_, _, rfl, UpdH.refl⟩
    rw [show a.may = false by unfold AskR.may AskR.head; simp only [Q, Bool.and_true, Bool.true_and, Bool.false_and, Bool.and_false, Bool.not_true, Bool.not_false]]; rfl
  · obtain rfl := hbo Q.1
    have hx2 : AskV H (.agg (AskR.cells a.own wn wd)) a.own := ⟨wn, wd, rfl, hn2, hd2⟩
    (repeat refine W_seq ?_); refine W_regionT [] ?_
    simp (maxSteps := 1000000) only [go_sem, Q, ka0_0, ka1_0, ka2_0, ka3_0, ka4_0, ka5_0, ka6_0, ka7_0, ka8_0, ka9_0, ka10_0, ka11_0, ka12_0, ka13_0, kl0_0, kl1_0, kl2_0, kl3_0, kl4_0, kl5_0, kl6_0, kl7_0, kl8_0, kl9_0, kl10_0, kl11_0, kl12_0, kl13_0, kL_0, ka0_1, ka1_1, ka2_1, ka3_1, ka4_1, ka5_1, ka6_1, ka7_1, ka8_1, ka9_1, ka10_1, ka11_1, ka12_1, ka13_1, kl0_1, kl1_1, kl2_1, kl3_1, kl4_1, kl5_1, kl6_1, kl7_1, kl8_1, kl9_1, kl10_1, kl11_1, kl12_1, kl13_1, kL_1]
    refine AT_call rfl rfl (same58 hx' hx2 (by omega)) fun v M1 hd1 h1 => ?_
    obtain ⟨hv, hM⟩ := h1; subst hv; subst hM
    simp (maxSteps := 1000000) only [go_sem, Q, ka0_0, ka1_0, ka2_0, ka3_0, ka4_0, ka5_0, ka6_0, ka7_0, ka8_0, ka9_0, ka10_0, ka11_0, ka12_0, ka13_0, kl0_0, kl1_0, kl2_0, kl3_0, kl4_0, kl5_0, kl6_0, kl7_0, kl8_0, kl9_0, kl10_0, kl11_0, kl12_0, kl13_0, kL_0, ka0_1, ka1_1, ka2_1, ka3_1, ka4_1, ka5_1, ka6_1, ka7_1, ka8_1, ka9_1, ka10_1, ka11_1, ka12_1, ka13_1, kl0_1, kl1_1, kl2_1, kl3_1, kl4_1, kl5_1, kl6_1, kl7_1, kl8_1, kl9_1, kl10_1, kl11_1, kl12_1, kl13_1, kL_1]
    refine AT_call rfl rfl (in97') fun v M1 hd1 h1 => ?_
    obtain ⟨hv, hM⟩ := h1; subst hv; subst hM
    simp (maxSteps := 1000000) only [go_sem, Q, ka0_0, ka1_0, ka2_0, ka3_0, ka4_0, ka5_0, ka6_0, ka7_0, ka8_0, ka9_0, ka10_0, ka11_0, ka12_0, ka13_0, kl0_0, kl1_0, kl2_0, kl3_0, kl4_0, kl5_0, kl6_0, kl7_0, kl8_0, kl9_0, kl10_0, kl11_0, kl12_0, kl13_0, kL_0, ka0_1, ka1_1, ka2_1, ka3_1, ka4_1, ka5_1, ka6_1, ka7_1, ka8_1, ka9_1, ka10_1, ka11_1, ka12_1, ka13_1, kl0_1, kl1_1, kl2_1, kl3_1, kl4_1, kl5_1, kl6_1, kl7_1, kl8_1, kl9_1, kl10_1, kl11_1, kl12_1, kl13_1, kL_1]
    refine AT_call rfl rfl (in97') fun v M1 hd1 h1 => ?_
    obtain ⟨hv, hM⟩ := h1; subst hv; subst hM
    simp (maxSteps := 1000000) only [go_sem, Q, ka0_0, ka1_0, ka2_0, ka3_0, ka4_0, ka5_0, ka6_0, ka7_0, ka8_0, ka9_0, ka10_0, ka11_0, ka12_0, ka13_0, kl0_0, kl1_0, kl2_0, kl3_0, kl4_0, kl5_0, kl6_0, kl7_0, kl8_0, kl9_0, kl10_0, kl11_0, kl12_0, kl13_0, kL_0, ka0_1, ka1_1, ka2_1, ka3_1, ka4_1, ka5_1, ka6_1, ka7_1, ka8_1, ka9_1, ka10_1, ka11_1, ka12_1, ka13_1, kl0_1, kl1_1, kl2_1, kl3_1, kl4_1, kl5_1, kl6_1, kl7_1, kl8_1, kl9_1, kl10_1, kl11_1, kl12_1, kl13_1, kL_1]
    (repeat refine W_seq ?_)
    refine W_cond (b := true) rfl ?_
    simp only [if_true]
    (repeat refine W_seq ?_); refine W_regionT [] ?_
    simp only [go_sem]
    refine W_ret ⟨.inr rfl, _, rfl, rfl, ?_, _, rfl, UpdH.refl⟩
    rw [show a.may = false by unfold AskR.may AskR.head; simp only [Q, Bool.and_true, Bool.true_and, Bool.false_and, Bool.and_false, Bool.not_true, Bool.not_false]]; rfl
  · obtain rfl := hbo Q.1
    have hx2 : AskV H (.agg (AskR.cells a.own wn wd)) a.own := ⟨wn, wd, rfl, hn2, hd2⟩
    (repeat refine W_seq ?_); refine W_regionT [] ?_
    simp (maxSteps := 1000000) only [go_sem, Q, ka0_0, ka1_0, ka2_0, ka3_0, ka4_0, ka5_0, ka6_0, ka7_0, ka8_0, ka9_0, ka10_0, ka11_0, ka12_0, ka13_0, kl0_0, kl1_0, kl2_0, kl3_0, kl4_0, kl5_0, kl6_0, kl7_0, kl8_0, kl9_0, kl10_0, kl11_0, kl12_0, kl13_0, kL_0, ka0_1, ka1_1, ka2_1, ka3_1, ka4_1, ka5_1, ka6_1, ka7_1, ka8_1, ka9_1, ka10_1, ka11_1, ka12_1, ka13_1, kl0_1, kl1_1, kl2_1, kl3_1, kl4_1, kl5_1, kl6_1, kl7_1, kl8_1, kl9_1, kl10_1, kl11_1, kl12_1, kl13_1, kL_1]
    refine AT_call rfl rfl (same58 hx' hx2 (by omega)) fun v M1 hd1 h1 => ?_
    obtain ⟨hv, hM⟩ := h1; subst hv; subst hM
    simp (maxSteps := 1000000) only [go_sem, Q, ka0_0, ka1_0, ka2_0, ka3_0, ka4_0, ka5_0, ka6_0, ka7_0, ka8_0, ka9_0, ka10_0, ka11_0, ka12_0, ka13_0, kl0_0, kl1_0, kl2_0, kl3_0, kl4_0, kl5_0, kl6_0, kl7_0, kl8_0, kl9_0, kl10_0, kl11_0, kl12_0, kl13_0, kL_0, ka0_1, ka1_1, ka2_1, ka3_1, ka4_1, ka5_1, ka6_1, ka7_1, ka8_1, ka9_1, ka10_1, ka11_1, ka12_1, ka13_1, kl0_1, kl1_1, kl2_1, kl3_1, kl4_1, kl5_1, kl6_1, kl7_1, kl8_1, kl9_1, kl10_1, kl11_1, kl12_1, kl13_1, kL_1]
    refine AT_call rfl rfl (in97') fun v M1 hd1 h1 => ?_
    obtain ⟨hv, hM⟩ := h1; subst hv; subst hM
    simp (maxSteps := 1000000) only [go_sem, Q, ka0_0, ka1_0, ka2_0, ka3_0, ka4_0, ka5_0, ka6_0, ka7_0, ka8_0, ka9_0, ka10_0, ka11_0, ka12_0, ka13_0, kl0_0, kl1_0, kl2_0, kl3_0, kl4_0, kl5_0, kl6_0, kl7_0, kl8_0, kl9_0, kl10_0, kl11_0, kl12_0, kl13_0, kL_0, ka0_1, ka1_1, ka2_1, ka3_1, ka4_1, ka5_1, ka6_1, ka7_1, ka8_1, ka9_1, ka10_1, ka11_1, ka12_1, ka13_1, kl0_1, kl1_1, kl2_1, kl3_1, kl4_1, kl5_1, kl6_1, kl7_1, kl8_1, kl9_1, kl10_1, kl11_1, kl12_1, kl13_1, kL_1]
    refine AT_call rfl rfl (in97') fun v M1 hd1 h1 => ?_
    obtain ⟨hv, hM⟩ := h1; subst hv; subst hM
    simp (maxSteps := 1000000) only [go_sem, Q, ka0_0, ka1_0, ka2_0, ka3_0, ka4_0, ka5_0, ka6_0, ka7_0, ka8_0, ka9_0, ka10_0, ka11_0, ka12_0, ka13_0, kl0_0, kl1_0, kl2_0, kl3_0, kl4_0, kl5_0, kl6_0, kl7_0, kl8_0, kl9_0, kl10_0, kl11_0, kl12_0, kl13_0, kL_0, ka0_1, ka1_1, ka2_1, ka3_1, ka4_1, ka5_1, ka6_1, ka7_1, ka8_1, ka9_1, ka10_1, ka11_1, ka12_1, ka13_1, kl0_1, kl1_1, kl2_1, kl3_1, kl4_1, kl5_1, kl6_1, kl7_1, kl8_1, kl9_1, kl10_1, kl11_1, kl12_1, kl13_1, kL_1]
    refine AT_call rfl rfl (in97') fun v M1 hd1 h1 => ?_
    obtain ⟨hv, hM⟩ := h1; subst hv; subst hM
    simp (maxSteps := 1000000) only [go_sem, Q, ka0_0, ka1_0, ka2_0, ka3_0, ka4_0, ka5_0, ka6_0, ka7_0, ka8_0, ka9_0, ka10_0, ka11_0, ka12_0, ka13_0, kl0_0, kl1_0, kl2_0, kl3_0, kl4_0, kl5_0, kl6_0, kl7_0, kl8_0, kl9_0, kl10_0, kl11_0, kl12_0, kl13_0, kL_0, ka0_1, ka1_1, ka2_1, ka3_1, ka4_1, ka5_1, ka6_1, ka7_1, ka8_1, ka9_1, ka10_1, ka11_1, ka12_1, ka13_1, kl0_1, kl1_1, kl2_1, kl3_1, kl4_1, kl5_1, kl6_1, kl7_1, kl8_1, kl9_1, kl10_1, kl11_1, kl12_1, kl13_1, kL_1]
    (repeat refine W_seq ?_)
    refine W_cond (b := true) rfl ?_
    simp only [if_true]
    (repeat refine W_seq ?_); refine W_regionT [] ?_
    simp only [go_sem]
    refine W_ret ⟨.inr rfl, _, rfl, rfl, ?_, _, rfl, UpdH.refl⟩
    rw [show a.may = false by unfold AskR.may AskR.head; simp only [Q, Bool.and_true, Bool.true_and, Bool.false_and, Bool.and_false, Bool.not_true, Bool.not_false]]; rfl
  · obtain rfl := hbo Q.1
    have hx2 : AskV H (.agg (AskR.cells a.own wn wd)) a.own := ⟨wn, wd, rfl, hn2, hd2⟩
    (repeat refine W_seq ?_); refine W_regionT [] ?_
    simp (maxSteps := 1000000) only [go_sem, Q, ka0_0, ka1_0, ka2_0, ka3_0, ka4_0, ka5_0, ka6_0, ka7_0, ka8_0, ka9_0, ka10_0, ka11_0, ka12_0, ka13_0, kl0_0, kl1_0, kl2_0, kl3_0, kl4_0, kl5_0, kl6_0, kl7_0, kl8_0, kl9_0, kl10_0, kl11_0, kl12_0, kl13_0, kL_0, ka0_1, ka1_1, ka2_1, ka3_1, ka4_1, ka5_1, ka6_1, ka7_1, ka8_1, ka9_1, ka10_1, ka11_1, ka12_1, ka13_1, kl0_1, kl1_1, kl2_1, kl3_1, kl4_1, kl5_1, kl6_1, kl7_1, kl8_1, kl9_1, kl10_1, kl11_1, kl12_1, kl13_1, kL_1]
    refine AT_call rfl rfl (same58 hx' hx2 (by omega)) fun v M1 hd1 h1 => ?_
    obtain ⟨hv, hM⟩ := h1; subst hv; subst hM
    simp (maxSteps := 1000000) only [go_sem, Q, ka0_0, ka1_0, ka2_0, ka3_0, ka4_0, ka5_0, ka6_0, ka7_0, ka8_0, ka9_0, ka10_0, ka11_0, ka12_0, ka13_0, kl0_0, kl1_0, kl2_0, kl3_0, kl4_0, kl5_0, kl6_0, kl7_0, kl8_0, kl9_0, kl10_0, kl11_0, kl12_0, kl13_0, kL_0, ka0_1, ka1_1, ka2_1, ka3_1, ka4_1, ka5_1, ka6_1, ka7_1, ka8_1, ka9_1, ka10_1, ka11_1, ka12_1, ka13_1, kl0_1, kl1_1, kl2_1, kl3_1, kl4_1, kl5_1, kl6_1, kl7_1, kl8_1, kl9_1, kl10_1, kl11_1, kl12_1, kl13_1, kL_1]
    refine AT_call rfl rfl (in97') fun v M1 hd1 h1 => ?_
    obtain ⟨hv, hM⟩ := h1; subst hv; subst hM
    simp (maxSteps := 1000000) only [go_sem, Q, ka0_0, ka1_0, ka2_0, ka3_0, ka4_0, ka5_0, ka6_0, ka7_0, ka8_0, ka9_0, ka10_0, ka11_0, ka12_0, ka13_0, kl0_0, kl1_0, kl2_0, kl3_0, kl4_0, kl5_0, kl6_0, kl7_0, kl8_0, kl9_0, kl10_0, kl11_0, kl12_0, kl13_0, kL_0, ka0_1, ka1_1, ka2_1, ka3_1, ka4_1, ka5_1, ka6_1, ka7_1, ka8_1, ka9_1, ka10_1, ka11_1, ka12_1, ka13_1, kl0_1, kl1_1, kl2_1, kl3_1, kl4_1, kl5_1, kl6_1, kl7_1, kl8_1, kl9_1, kl10_1, kl11_1, kl12_1, kl13_1, kL_1]
    refine AT_call rfl rfl (in97') fun v M1 hd1 h1 => ?_
    obtain ⟨hv, hM⟩ := h1; subst hv; subst hM
    simp (maxSteps := 1000000) only [go_sem, Q, ka0_0, ka1_0, ka2_0, ka3_0, ka4_0, ka5_0, ka6_0, ka7_0, ka8_0, ka9_0, ka10_0, ka11_0, ka12_0, ka13_0, kl0_0, kl1_0, kl2_0, kl3_0, kl4_0, kl5_0, kl6_0, kl7_0, kl8_0, kl9_0, kl10_0, kl11_0, kl12_0, kl13_0, kL_0, ka0_1, ka1_1, ka2_1, ka3_1, ka4_1, ka5_1, ka6_1, ka7_1, ka8_1, ka9_1, ka10_1, ka11_1, ka12_1, ka13_1, kl0_1, kl1_1, kl2_1, kl3_1, kl4_1, kl5_1, kl6_1, kl7_1, kl8_1, kl9_1, kl10_1, kl11_1, kl12_1, kl13_1, kL_1]
    refine AT_call rfl rfl (in97') fun v M1 hd1 h1 => ?_
    obtain ⟨hv, hM⟩ := h1; subst hv; subst hM
    simp (maxSteps := 1000000) only [go_sem, Q, ka0_0, ka1_0, ka2_0, ka3_0, ka4_0, ka5_0, ka6_0, ka7_0, ka8_0, ka9_0, ka10_0, ka11_0, ka12_0, ka13_0, kl0_0, kl1_0, kl2_0, kl3_0, kl4_0, kl5_0, kl6_0, kl7_0, kl8_0, kl9_0, kl10_0, kl11_0, kl12_0, kl13_0, kL_0, ka0_1, ka1_1, ka2_1, ka3_1, ka4_1, ka5_1, ka6_1, ka7_1, ka8_1, ka9_1, ka10_1, ka11_1, ka12_1, ka13_1, kl0_1, kl1_1, kl2_1, kl3_1, kl4_1, kl5_1, kl6_1, kl7_1, kl8_1, kl9_1, kl10_1, kl11_1, kl12_1, kl13_1, kL_1]
    refine AT_call rfl rfl (in97') fun v M1 hd1 h1 => ?_
    obtain ⟨hv, hM⟩ := h1; subst hv; subst hM
    simp (maxSteps := 1000000) only [go_sem, Q, ka0_0, ka1_0, ka2_0, ka3_0, ka4_0, ka5_0, ka6_0, ka7_0, ka8_0, ka9_0, ka10_0, ka11_0, ka12_0, ka13_0, kl0_0, kl1_0, kl2_0, kl3_0, kl4_0, kl5_0, kl6_0, kl7_0, kl8_0, kl9_0, kl10_0, kl11_0, kl12_0, kl13_0, kL_0, ka0_1, ka1_1, ka2_1, ka3_1, ka4_1, ka5_1, ka6_1, ka7_1, ka8_1, ka9_1, ka10_1, ka11_1, ka12_1, ka13_1, kl0_1, kl1_1, kl2_1, kl3_1, kl4_1, kl5_1, kl6_1, kl7_1, kl8_1, kl9_1, kl10_1, kl11_1, kl12_1, kl13_1, kL_1]
    (repeat refine W_seq ?_)
    refine W_cond (b := true) rfl ?_
    simp only [if_true]
    (repeat refine W_seq ?_); refine W_regionT [] ?_
    simp only [go_sem]
    refine W_ret ⟨.inr rfl, _, rfl, rfl, ?_, _, rfl, UpdH.refl⟩
    rw [show a.may = false by unfold AskR.may AskR.head; simp only [Q, Bool.and_true, Bool.true_and, Bool.false_and, Bool.and_false, Bool.not_true, Bool.not_false]]; rfl
  · obtain rfl := hbo Q.1
    have hx2 : AskV H (.agg (AskR.cells a.own wn wd)) a.own := ⟨wn, wd, rfl, hn2, hd2⟩
    (repeat refine W_seq ?_); refine W_regionT [] ?_
    simp (maxSteps := 1000000) only [go_sem, Q, ka0_0, ka1_0, ka2_0, ka3_0, ka4_0, ka5_0, ka6_0, ka7_0, ka8_0, ka9_0, ka10_0, ka11_0, ka12_0, ka13_0, kl0_0, kl1_0, kl2_0, kl3_0, kl4_0, kl5_0, kl6_0, kl7_0, kl8_0, kl9_0, kl10_0, kl11_0, kl12_0, kl13_0, kL_0, ka0_1, ka1_1, ka2_1, ka3_1, ka4_1, ka5_1, ka6_1, ka7_1, ka8_1, ka9_1, ka10_1, ka11_1, ka12_1, ka13_1, kl0_1, kl1_1, kl2_1, kl3_1, kl4_1, kl5_1, kl6_1, kl7_1, kl8_1, kl9_1, kl10_1, kl11_1, kl12_1, kl13_1, kL_1]
    refine AT_call rfl rfl (same58 hx' hx2 (by omega)) fun v M1 hd1 h1 => ?_
    obtain ⟨hv, hM⟩ := h1; subst hv; subst hM
    simp (maxSteps := 1000000) only [go_sem, Q, ka0_0, ka1_0, ka2_0, ka3_0, ka4_0, ka5_0, ka6_0, ka7_0, ka8_0, ka9_0, ka10_0, ka11_0, ka12_0, ka13_0, kl0_0, kl1_0, kl2_0, kl3_0, kl4_0, kl5_0, kl6_0, kl7_0, kl8_0, kl9_0, kl10_0, kl11_0, kl12_0, kl13_0, kL_0, ka0_1, ka1_1, ka2_1, ka3_1, ka4_1, ka5_1, ka6_1, ka7_1, ka8_1, ka9_1, ka10_1, ka11_1, ka12_1, ka13_1, kl0_1, kl1_1, kl2_1, kl3_1, kl4_1, kl5_1, kl6_1, kl7_1, kl8_1, kl9_1, kl10_1, kl11_1, kl12_1, kl13_1, kL_1]
    refine AT_call rfl rfl (in97') fun v M1 hd1 h1 => ?_
    obtain ⟨hv, hM⟩ := h1; subst hv; subst hM
    simp (maxSteps := 1000000) only [go_sem, Q, ka0_0, ka1_0, ka2_0, ka3_0, ka4_0, ka5_0, ka6_0, ka7_0, ka8_0, ka9_0, ka10_0, ka11_0, ka12_0, ka13_0, kl0_0, kl1_0, kl2_0, kl3_0, kl4_0, kl5_0, kl6_0, kl7_0, kl8_0, kl9_0, kl10_0, kl11_0, kl12_0, kl13_0, kL_0, ka0_1, ka1_1, ka2_1, ka3_1, ka4_1, ka5_1, ka6_1, ka7_1, ka8_1, ka9_1, ka10_1, ka11_1, ka12_1, ka13_1, kl0_1, kl1_1, kl2_1, kl3_1, kl4_1, kl5_1, kl6_1, kl7_1, kl8_1, kl9_1, kl10_1, kl11_1, kl12_1, kl13_1, kL_1]
    refine AT_call rfl rfl (in97') fun v M1 hd1 h1 => ?_
    obtain ⟨hv, hM⟩ := h1; subst hv; subst hM
    simp (maxSteps := 1000000) only [go_sem, Q, ka0_0, ka1_0, ka2_0, ka3_0, ka4_0, ka5_0, ka6_0, ka7_0, ka8_0, ka9_0, ka10_0, ka11_0, ka12_0, ka13_0, kl0_0, kl1_0, kl2_0, kl3_0, kl4_0, kl5_0, kl6_0, kl7_0, kl8_0, kl9_0, kl10_0, kl11_0, kl12_0, kl13_0, kL_0, ka0_1, ka1_1, ka2_1, ka3_1, ka4_1, ka5_1, ka6_1, ka7_1, ka8_1, ka9_1, ka10_1, ka11_1, ka12_1, ka13_1, kl0_1, kl1_1, kl2_1, kl3_1, kl4_1, kl5_1, kl6_1, kl7_1, kl8_1, kl9_1, kl10_1, kl11_1, kl12_1, kl13_1, kL_1]
    refine AT_call rfl rfl (in97') fun v M1 hd1 h1 => ?_
    obtain ⟨hv, hM⟩ := h1; subst hv; subst hM
    simp (maxSteps := 1000000) only [go_sem, Q, ka0_0, ka1_0, ka2_0, ka3_0, ka4_0, ka5_0, ka6_0, ka7_0, ka8_0, ka9_0, ka10_0, ka11_0, ka12_0, ka13_0, kl0_0, kl1_0, kl2_0, kl3_0, kl4_0, kl5_0, kl6_0, kl7_0, kl8_0, kl9_0, kl10_0, kl11_0, kl12_0, kl13_0, kL_0, ka0_1, ka1_1, ka2_1, ka3_1, ka4_1, ka5_1, ka6_1, ka7_1, ka8_1, ka9_1, ka10_1, ka11_1, ka12_1, ka13_1, kl0_1, kl1_1, kl2_1, kl3_1, kl4_1, kl5_1, kl6_1, kl7_1, kl8_1, kl9_1, kl10_1, kl11_1, kl12_1, kl13_1, kL_1]
    refine AT_call rfl rfl (in97') fun v M1 hd1 h1 => ?_
    obtain ⟨hv, hM⟩ := h1; subst hv; subst hM
    simp (maxSteps := 1000000) only [go_sem, Q, ka0_0, ka1_0, ka2_0, ka3_0, ka4_0, ka5_0, ka6_0, ka7_0, ka8_0, ka9_0, ka10_0, ka11_0, ka12_0, ka13_0, kl0_0, kl1_0, kl2_0, kl3_0, kl4_0, kl5_0, kl6_0, kl7_0, kl8_0, kl9_0, kl10_0, kl11_0, kl12_0, kl13_0, kL_0, ka0_1, ka1_1, ka2_1, ka3_1, ka4_1, ka5_1, ka6_1, ka7_1, ka8_1, ka9_1, ka10_1, ka11_1, ka12_1, ka13_1, kl0_1, kl1_1, kl2_1, kl3_1, kl4_1, kl5_1, kl6_1, kl7_1, kl8_1, kl9_1, kl10_1, kl11_1, kl12_1, kl13_1, kL_1]
    refine AT_call rfl rfl (in97') fun v M1 hd1 h1 => ?_
    obtain ⟨hv, hM⟩ := h1; subst hv; subst hM
    simp (maxSteps := 1000000) only [go_sem, Q, ka0_0, ka1_0, ka2_0, ka3_0, ka4_0, ka5_0, ka6_0, ka7_0, ka8_0, ka9_0, ka10_0, ka11_0, ka12_0, ka13_0, kl0_0, kl1_0, kl2_0, kl3_0, kl4_0, kl5_0, kl6_0, kl7_0, kl8_0, kl9_0, kl10_0, kl11_0, kl12_0, kl13_0, kL_0, ka0_1, ka1_1, ka2_1, ka3_1, ka4_1, ka5_1, ka6_1, ka7_1, ka8_1, ka9_1, ka10_1, ka11_1, ka12_1, ka13_1, kl0_1, kl1_1, kl2_1, kl3_1, kl4_1, kl5_1, kl6_1, kl7_1, kl8_1, kl9_1, kl10_1, kl11_1, kl12_1, kl13_1, kL_1]
    (repeat refine W_seq ?_)
    refine W_cond (b := true) rfl ?_
    simp only [if_true]
    (repeat refine W_seq ?_); refine W_regionT [] ?_
    simp only [go_sem]
    refine W_ret ⟨.inr rfl, _, rfl, rfl, ?_, _, rfl, UpdH.refl⟩
    rw [show a.may = false by unfold AskR.may AskR.head; simp only [Q, Bool.and_true, Bool.true_and, Bool.false_and, Bool.and_false, Bool.not_true, Bool.not_false]]; rfl
  · obtain rfl := hbo Q.1
    have hx2 : AskV H (.agg (AskR.cells a.own wn wd)) a.own := ⟨wn, wd, rfl, hn2, hd2⟩
    (repeat refine W_seq ?_); refine W_regionT [] ?_
    simp (maxSteps := 1000000) only [go_sem, Q, ka0_0, ka1_0, ka2_0, ka3_0, ka4_0, ka5_0, ka6_0, ka7_0, ka8_0, ka9_0, ka10_0, ka11_0, ka12_0, ka13_0, kl0_0, kl1_0, kl2_0, kl3_0, kl4_0, kl5_0, kl6_0, kl7_0, kl8_0, kl9_0, kl10_0, kl11_0, kl12_0, kl13_0, kL_0, ka0_1, ka1_1, ka2_1, ka3_1, ka4_1, ka5_1, ka6_1, ka7_1, ka8_1, ka9_1, ka10_1, ka11_1, ka12_1, ka13_1, kl0_1, kl1_1, kl2_1, kl3_1, kl4_1, kl5_1, kl6_1, kl7_1, kl8_1, kl9_1, kl10_1, kl11_1, kl12_1, kl13_1, kL_1]
    refine AT_call rfl rfl (same58 hx' hx2 (by omega)) fun v M1 hd1 h1 => ?_
    obtain ⟨hv, hM⟩ := h1; subst hv; subst hM
    simp (maxSteps := 1000000) only [go_sem, Q, ka0_0, ka1_0, ka2_0, ka3_0, ka4_0, ka5_0, ka6_0, ka7_0, ka8_0, ka9_0, ka10_0, ka11_0, ka12_0, ka13_0, kl0_0, kl1_0, kl2_0, kl3_0, kl4_0, kl5_0, kl6_0, kl7_0, kl8_0, kl9_0, kl10_0, kl11_0, kl12_0, kl13_0, kL_0, ka0_1, ka1_1, ka2_1, ka3_1, ka4_1, ka5_1, ka6_1, ka7_1, ka8_1, ka9_1, ka10_1, ka11_1, ka12_1, ka13_1, kl0_1, kl1_1, kl2_1, kl3_1, kl4_1, kl5_1, kl6_1, kl7_1, kl8_1, kl9_1, kl10_1, kl11_1, kl12_1, kl13_1, kL_1]
    refine AT_call rfl rfl (in97') fun v M1 hd1 h1 => ?_
    obtain ⟨hv, hM⟩ := h1; subst hv; subst hM
    simp (maxSteps := 1000000) only [go_sem, Q, ka0_0, ka1_0, ka2_0, ka3_0, ka4_0, ka5_0, ka6_0, ka7_0, ka8_0, ka9_0, ka10_0, ka11_0, ka12_0, ka13_0, kl0_0, kl1_0, kl2_0, kl3_0, kl4_0, kl5_0, kl6_0, kl7_0, kl8_0, kl9_0, kl10_0, kl11_0, kl12_0, kl13_0, kL_0, ka0_1, ka1_1, ka2_1, ka3_1, ka4_1, ka5_1, ka6_1, ka7_1, ka8_1, ka9_1, ka10_1, ka11_1, ka12_1, ka13_1, kl0_1, kl1_1, kl2_1, kl3_1, kl4_1, kl5_1, kl6_1, kl7_1, kl8_1, kl9_1, kl10_1, kl11_1, kl12_1, kl13_1, kL_1]
    refine AT_call rfl rfl (in97') fun v M1 hd1 h1 => ?_
    obtain ⟨hv, hM⟩ := h1; subst hv; subst hM
    simp (maxSteps := 1000000) only [go_sem, Q, ka0_0, ka1_0, ka2_0, ka3_0, ka4_0, ka5_0, ka6_0, ka7_0, ka8_0, ka9_0, ka10_0, ka11_0, ka12_0, ka13_0, kl0_0, kl1_0, kl2_0, kl3_0, kl4_0, kl5_0, kl6_0, kl7_0, kl8_0, kl9_0, kl10_0, kl11_0, kl12_0, kl13_0, kL_0, ka0_1, ka1_1, ka2_1, ka3_1, ka4_1, ka5_1, ka6_1, ka7_1, ka8_1, ka9_1, ka10_1, ka11_1, ka12_1, ka13_1, kl0_1, kl1_1, kl2_1, kl3_1, kl4_1, kl5_1, kl6_1, kl7_1, kl8_1, kl9_1, kl10_1, kl11_1, kl12_1, kl13_1, kL_1]
    refine AT_call rfl rfl (in97') fun v M1 hd1 h1 => ?_
    obtain ⟨hv, hM⟩ := h1; subst hv; subst hM
    simp (maxSteps := 1000000) only [go_sem, Q, ka0_0, ka1_0, ka2_0, ka3_0, ka4_0, ka5_0, ka6_0, ka7_0, ka8_0, ka9_0, ka10_0, ka11_0, ka12_0, ka13_0, kl0_0, kl1_0, kl2_0, kl3_0, kl4_0, kl5_0, kl6_0, kl7_0, kl8_0, kl9_0, kl10_0, kl11_0, kl12_0, kl13_0, kL_0, ka0_1, ka1_1, ka2_1, ka3_1, ka4_1, ka5_1, ka6_1, ka7_1, ka8_1, ka9_1, ka10_1, ka11_1, ka12_1, ka13_1, kl0_1, kl1_1, kl2_1, kl3_1, kl4_1, kl5_1, kl6_1, kl7_1, kl8_1, kl9_1, kl10_1, kl11_1, kl12_1, kl13_1, kL_1]
    refine AT_call rfl rfl (in97') fun v M1 hd1 h1 => ?_
    obtain ⟨hv, hM⟩ := h1; subst hv; subst hM
    simp (maxSteps := 1000000) only [go_sem, Q, ka0_0, ka1_0, ka2_0, ka3_0, ka4_0, ka5_0, ka6_0, ka7_0, ka8_0, ka9_0, ka10_0, ka11_0, ka12_0, ka13_0, kl0_0, kl1_0, kl2_0, kl3_0, kl4_0, kl5_0, kl6_0, kl7_0, kl8_0, kl9_0, kl10_0, kl11_0, kl12_0, kl13_0, kL_0, ka0_1, ka1_1, ka2_1, ka3_1, ka4_1, ka5_1, ka6_1, ka7_1, ka8_1, ka9_1, ka10_1, ka11_1, ka12_1, ka13_1, kl0_1, kl1_1, kl2_1, kl3_1, kl4_1, kl5_1, kl6_1, kl7_1, kl8_1, kl9_1, kl10_1, kl11_1, kl12_1, kl13_1, kL_1]
    refine AT_call rfl rfl (in97') fun v M1 hd1 h1 => ?_
    obtain ⟨hv, hM⟩ := h1; subst hv; subst hM
    simp (maxSteps := 1000000) only [go_sem, Q, ka0_0, ka1_0, ka2_0, ka3_0, ka4_0, ka5_0, ka6_0, ka7_0, ka8_0, ka9_0, ka10_0, ka11_0, ka12_0, ka13_0, kl0_0, kl1_0, kl2_0, kl3_0, kl4_0, kl5_0, kl6_0, kl7_0, kl8_0, kl9_0, kl10_0, kl11_0, kl12_0, kl13_0, kL_0, ka0_1, ka1_1, ka2_1, ka3_1, ka4_1, ka5_1, ka6_1, ka7_1, ka8_1, ka9_1, ka10_1, ka11_1, ka12_1, ka13_1, kl0_1, kl1_1, kl2_1, kl3_1, kl4_1, kl5_1, kl6_1, kl7_1, kl8_1, kl9_1, kl10_1, kl11_1, kl12_1, kl13_1, kL_1]
    (repeat refine W_seq ?_)
    refine W_cond (b := false) rfl ?_
    simp only [Bool.false_eq_true, if_false]
    refine W_skip ?_
    simp only [go_sem]
    (repeat refine W_seq ?_); refine W_regionT [61] ?_
    simp only [go_sem, five59, len59, ka0_0, ka1_0, ka2_0, ka3_0, ka4_0, ka5_0, ka6_0, ka7_0, ka8_0, ka9_0, ka10_0, ka11_0, ka12_0, ka13_0, kl0_0, kl1_0, kl2_0, kl3_0, kl4_0, kl5_0, kl6_0, kl7_0, kl8_0, kl9_0, kl10_0, kl11_0, kl12_0, kl13_0, kL_0]
    have hhead : a.head = true := by unfold AskR.head; simp only [Q, Bool.and_true, Bool.true_and, Bool.false_and, Bool.and_false, Bool.not_true, Bool.not_false]
    have hz : RH (H ++ [Block.row ⟨3, 1, [.int .i64 a.fid, .int .i64 a.newfid, .int .i64 a.msize, .int .i64 a.perm, .int .i64 a.count], false, false⟩]) (.sl ⟨0, H.length, 0⟩ 5 (some 5)) 1 (a.words.map (AV.int .i64)) a.words.length := .inr ⟨H.length, 0, some 5, _, rfl, List.getElem?_concat_length .., rfl, rfl, rfl⟩
    have uG := UpdH.push (p := no) (H := H) (bs := [Block.row ⟨3, 1, [.int .i64 a.fid, .int .i64 a.newfid, .int .i64 a.msize, .int .i64 a.perm, .int .i64 a.count], false, false⟩])
    generalize H.length = iz at hz
    generalize H ++ [Block.row ⟨3, 1, [.int .i64 a.fid, .int .i64 a.newfid, .int .i64 a.msize, .int .i64 a.perm, .int .i64 a.count], false, false⟩] = G at hz uG
    (repeat refine W_seq ?_)
    refine W_block (W_loop (L_inv (fun j env M' => ∃ (x2 x3 x4 x5 x6 x7 x8 x9 x10 x11 x12 x13 x14 x15 x16 x17 x18 x19 x20 x21 x22 x23 x24 x25 x26 x27 x28 x29 x30 x31 x32 x33 x34 x35 x36 x37 x38 x39 x40 x41 x42 x43 x44 x45 x46 x47 x48 x49 x50 x51 x52 x53 x54 x55 x56 x57 x58 x59 x60 x64 x65 x66 x67 x68 x69 x70 x71 x72 x73 x74 x75 x76 x77 x78 x79 x80 x81 x82 x83 x84 x85 x86 x87 x88 x89 x90 x91 : AV) (i : Nat), env = [.agg (a.cells vn vd), .ptr ⟨S.length + 1, 0, 0⟩, x2, x3, x4, x5, x6, x7, x8, x9, x10, x11, x12, x13, x14, x15, x16, x17, x18, x19, x20, x21, x22, x23, x24, x25, x26, x27, x28, x29, x30, x31, x32, x33, x34, x35, x36, x37, x38, x39, x40, x41, x42, x43, x44, x45, x46, x47, x48, x49, x50, x51, x52, x53, x54, x55, x56, x57, x58, x59, x60, .sl ⟨0, iz, 0⟩ 5 (some 5), .int .i64 (5 : Nat), .int .i64 i, x64, x65, x66, x67, x68, x69, x70, x71, x72, x73, x74, x75, x76, x77, x78, x79, x80, x81, x82, x83, x84, x85, x86, x87, x88, x89, x90, x91] ∧ i + j = 5 ∧ M' = ⟨G, [Block.row ⟨72, 14, AskR.cells a vn vd, false, false⟩, Block.row ⟨72, 14, AskR.cells a.own wn wd, false, false⟩] :: S⟩ ∧ ((a.words.take i).all fun n => inB n 0 4294967295) = true) (fun j env M2 => ?_) (5) ?_))
    case refine_2 => exact ⟨_, _, _, _, _, _, _, _, _, _, _, _, _, _, _, _, _, _, _, _, _, _, _, _, _, _, _, _, _, _, _, _, _, _, _, _, _, _, _, _, _, _, _, _, _, _, _, _, _, _, _, _, _, _, _, _, _, _, _, _, _, _, _, _, _, _, _, _, _, _, _, _, _, _, _, _, _, _, _, _, _, _, _, _, _, _, _, 0, rfl, rfl, rfl, rfl⟩
    refine exE fun x2 => exE fun x3 => exE fun x4 => exE fun x5 => exE fun x6 => exE fun x7 => exE fun x8 => exE fun x9 => exE fun x10 => exE fun x11 => exE fun x12 => exE fun x13 => exE fun x14 => exE fun x15 => exE fun x16 => exE fun x17 => exE fun x18 => exE fun x19 => exE fun x20 => exE fun x21 => exE fun x22 => exE fun x23 => exE fun x24 => exE fun x25 => exE fun x26 => exE fun x27 => exE fun x28 => exE fun x29 => exE fun x30 => exE fun x31 => exE fun x32 => exE fun x33 => exE fun x34 => exE fun x35 => exE fun x36 => exE fun x37 => exE fun x38 => exE fun x39 => exE fun x40 => exE fun x41 => exE fun x42 => exE fun x43 => exE fun x44 => exE fun x45 => exE fun x46 => exE fun x47 => exE fun x48 => exE fun x49 => exE fun x50 => exE fun x51 => exE fun x52 => exE fun x53 => exE fun x54 => exE fun x55 => exE fun x56 => exE fun x57 => exE fun x58 => exE fun x59 => exE fun x60 => exE fun x64 => exE fun x65 => exE fun x66 => exE fun x67 => exE fun x68 => exE fun x69 => exE fun x70 => exE fun x71 => exE fun x72 => exE fun x73 => exE fun x74 => exE fun x75 => exE fun x76 => exE fun x77 => exE fun x78 => exE fun x79 => exE fun x80 => exE fun x81 => exE fun x82 => exE fun x83 => exE fun x84 => exE fun x85 => exE fun x86 => exE fun x87 => exE fun x88 => exE fun x89 => exE fun x90 => exE fun x91 => ?_
    rintro ⟨i, rfl, hij, rfl, hall⟩
    (repeat refine W_seq ?_); refine W_regionT [] ?_
    simp only [go_sem]
    (repeat refine W_seq ?_)
    refine W_cond_if rfl (fun hb => ?_) (fun hb => ?_)
    · have hi : i < 5 := by simp at hb; omega
      refine W_skip ?_
      simp only [go_sem]
      (repeat refine W_seq ?_)
      refine W_block ?_
      have hi' : i < a.words.length := hi
      have a59 := at59 (S := [Block.row ⟨72, 14, AskR.cells a vn vd, false, false⟩, Block.row ⟨72, 14, AskR.cells a.own wn wd, false, false⟩] :: S) hz hi'
      (repeat refine W_seq ?_); refine W_regionT [] ?_
      simp only [go_sem, a59.1, a59.2]
      (repeat refine W_seq ?_); refine W_regionT [] ?_
      simp only [go_sem]
      refine AT_call rfl rfl (in97') fun v M1 hd1 h1 => ?_
      obtain ⟨hv, hM⟩ := h1; subst hv; subst hM
      simp only [go_sem]
      (repeat refine W_seq ?_)
      refine W_cond_if rfl (fun hb => ?_) (fun hb => ?_)
      · have hbad : inB a.words[i] 0 4294967295 = false := by simpa using hb
        (repeat refine W_seq ?_); refine W_regionT [] ?_
        simp only [go_sem]
        refine W_ret ⟨.inr rfl, _, rfl, rfl, ?_, _, rfl, uG⟩
        have : (a.words.all fun n => inB n 0 4294967295) = false := by
          rw [List.all_eq_false]; exact ⟨_, List.getElem_mem hi', by rw [hbad]; decide⟩
        rw [show a.may = false by unfold AskR.may; rw [hhead, this]; rfl]; rfl
      · have hgood : inB a.words[i] 0 4294967295 = true := by simpa using hb
        refine W_skip ?_
        simp only [go_sem]
        (repeat refine W_seq ?_); refine W_regionT [] ?_
        simp only [go_sem, show (i : Int) + 1 = ((i + 1 : Nat) : Int) from rfl, wrap_i64 (n := ((i + 1 : Nat) : Int)) (by omega) (by omega)]
        refine ⟨j - 1, by omega, _, _, _, _, _, _, _, _, _, _, _, _, _, _, _, _, _, _, _, _, _, _, _, _, _, _, _, _, _, _, _, _, _, _, _, _, _, _, _, _, _, _, _, _, _, _, _, _, _, _, _, _, _, _, _, _, _, _, _, _, _, _, _, _, _, _, _, _, _, _, _, _, _, _, _, _, _, _, _, _, _, _, _, _, _, _, _, i + 1, rfl, by omega, trivial, by rw [List.take_add_one, List.all_append, hall, List.getElem?_eq_getElem hi']; simp [hgood]⟩
    · have hi : i = 5 := by simp at hb; omega
      have hwords : (a.words.all fun n => inB n 0 4294967295) = true := by
        rw [← hall]; subst hi; rfl
      (repeat refine W_seq ?_)
      refine W_exit ?_
      simp only [go_sem]
      obtain ⟨va, Ga, hap, tha, ua⟩ := th_cons (S := [Block.row ⟨72, 14, AskR.cells a vn vd, false, false⟩, Block.row ⟨72, 14, AskR.cells a.own wn wd, false, false⟩] :: S) (s := a.name) (hn.new uG) (by omega)
      have ug2 := uG.then ua (fun _ _ h => h)
      (repeat refine W_seq ?_); refine W_regionT [73, 76] ?_
      simp only [go_sem, one70, hap, ka0_0, ka1_0, ka2_0, ka3_0, ka4_0, ka5_0, ka6_0, ka7_0, ka8_0, ka9_0, ka10_0, ka11_0, ka12_0, ka13_0, kl0_0, kl1_0, kl2_0, kl3_0, kl4_0, kl5_0, kl6_0, kl7_0, kl8_0, kl9_0, kl10_0, kl11_0, kl12_0, kl13_0, kL_0]
      refine AT_call rfl rfl (contains98 tha (by simp; omega)) fun v M1 hd1 h1 => ?_
      obtain ⟨hv, hM⟩ := h1; subst hv; subst hM
      simp only [go_sem]
      rcases ff2 (!((a.name :: a.names).any fun s => decide (255 < s.length))) (decide ((a.names.length : Int) ≤ 8)) with Q | Q | Q
      · (repeat refine W_seq ?_); refine W_regionT [] ?_
        simp only [go_sem, Q, (hn.new ug2).len, (hd.new ug2).len, ka0_0, ka1_0, ka2_0, ka3_0, ka4_0, ka5_0, ka6_0, ka7_0, ka8_0, ka9_0, ka10_0, ka11_0, ka12_0, ka13_0, kl0_0, kl1_0, kl2_0, kl3_0, kl4_0, kl5_0, kl6_0, kl7_0, kl8_0, kl9_0, kl10_0, kl11_0, kl12_0, kl13_0, kL_0]
        refine W_ret ⟨.inr rfl, _, rfl, rfl, ?_, _, rfl, ug2⟩
        rw [show a.may = false by unfold AskR.may; rw [hhead, hwords]; simp only [Q, Bool.and_true, Bool.true_and, Bool.false_and, Bool.and_false, Bool.not_true, Bool.not_false]]; rfl
      · (repeat refine W_seq ?_); refine W_regionT [] ?_
        simp only [go_sem, Q, (hn.new ug2).len, (hd.new ug2).len, ka0_0, ka1_0, ka2_0, ka3_0, ka4_0, ka5_0, ka6_0, ka7_0, ka8_0, ka9_0, ka10_0, ka11_0, ka12_0, ka13_0, kl0_0, kl1_0, kl2_0, kl3_0, kl4_0, kl5_0, kl6_0, kl7_0, kl8_0, kl9_0, kl10_0, kl11_0, kl12_0, kl13_0, kL_0]
        refine W_ret ⟨.inr rfl, _, rfl, rfl, ?_, _, rfl, ug2⟩
        rw [show a.may = false by unfold AskR.may; rw [hhead, hwords]; simp only [Q, Bool.and_true, Bool.true_and, Bool.false_and, Bool.and_false, Bool.not_true, Bool.not_false]]; rfl
      · (repeat refine W_seq ?_); refine W_regionT [] ?_
        simp only [go_sem, Q, (hn.new ug2).len, (hd.new ug2).len, ka0_0, ka1_0, ka2_0, ka3_0, ka4_0, ka5_0, ka6_0, ka7_0, ka8_0, ka9_0, ka10_0, ka11_0, ka12_0, ka13_0, kl0_0, kl1_0, kl2_0, kl3_0, kl4_0, kl5_0, kl6_0, kl7_0, kl8_0, kl9_0, kl10_0, kl11_0, kl12_0, kl13_0, kL_0]
        refine W_ret ⟨.inr rfl, _, rfl, rfl, ?_, _, rfl, ug2⟩
        rw [show a.may = decide ((a.data.length : Int) ≤ 1024) by unfold AskR.may; rw [hhead, hwords]; simp only [Q, Bool.and_true, Bool.true_and, Bool.false_and, Bool.and_false, Bool.not_true, Bool.not_false]]; rfl
end
end Go.Proofs.Ytlpcbfndjffpfaa
