/- The walk of MuxOnce. -/
import Derived.Test.YtcjdckoabinndaaMuxRounds
import Derived.Test.YtcjdckoabinndaaAbs29
set_option maxRecDepth 100000
set_option maxHeartbeats 4000000
set_option linter.unusedSimpArgs false
set_option linter.unusedVariables false
namespace Go.Proofs.Ytcjdckoabinndaa
open Go.Abs
/-- The number of the q-th call. -/
def keyOf (first : Int) (q : Nat) : Int := (first + q) % 4294967296
theorem keyOf_ne {first : Int} {q r : Nat} (hq : q < 100) (hr : r < 100) (h : q ≠ r) : keyOf first q ≠ keyOf first r := by unfold keyOf; omega
/-- The q-th call's procedure. -/
def procOf (procs : List Int) (q : Nat) : Int := match procs[q]? with | some n => around n 4 | none => 0
theorem procOf_range {procs : List Int} {q : Nat} : 0 ≤ procOf procs q ∧ procOf procs q < 4 := by
  unfold procOf
  split
  · exact around_range (by decide)
  · decide
def callsOf (first : Int) (p : Nat → Int) (n : Nat) : KV := (List.range n).map fun q => (keyOf first q, .agg [.int .u32 (p q), .int .i64 q])
theorem callsOf_run {first : Int} {p : Nat → Int} {n : Nat} (hn : n < 100) : RunOf (callsOf first p n) first n := by
  induction n with
  | zero => exact ⟨rfl, fun m => ⟨fun h => by simp [callsOf, getK, pos] at h, fun ⟨i, hi, _⟩ => by omega⟩⟩
  | succ n ih =>
    obtain ⟨hg, h⟩ := (ih (by omega)).put (x := .agg [.int .u32 (p n), .int .i64 n]) (by omega)
    rw [putK_none hg] at h
    have e : callsOf first p (n + 1) = callsOf first p n ++ [((first + n) % 4294967296, .agg [.int .u32 (p n), .int .i64 n])] := by
      simp only [callsOf, List.range_succ, List.map_append, List.map_cons, List.map_nil, keyOf]
    rw [e]; exact h
theorem callsOf_succ {first : Int} {p : Nat → Int} {n : Nat} (hn : n < 100) : putK (callsOf first p n) (keyOf first n) (.agg [.int .u32 (p n), .int .i64 n]) = callsOf first p (n + 1) := by
  have hg : getK (callsOf first p n) (keyOf first n) = none := ((callsOf_run (first := first) (p := p) hn).put (x := .agg [.int .u32 (p n), .int .i64 n]) hn).1
  rw [putK_none hg]
  simp only [callsOf, List.range_succ, List.map_append, List.map_cons, List.map_nil, keyOf]
theorem callsOf_get {first : Int} {p : Nat → Int} {n q : Nat} (hn : n < 100) (hq : q < n) : getK (callsOf first p n) (keyOf first q) = some (.agg [.int .u32 (p q), .int .i64 q]) := by
  induction n with
  | zero => omega
  | succ n ih =>
    have hg : getK (callsOf first p n) (keyOf first n) = none := ((callsOf_run (first := first) (p := p) (n := n) (by omega)).put (x := .agg [.int .u32 (p n), .int .i64 n]) (by omega)).1
    rw [← callsOf_succ (by omega), getK_put hg]
    by_cases h : q = n
    · subst h; rw [if_pos rfl]
    · rw [if_neg (keyOf_ne (by omega) (by omega) h)]; exact ih (by omega) (by omega)
theorem callsOf_nodup {first : Int} {p : Nat → Int} {n : Nat} (hn : n < 100) : ((callsOf first p n).map (·.1)).Nodup := by
  simp only [callsOf, List.map_map]
  rw [List.nodup_iff_pairwise_ne, List.pairwise_map]
  refine (List.nodup_range (n := n)).imp_of_mem fun {a b} ha hb hab => ?_
  simp only [List.mem_range] at ha hb
  exact keyOf_ne (by omega) (by omega) hab
theorem pos_none_of {n : Int} : ∀ {es : KV} {i : Nat}, n ∉ es.map (·.1) → pos n es i = none
  | [], i, _ => rfl
  | e :: es, i, h => by
    simp only [List.map_cons, List.mem_cons, not_or] at h
    unfold pos
    rw [if_neg h.1]
    exact pos_none_of h.2
theorem pos_shift {n : Int} : ∀ {es : KV} {i : Nat}, pos n es (i + 1) = (pos n es i).map fun r => (r.1 + 1, r.2)
  | [], i => rfl
  | e :: es, i => by
    unfold pos
    split
    · rfl
    · exact pos_shift
theorem getK_cons {n m : Int} {x : AV} {es : KV} : getK ((m, x) :: es) n = if n = m then some x else getK es n := by
  unfold getK
  conv => lhs; unfold pos
  split
  · rfl
  · rw [pos_shift]; cases pos n es 0 <;> rfl
theorem delK_cons {n m : Int} {x : AV} {es : KV} : delK ((m, x) :: es) n = if n = m then es else (m, x) :: delK es n := by
  unfold delK
  conv => lhs; unfold pos
  by_cases h : n = m
  · rw [if_pos h, if_pos h]; rfl
  · rw [if_neg h, if_neg h, pos_shift]
    cases pos n es 0 <;> rfl
theorem getK_del {n m : Int} : ∀ {es : KV}, (es.map (·.1)).Nodup → getK (delK es n) m = if m = n then none else getK es m
  | [], _ => by simp [delK, getK, pos]
  | (k, x) :: es, h => by
    simp only [List.map_cons, List.nodup_cons] at h
    rw [delK_cons]
    by_cases hk : n = k
    · subst hk
      rw [if_pos rfl, getK_cons]
      by_cases hm : m = n
      · subst hm
        rw [if_pos rfl]
        unfold getK
        rw [pos_none_of h.1]; rfl
      · rw [if_neg hm, if_neg hm]
    · rw [if_neg hk, getK_cons, getK_cons, getK_del h.2]
      by_cases hm : m = k
      · subst hm; rw [if_pos rfl, if_neg (fun e => hk e.symm), if_pos rfl]
      · rw [if_neg hm, if_neg hm]
theorem delK_nodup {n : Int} : ∀ {es : KV}, (es.map (·.1)).Nodup → ((delK es n).map (·.1)).Nodup ∧ ∀ k, k ∈ (delK es n).map (·.1) → k ∈ es.map (·.1)
  | [], h => ⟨by simp [delK, pos], fun k hk => by simp [delK, pos] at hk⟩
  | (m, x) :: es, h => by
    simp only [List.map_cons, List.nodup_cons] at h
    obtain ⟨h1, h2⟩ := delK_nodup (n := n) h.2
    rw [delK_cons]
    split
    · exact ⟨h.2, fun k hk => List.mem_cons_of_mem _ hk⟩
    · simp only [List.map_cons, List.nodup_cons, List.mem_cons]
      exact ⟨⟨fun hc => h.1 (h2 _ hc), h1⟩, fun k hk => hk.imp id (h2 k)⟩
/-- Which calls still wait, where those of d are done. -/
def StillOf (es : KV) (first : Int) (p : Nat → Int) (k : Nat) (d : Nat → Bool) : Prop := (es.map (·.1)).Nodup ∧ ∀ q, q < k → getK es (keyOf first q) = if d q = true then none else some (.agg [.int .u32 (p q), .int .i64 q])
theorem StillOf.del {es : KV} {first : Int} {p : Nat → Int} {k q : Nat} {d : Nat → Bool} (h : StillOf es first p k d) (hk : k < 100) (hq : q < k) : StillOf (delK es (keyOf first q)) first p k (fun r => decide (r = q) || d r) := by
  refine ⟨(delK_nodup h.1).1, fun r hr => ?_⟩
  rw [getK_del h.1]
  by_cases hrq : r = q
  · subst hrq; simp
  · rw [if_neg (keyOf_ne (by omega) (by omega) hrq), h.2 r hr]
    simp [hrq]
def xidsOf (first : Int) (n : Nat) : List AV := (List.range n).map fun q => .int .u32 (keyOf first q)
def psOf (p : Nat → Int) (n : Nat) : List AV := (List.range n).map fun q => .int .u32 (p q)
def donesOf (d : Nat → Bool) (n : Nat) : List AV := (List.range n).map fun q => .bool (d q)
theorem range_get {f : Nat → AV} {n q : Nat} (hq : q < n) : ((List.range n).map f)[q]? = some (f q) := by rw [List.getElem?_map, List.getElem?_range hq]; rfl
theorem range_st {f : Nat → AV} {n : Nat} (hf : ∀ q, (f q).st = true) : ((List.range n).map f).all AV.st = true := by simp [List.all_eq_true, hf]
theorem donesOf_set {d : Nat → Bool} {n q : Nat} (hq : q < n) : (donesOf d n).set q (.bool true) = donesOf (fun r => decide (r = q) || d r) n := by
  apply List.ext_getElem?
  intro r
  rw [List.getElem?_set]
  by_cases hr : r < n
  · by_cases hrq : q = r
    · subst hrq
      rw [if_pos rfl, if_pos (by simp [donesOf, hq]), donesOf, range_get hq]; simp
    · rw [if_neg hrq, donesOf, donesOf, range_get hr, range_get hr]
      simp [show ¬ r = q from fun e => hrq e.symm]
  · rw [if_neg (by omega), List.getElem?_eq_none (by simp [donesOf]; omega), List.getElem?_eq_none (by simp [donesOf]; omega)]
section
variable {H : List Block} {S : List (List Block)}
theorem Off.upd {ix mi : Nat} {H H' : List Block} (h : Off ix mi H H') : UpdH (fun i => i = ix ∨ i = mi) H H' := ⟨by rw [h.1]; exact Nat.le_refl _, fun i _ hi => h.2 i (fun e => hi (.inl e)) (fun e => hi (.inr e))⟩
theorem oneU {n : Int} : buildSliceA Try.prog 39 true 1 [(0, .int .u32 n)] ⟨H, S⟩ = some (.sl ⟨0, H.length, 0⟩ 1 (some 1), ⟨H ++ [.row ⟨35, 1, [.int .u32 n], false, false⟩], S⟩) := one_cell ti39 rfl ti35 rfl rfl rfl rfl rfl
theorem appU {s : AV} {cs : List AV} {n : Nat} {m : Int} (hs : OH H s 35 1 cs n) (hn : n < 100) : ∃ v' H', appendA Try.prog 39 39 true s (.sl ⟨0, H.length, 0⟩ 1 (some 1)) ⟨H ++ [.row ⟨35, 1, [.int .u32 m], false, false⟩], S⟩ = some (v', ⟨H', S⟩) ∧ OH H' v' 35 1 (cs ++ [.int .u32 m]) (n + 1) ∧ UpdH s.loc H H' ∧ ∀ k, v'.loc k → s.loc k ∨ H.length ≤ k := by
  have hx : RH (H ++ [.row ⟨35, 1, [.int .u32 m], false, false⟩]) (.sl ⟨0, H.length, 0⟩ 1 (some 1)) 1 [.int .u32 m] 1 := .inr ⟨H.length, 0, some 1, ⟨35, 1, [.int .u32 m], false, false⟩, rfl, by simp, rfl, rfl, rfl⟩
  have hs' : OH (H ++ [.row ⟨35, 1, [.int .u32 m], false, false⟩]) s 35 1 cs n := hs.new UpdH.push
  obtain ⟨v', H', h1, h2, h3, h4⟩ := appH (S := S) ti39 rfl ti35 ti39 rfl rfl ⟨by decide, by decide, rfl, rfl⟩ hs' (content_rh hx) rfl (by show (n + 1) * 4 ≤ _; omega)
  exact ⟨v', H', h1, h2, (UpdH.push (p := no)).new h3, fun k hk => (h4 k hk).imp id fun h => by simp at h; omega⟩
theorem muxOnce {first many : Int} {vp vr : AV} {procs row : List Int} (hf : 0 ≤ first ∧ first < 4294967296) (hm : -9223372036854775808 ≤ many ∧ many < 9223372036854775808) (hp : RH H vp 1 (procs.map (AV.int .i64)) procs.length) (hr : RH H vr 1 (row.map (AV.int .i64)) row.length) (hpr : ∀ n ∈ procs, -9223372036854775808 ≤ n ∧ n < 9223372036854775808) (hrr : ∀ n ∈ row, -9223372036854775808 ≤ n ∧ n < 9223372036854775808) (hrl : row.length < 9223372036854775808) : AC Try.prog 4 [.int .u32 first, .int .i64 many, vp, vr] ⟨H, S⟩ (fun v M' => v = .bool true) := by
  refine AC_of_WE Try.func4 rfl ?_
  simp only [Try.ntmps4, List.length_cons, List.length_nil, List.replicate, List.cons_append, List.nil_append, mem_enter]
  (repeat refine W_seq ?_); refine W_regionT [] ?_
  simp only [go_sem]
  (repeat refine W_seq ?_); refine W_regionT [] ?_
  simp only [go_sem]
  refine AT_call rfl rfl (aroundF (by omega) (by omega) (by decide)) fun v M1 hd1 h1 => ?_
  obtain ⟨hv, hM⟩ := h1
  have hrr0 := around_range (n := many) (k := 16) (by decide)
  generalize around many 16 = rr0 at hv hrr0
  obtain ⟨r0, rfl⟩ : ∃ n : Nat, rr0 = n := ⟨rr0.toNat, by omega⟩
  subst hv; subst hM
  simp only [go_sem, show IntKind.wrap .i64 (1 + (r0 : Int)) = ((r0 + 1 : Nat) : Int) by rw [wrap_i64 (by omega) (by omega)]; omega]
  obtain ⟨k, hk⟩ : ∃ k, r0 + 1 = k := ⟨_, rfl⟩
  rw [hk]
  have hk1 : 1 ≤ k ∧ k ≤ 16 := by omega
  (repeat refine W_seq ?_); refine W_regionT [] ?_
  simp only [go_sem]
  refine AT_call rfl rfl (newI hf) fun v M1 hd1 h1 => ?_
  rcases h1 with ⟨_, _, H1, rfl, rfl, e0⟩ | ⟨hk, _⟩
  case inr => exact absurd (by omega) hk
  rw [show ((k : Int).toNat) = k from rfl] at e0
  have uH1 : UpdH no H (H ++ H1) := UpdH.push
  generalize H ++ H1 = G1 at e0 uH1
  simp only [go_sem]
  (repeat refine W_seq ?_); refine W_regionT [] ?_
  simp only [go_sem]
  (repeat refine W_seq ?_)
  refine W_cond (b := false) rfl ?_
  simp only [Bool.false_eq_true, if_false]
  refine W_skip ?_
  simp only [go_sem]
  (repeat refine W_seq ?_); refine W_regionT [] ?_
  simp only [go_sem]
  (repeat refine W_seq ?_); refine W_regionT [] ?_
  simp only [go_sem]
  (repeat refine W_seq ?_); refine W_regionT [] ?_
  simp only [go_sem]
  (repeat refine W_seq ?_)
  refine W_block (W_loop (L_inv (fun j env M' => ∃ (x0 x1 x4 x5 x6 x7 x8 x11 x15 x16 x17 x18 x19 x20 x21 x22 x23 x24 x25 x26 x27 x28 x29 x30 x31 x32 x33 x34 x35 x36 x37 x38 x39 x40 x41 x42 x43 x44 x45 x46 x47 x48 x49 x50 x51 x52 x53 x54 x55 x56 x57 x58 x59 x60 x61 x62 x63 x64 x65 x66 x67 x68 x69 x70 x71 x72 x73 x74 x75 x76 x77 x78 x79 x80 x81 x82 x83 x84 x85 x86 x87 x88 x89 x90 x91 x92 x93 x94 x95 x96 x97 x98 x99 x100 x101 x102 x103 x104 x105 x106 x107 x108 x109 x110 x111 x112 x113 x114 x115 x116 x117 x118 x119 x120 x121 x122 x123 x124 x125 x126 x127 x128 x129 x130 x131 x132 x133 x134 x135 x136 x137 x138 x139 x140 x141 x142 x143 x144 x145 x146 x147 x148 x149 x150 x151 x152 x153 x154 x155 x156 x157 x158 x159 x160 x161 x162 x163 x164 x165 x166 x167 : AV) (vx vs : AV) (i : Nat) (G' : List Block), env = [x0, x1, vp, vr, x4, x5, x6, x7, x8, .int .i64 k, .ptr ⟨0, H.length + 1, 0⟩, x11, vx, vs, .int .i64 i, x15, x16, x17, x18, x19, x20, x21, x22, x23, x24, x25, x26, x27, x28, x29, x30, x31, x32, x33, x34, x35, x36, x37, x38, x39, x40, x41, x42, x43, x44, x45, x46, x47, x48, x49, x50, x51, x52, x53, x54, x55, x56, x57, x58, x59, x60, x61, x62, x63, x64, x65, x66, x67, x68, x69, x70, x71, x72, x73, x74, x75, x76, x77, x78, x79, x80, x81, x82, x83, x84, x85, x86, x87, x88, x89, x90, x91, x92, x93, x94, x95, x96, x97, x98, x99, x100, x101, x102, x103, x104, x105, x106, x107, x108, x109, x110, x111, x112, x113, x114, x115, x116, x117, x118, x119, x120, x121, x122, x123, x124, x125, x126, x127, x128, x129, x130, x131, x132, x133, x134, x135, x136, x137, x138, x139, x140, x141, x142, x143, x144, x145, x146, x147, x148, x149, x150, x151, x152, x153, x154, x155, x156, x157, x158, x159, x160, x161, x162, x163, x164, x165, x166, x167] ∧ i + j = k ∧ M' = ⟨G', [] :: S⟩ ∧ UpdH no H G' ∧ MuxI ⟨G', [] :: S⟩ (H.length + 1) H.length ((first + i) % 4294967296) k (callsOf first (procOf procs) i) ∧ OH G' vx 35 1 (xidsOf first i) i ∧ OH G' vs 35 1 (psOf (procOf procs) i) i ∧ (∀ q, vx.loc q → H.length + 2 ≤ q ∧ ¬ vs.loc q) ∧ (∀ q, vs.loc q → H.length + 2 ≤ q)) (fun j env M2 => ?_) (k) ?_))
  case refine_2 => exact ⟨_, _, _, _, _, _, _, _, _, _, _, _, _, _, _, _, _, _, _, _, _, _, _, _, _, _, _, _, _, _, _, _, _, _, _, _, _, _, _, _, _, _, _, _, _, _, _, _, _, _, _, _, _, _, _, _, _, _, _, _, _, _, _, _, _, _, _, _, _, _, _, _, _, _, _, _, _, _, _, _, _, _, _, _, _, _, _, _, _, _, _, _, _, _, _, _, _, _, _, _, _, _, _, _, _, _, _, _, _, _, _, _, _, _, _, _, _, _, _, _, _, _, _, _, _, _, _, _, _, _, _, _, _, _, _, _, _, _, _, _, _, _, _, _, _, _, _, _, _, _, _, _, _, _, _, _, _, _, _, _, _, .nilsl, .nilsl, 0, G1, rfl, by omega, rfl, uH1, by rw [show (first + ((0 : Nat) : Int)) % 4294967296 = first by omega]; exact e0, OH.nil, OH.nil, ⟨fun q h => h.elim, fun q h => h.elim⟩⟩
  clear e0 uH1
  refine exE fun x0 => exE fun x1 => exE fun x4 => exE fun x5 => exE fun x6 => exE fun x7 => exE fun x8 => exE fun x11 => exE fun x15 => exE fun x16 => exE fun x17 => exE fun x18 => exE fun x19 => exE fun x20 => exE fun x21 => exE fun x22 => exE fun x23 => exE fun x24 => exE fun x25 => exE fun x26 => exE fun x27 => exE fun x28 => exE fun x29 => exE fun x30 => exE fun x31 => exE fun x32 => exE fun x33 => exE fun x34 => exE fun x35 => exE fun x36 => exE fun x37 => exE fun x38 => exE fun x39 => exE fun x40 => exE fun x41 => exE fun x42 => exE fun x43 => exE fun x44 => exE fun x45 => exE fun x46 => exE fun x47 => exE fun x48 => exE fun x49 => exE fun x50 => exE fun x51 => exE fun x52 => exE fun x53 => exE fun x54 => exE fun x55 => exE fun x56 => exE fun x57 => exE fun x58 => exE fun x59 => exE fun x60 => exE fun x61 => exE fun x62 => exE fun x63 => exE fun x64 => exE fun x65 => exE fun x66 => exE fun x67 => exE fun x68 => exE fun x69 => exE fun x70 => exE fun x71 => exE fun x72 => exE fun x73 => exE fun x74 => exE fun x75 => exE fun x76 => exE fun x77 => exE fun x78 => exE fun x79 => exE fun x80 => exE fun x81 => exE fun x82 => exE fun x83 => exE fun x84 => exE fun x85 => exE fun x86 => exE fun x87 => exE fun x88 => exE fun x89 => exE fun x90 => exE fun x91 => exE fun x92 => exE fun x93 => exE fun x94 => exE fun x95 => exE fun x96 => exE fun x97 => exE fun x98 => exE fun x99 => exE fun x100 => exE fun x101 => exE fun x102 => exE fun x103 => exE fun x104 => exE fun x105 => exE fun x106 => exE fun x107 => exE fun x108 => exE fun x109 => exE fun x110 => exE fun x111 => exE fun x112 => exE fun x113 => exE fun x114 => exE fun x115 => exE fun x116 => exE fun x117 => exE fun x118 => exE fun x119 => exE fun x120 => exE fun x121 => exE fun x122 => exE fun x123 => exE fun x124 => exE fun x125 => exE fun x126 => exE fun x127 => exE fun x128 => exE fun x129 => exE fun x130 => exE fun x131 => exE fun x132 => exE fun x133 => exE fun x134 => exE fun x135 => exE fun x136 => exE fun x137 => exE fun x138 => exE fun x139 => exE fun x140 => exE fun x141 => exE fun x142 => exE fun x143 => exE fun x144 => exE fun x145 => exE fun x146 => exE fun x147 => exE fun x148 => exE fun x149 => exE fun x150 => exE fun x151 => exE fun x152 => exE fun x153 => exE fun x154 => exE fun x155 => exE fun x156 => exE fun x157 => exE fun x158 => exE fun x159 => exE fun x160 => exE fun x161 => exE fun x162 => exE fun x163 => exE fun x164 => exE fun x165 => exE fun x166 => exE fun x167 => ?_
  rintro ⟨vx, vs, i, G, rfl, hij, rfl, uG, e1, ox, os, lo⟩
  (repeat refine W_seq ?_); refine W_regionT [] ?_
  simp only [go_sem]
  (repeat refine W_seq ?_)
  refine W_cond_if rfl (fun hb => ?_) (fun hb => ?_)
  · have hi : i < k := by simpa using hb
    refine W_skip ?_
    simp only [go_sem]
    (repeat refine W_seq ?_)
    refine W_block ?_
    (repeat refine W_seq ?_); refine W_regionT [] ?_
    simp only [go_sem]
    (repeat refine W_seq ?_); refine W_regionT [] ?_
    simp only [go_sem, len_rd ((hp.new uG).rd) ti23 rfl]
    (repeat refine W_seq ?_)
    refine W_cond_if rfl (fun hb => ?_) (fun hb => ?_)
    · have hb2 : i < procs.length := by simpa using hb
      have hpi := List.getElem?_eq_getElem hb2
      obtain ⟨q0, a1, a2, _⟩ := at_rh (P := Try.prog) (S := [] :: S) (kk := .i64) (hp.new uG) ti23 rfl ti3 rfl rfl hb2
      rw [List.getElem?_map, hpi, Option.map_some] at a2
      have hpb := hpr _ (List.getElem_mem hb2)
      (repeat refine W_seq ?_); refine W_regionT [] ?_
      simp only [go_sem, a1, a2, wrap_u32]
      refine AT_call rfl rfl (aroundF hpb.1 hpb.2 (by decide)) fun v M1 hd1 h1 => ?_
      obtain ⟨hv, hM⟩ := h1; subst hv; subst hM
      simp only [go_sem, a1, a2, wrap_u32]
      have hpe : around procs[i] 4 % 4294967296 = procOf procs i := by
        have h0 := around_range (n := procs[i]) (k := 4) (by decide)
        simp only [procOf, hpi]; omega
      rw [hpe]
      try rw [show AV.int IntKind.u32 0 = AV.int IntKind.u32 (procOf procs i) by rw [hpz]]
      (repeat refine W_seq ?_); refine W_regionT [] ?_
      simp only [go_sem]
      refine AT_call rfl rfl (callI (x := .int .i64 i) e1 ⟨_, rfl⟩ (by rw [(callsOf_run (by omega)).1]; omega)) fun v M1 hd1 h1 => ?_
      obtain ⟨hg, _⟩ := (callsOf_run (first := first) (p := procOf procs) (n := i) (by omega)).put (x := .agg [.int .u32 (procOf procs i), .int .i64 i]) (by omega)
      rcases h1 with ⟨hc, _⟩ | ⟨_, xid, H2, hs, rfl, rfl, hoff, e2⟩
      case inl => rw [(callsOf_run (by omega)).1] at hc; omega
      have hx := skips_here hs (by omega) hg
      have hx2 : xid = keyOf first i := hx
      subst hx2
      rw [callsOf_succ (by omega)] at e2
      have u2 := hoff.upd
      have uG2 : UpdH no H H2 := uG.then (u2.mono (q := fun i => i = H.length + 1 ∨ i = H.length) (fun _ _ h => h)) (fun q hq h => by rcases h with h | h <;> omega)
      have ox2 := ox.upd u2 (fun q hq h => by have := (lo.1 q hq).1; rcases h with h | h <;> omega)
      have os2 := os.upd u2 (fun q hq h => by have := lo.2 q hq; rcases h with h | h <;> omega)
      have hl2 : G.length ≤ H2.length := u2.l
      have hGl : H.length + 2 ≤ G.length := (mI_lt e1).1
      simp only [go_sem]
      (repeat refine W_seq ?_); refine W_regionT [] ?_
      simp only [go_sem]
      (repeat refine W_seq ?_)
      refine W_cond (b := false) rfl ?_
      simp only [Bool.false_eq_true, if_false]
      refine W_skip ?_
      simp only [go_sem]
      (repeat refine W_seq ?_); refine W_regionT [] ?_
      simp only [go_sem]
      (repeat refine W_seq ?_)
      refine W_block (W_loop (L_inv (fun j2 env M' => ∃ (y0 y1 y4 y5 y6 y7 y8 y11 y17 y19 y20 y21 y22 y23 y24 y25 y26 y27 y28 y29 y30 y31 y32 y33 y34 y35 y36 y37 y38 y39 y40 y41 y42 y43 y44 y45 y46 y47 y48 y49 y50 y51 y52 y53 y54 y55 y56 y57 y58 y59 y60 y61 y62 y63 y64 y65 y66 y67 y68 y69 y70 y71 y72 y73 y74 y75 y76 y77 y78 y79 y80 y81 y82 y83 y84 y85 y86 y87 y88 y89 y90 y91 y92 y93 y94 y95 y96 y97 y98 y99 y100 y101 y102 y103 y104 y105 y106 y107 y108 y109 y110 y111 y112 y113 y114 y115 y116 y117 y118 y119 y120 y121 y122 y123 y124 y125 y126 y127 y128 y129 y130 y131 y132 y133 y134 y135 y136 y137 y138 y139 y140 y141 y142 y143 y144 y145 y146 y147 y148 y149 y150 y151 y152 y153 y154 y155 y156 y157 y158 y159 y160 y161 y162 y163 y164 y165 y166 y167 : AV) (q : Nat), env = [y0, y1, vp, vr, y4, y5, y6, y7, y8, .int .i64 k, .ptr ⟨0, H.length + 1, 0⟩, y11, vx, vs, .int .i64 i, .int .u32 (procOf procs i), .int .u32 (keyOf first i), y17, .int .i64 q, y19, y20, y21, y22, y23, y24, y25, y26, y27, y28, y29, y30, y31, y32, y33, y34, y35, y36, y37, y38, y39, y40, y41, y42, y43, y44, y45, y46, y47, y48, y49, y50, y51, y52, y53, y54, y55, y56, y57, y58, y59, y60, y61, y62, y63, y64, y65, y66, y67, y68, y69, y70, y71, y72, y73, y74, y75, y76, y77, y78, y79, y80, y81, y82, y83, y84, y85, y86, y87, y88, y89, y90, y91, y92, y93, y94, y95, y96, y97, y98, y99, y100, y101, y102, y103, y104, y105, y106, y107, y108, y109, y110, y111, y112, y113, y114, y115, y116, y117, y118, y119, y120, y121, y122, y123, y124, y125, y126, y127, y128, y129, y130, y131, y132, y133, y134, y135, y136, y137, y138, y139, y140, y141, y142, y143, y144, y145, y146, y147, y148, y149, y150, y151, y152, y153, y154, y155, y156, y157, y158, y159, y160, y161, y162, y163, y164, y165, y166, y167] ∧ q + j2 = i ∧ M' = ⟨H2, [] :: S⟩) (fun j2 env M2 => ?_) (i) ?_))
      case refine_2 => exact ⟨_, _, _, _, _, _, _, _, _, _, _, _, _, _, _, _, _, _, _, _, _, _, _, _, _, _, _, _, _, _, _, _, _, _, _, _, _, _, _, _, _, _, _, _, _, _, _, _, _, _, _, _, _, _, _, _, _, _, _, _, _, _, _, _, _, _, _, _, _, _, _, _, _, _, _, _, _, _, _, _, _, _, _, _, _, _, _, _, _, _, _, _, _, _, _, _, _, _, _, _, _, _, _, _, _, _, _, _, _, _, _, _, _, _, _, _, _, _, _, _, _, _, _, _, _, _, _, _, _, _, _, _, _, _, _, _, _, _, _, _, _, _, _, _, _, _, _, _, _, _, _, _, _, _, _, _, _, _, 0, rfl, by omega, rfl⟩
      refine exE fun y0 => exE fun y1 => exE fun y4 => exE fun y5 => exE fun y6 => exE fun y7 => exE fun y8 => exE fun y11 => exE fun y17 => exE fun y19 => exE fun y20 => exE fun y21 => exE fun y22 => exE fun y23 => exE fun y24 => exE fun y25 => exE fun y26 => exE fun y27 => exE fun y28 => exE fun y29 => exE fun y30 => exE fun y31 => exE fun y32 => exE fun y33 => exE fun y34 => exE fun y35 => exE fun y36 => exE fun y37 => exE fun y38 => exE fun y39 => exE fun y40 => exE fun y41 => exE fun y42 => exE fun y43 => exE fun y44 => exE fun y45 => exE fun y46 => exE fun y47 => exE fun y48 => exE fun y49 => exE fun y50 => exE fun y51 => exE fun y52 => exE fun y53 => exE fun y54 => exE fun y55 => exE fun y56 => exE fun y57 => exE fun y58 => exE fun y59 => exE fun y60 => exE fun y61 => exE fun y62 => exE fun y63 => exE fun y64 => exE fun y65 => exE fun y66 => exE fun y67 => exE fun y68 => exE fun y69 => exE fun y70 => exE fun y71 => exE fun y72 => exE fun y73 => exE fun y74 => exE fun y75 => exE fun y76 => exE fun y77 => exE fun y78 => exE fun y79 => exE fun y80 => exE fun y81 => exE fun y82 => exE fun y83 => exE fun y84 => exE fun y85 => exE fun y86 => exE fun y87 => exE fun y88 => exE fun y89 => exE fun y90 => exE fun y91 => exE fun y92 => exE fun y93 => exE fun y94 => exE fun y95 => exE fun y96 => exE fun y97 => exE fun y98 => exE fun y99 => exE fun y100 => exE fun y101 => exE fun y102 => exE fun y103 => exE fun y104 => exE fun y105 => exE fun y106 => exE fun y107 => exE fun y108 => exE fun y109 => exE fun y110 => exE fun y111 => exE fun y112 => exE fun y113 => exE fun y114 => exE fun y115 => exE fun y116 => exE fun y117 => exE fun y118 => exE fun y119 => exE fun y120 => exE fun y121 => exE fun y122 => exE fun y123 => exE fun y124 => exE fun y125 => exE fun y126 => exE fun y127 => exE fun y128 => exE fun y129 => exE fun y130 => exE fun y131 => exE fun y132 => exE fun y133 => exE fun y134 => exE fun y135 => exE fun y136 => exE fun y137 => exE fun y138 => exE fun y139 => exE fun y140 => exE fun y141 => exE fun y142 => exE fun y143 => exE fun y144 => exE fun y145 => exE fun y146 => exE fun y147 => exE fun y148 => exE fun y149 => exE fun y150 => exE fun y151 => exE fun y152 => exE fun y153 => exE fun y154 => exE fun y155 => exE fun y156 => exE fun y157 => exE fun y158 => exE fun y159 => exE fun y160 => exE fun y161 => exE fun y162 => exE fun y163 => exE fun y164 => exE fun y165 => exE fun y166 => exE fun y167 => ?_
      rintro ⟨q, rfl, hqj, rfl⟩
      (repeat refine W_seq ?_); refine W_regionT [] ?_
      simp only [go_sem, len_rd ((ox2.rh).rd) ti39 rfl]
      (repeat refine W_seq ?_)
      refine W_cond_if rfl (fun hb => ?_) (fun hb => ?_)
      · have hq : q < i := by simpa using hb
        refine W_skip ?_
        simp only [go_sem]
        (repeat refine W_seq ?_)
        refine W_block ?_
        obtain ⟨q1, a1, a2, _⟩ := at_rh (P := Try.prog) (S := [] :: S) (kk := .i64) ox2.rh ti39 rfl ti35 rfl rfl hq
        rw [xidsOf, range_get hq] at a2
        have hne := keyOf_ne (first := first) (q := q) (r := i) (by omega) (by omega) (by omega)
        (repeat refine W_seq ?_); refine W_regionT [] ?_
        simp only [go_sem, a1, a2, hne]
        (repeat refine W_seq ?_)
        refine W_cond (b := false) rfl ?_
        simp only [Bool.false_eq_true, if_false]
        refine W_skip ?_
        simp only [go_sem]
        (repeat refine W_seq ?_); refine W_regionT [] ?_
        simp only [go_sem, show (q : Int) + 1 = ((q + 1 : Nat) : Int) from rfl, wrap_i64 (n := ((q + 1 : Nat) : Int)) (by omega) (by omega)]
        refine ⟨j2 - 1, by omega, _, _, _, _, _, _, _, _, _, _, _, _, _, _, _, _, _, _, _, _, _, _, _, _, _, _, _, _, _, _, _, _, _, _, _, _, _, _, _, _, _, _, _, _, _, _, _, _, _, _, _, _, _, _, _, _, _, _, _, _, _, _, _, _, _, _, _, _, _, _, _, _, _, _, _, _, _, _, _, _, _, _, _, _, _, _, _, _, _, _, _, _, _, _, _, _, _, _, _, _, _, _, _, _, _, _, _, _, _, _, _, _, _, _, _, _, _, _, _, _, _, _, _, _, _, _, _, _, _, _, _, _, _, _, _, _, _, _, _, _, _, _, _, _, _, _, _, _, _, _, _, _, _, _, _, _, _, _, q + 1, rfl, by omega, trivial⟩
      · have hq : i = q := by simp at hb; omega
        subst hq
        (repeat refine W_seq ?_)
        refine W_exit ?_
        simp only [go_sem]
        obtain ⟨vx', H3, a3, ox3, u3, l3⟩ := appU (S := [] :: S) (m := keyOf first i) ox2 (by omega)
        (repeat refine W_seq ?_); refine W_regionT [81, 82] ?_
        simp only [go_sem, oneU, a3]
        have os3 := os2.upd u3 (fun q hq h => (lo.1 q h).2 hq)
        obtain ⟨vs', H4, a4, os4, u4, l4⟩ := appU (S := [] :: S) (m := procOf procs i) os3 (by omega)
        have hl3 := u3.l
        have hl4 := u4.l
        have ox4 := ox3.upd u4 (fun q hq h => by
          rcases l3 q hq with h5 | h5
          · exact (lo.1 q h5).2 h
          · have := os2.rh.lt h; omega)
        have uG4 : UpdH no H H4 := (uG2.then u3 (fun q hq h => by have := (lo.1 q h).1; omega)).then u4 (fun q hq h => by have := lo.2 q h; omega)
        have e4 : MuxI ⟨H4, [] :: S⟩ (H.length + 1) H.length ((keyOf first i + 1) % 4294967296) k (callsOf first (procOf procs) (i + 1)) := by
          have hm := mI_lt e2
          refine mI_keep e2 ?_ ?_
          · rw [u4.g _ (by omega) (fun h => by have := lo.2 _ h; omega), u3.g _ (by omega) (fun h => by have := (lo.1 _ h).1; omega)]
          · rw [u4.g _ (by omega) (fun h => by have := lo.2 _ h; omega), u3.g _ (by omega) (fun h => by have := (lo.1 _ h).1; omega)]
        (repeat refine W_seq ?_); refine W_regionT [85, 86] ?_
        simp only [go_sem, oneU, a4]
        (repeat refine W_seq ?_); refine W_regionT [] ?_
        simp only [go_sem, show (i : Int) + 1 = ((i + 1 : Nat) : Int) from rfl, wrap_i64 (n := ((i + 1 : Nat) : Int)) (by omega) (by omega)]
        refine ⟨j - 1, by omega, _, _, _, _, _, _, _, _, _, _, _, _, _, _, _, _, _, _, _, _, _, _, _, _, _, _, _, _, _, _, _, _, _, _, _, _, _, _, _, _, _, _, _, _, _, _, _, _, _, _, _, _, _, _, _, _, _, _, _, _, _, _, _, _, _, _, _, _, _, _, _, _, _, _, _, _, _, _, _, _, _, _, _, _, _, _, _, _, _, _, _, _, _, _, _, _, _, _, _, _, _, _, _, _, _, _, _, _, _, _, _, _, _, _, _, _, _, _, _, _, _, _, _, _, _, _, _, _, _, _, _, _, _, _, _, _, _, _, _, _, _, _, _, _, _, _, _, _, _, _, _, _, _, _, _, _, _, _, _, _, _, vx', vs', i + 1, H4, rfl, by omega, rfl, uG4, ?_, ?_, ?_, ?_⟩
        · rw [show (first + ((i + 1 : Nat) : Int)) % 4294967296 = (keyOf first i + 1) % 4294967296 by unfold keyOf; omega]; exact e4
        · simp only [xidsOf, List.range_succ, List.map_append, List.map_cons, List.map_nil] at ox4 ⊢; exact ox4
        · simp only [psOf, List.range_succ, List.map_append, List.map_cons, List.map_nil] at os4 ⊢; exact os4
        · refine ⟨fun q hq => ?_, fun q hq => ?_⟩
          · have h6 : vx.loc q ∨ H2.length ≤ q := l3 q hq
            have h7 : ¬ vs'.loc q := fun hc => by
              rcases l4 q hc with h8 | h8
              · rcases h6 with h6 | h6
                · exact (lo.1 q h6).2 h8
                · have := os2.rh.lt h8; omega
              · have := ox3.rh.lt hq; omega
            refine ⟨?_, h7⟩
            rcases h6 with h6 | h6
            · exact (lo.1 q h6).1
            · omega
          · rcases l4 q hq with h8 | h8
            · exact lo.2 q h8
            · omega
    · have hb2 : ¬ i < procs.length := by simpa using hb
      have hpz : procOf procs i = 0 := by simp [procOf, List.getElem?_eq_none (Nat.le_of_not_lt hb2)]
      refine W_skip ?_
      simp only [go_sem]
      try rw [show AV.int IntKind.u32 0 = AV.int IntKind.u32 (procOf procs i) by rw [hpz]]
      (repeat refine W_seq ?_); refine W_regionT [] ?_
      simp only [go_sem]
      refine AT_call rfl rfl (callI (x := .int .i64 i) e1 ⟨_, rfl⟩ (by rw [(callsOf_run (by omega)).1]; omega)) fun v M1 hd1 h1 => ?_
      obtain ⟨hg, _⟩ := (callsOf_run (first := first) (p := procOf procs) (n := i) (by omega)).put (x := .agg [.int .u32 (procOf procs i), .int .i64 i]) (by omega)
      rcases h1 with ⟨hc, _⟩ | ⟨_, xid, H2, hs, rfl, rfl, hoff, e2⟩
      case inl => rw [(callsOf_run (by omega)).1] at hc; omega
      have hx := skips_here hs (by omega) hg
      have hx2 : xid = keyOf first i := hx
      subst hx2
      rw [callsOf_succ (by omega)] at e2
      have u2 := hoff.upd
      have uG2 : UpdH no H H2 := uG.then (u2.mono (q := fun i => i = H.length + 1 ∨ i = H.length) (fun _ _ h => h)) (fun q hq h => by rcases h with h | h <;> omega)
      have ox2 := ox.upd u2 (fun q hq h => by have := (lo.1 q hq).1; rcases h with h | h <;> omega)
      have os2 := os.upd u2 (fun q hq h => by have := lo.2 q hq; rcases h with h | h <;> omega)
      have hl2 : G.length ≤ H2.length := u2.l
      have hGl : H.length + 2 ≤ G.length := (mI_lt e1).1
      simp only [go_sem]
      (repeat refine W_seq ?_); refine W_regionT [] ?_
      simp only [go_sem]
      (repeat refine W_seq ?_)
      refine W_cond (b := false) rfl ?_
      simp only [Bool.false_eq_true, if_false]
      refine W_skip ?_
      simp only [go_sem]
      (repeat refine W_seq ?_); refine W_regionT [] ?_
      simp only [go_sem]
      (repeat refine W_seq ?_)
      refine W_block (W_loop (L_inv (fun j2 env M' => ∃ (y0 y1 y4 y5 y6 y7 y8 y11 y17 y19 y20 y21 y22 y23 y24 y25 y26 y27 y28 y29 y30 y31 y32 y33 y34 y35 y36 y37 y38 y39 y40 y41 y42 y43 y44 y45 y46 y47 y48 y49 y50 y51 y52 y53 y54 y55 y56 y57 y58 y59 y60 y61 y62 y63 y64 y65 y66 y67 y68 y69 y70 y71 y72 y73 y74 y75 y76 y77 y78 y79 y80 y81 y82 y83 y84 y85 y86 y87 y88 y89 y90 y91 y92 y93 y94 y95 y96 y97 y98 y99 y100 y101 y102 y103 y104 y105 y106 y107 y108 y109 y110 y111 y112 y113 y114 y115 y116 y117 y118 y119 y120 y121 y122 y123 y124 y125 y126 y127 y128 y129 y130 y131 y132 y133 y134 y135 y136 y137 y138 y139 y140 y141 y142 y143 y144 y145 y146 y147 y148 y149 y150 y151 y152 y153 y154 y155 y156 y157 y158 y159 y160 y161 y162 y163 y164 y165 y166 y167 : AV) (q : Nat), env = [y0, y1, vp, vr, y4, y5, y6, y7, y8, .int .i64 k, .ptr ⟨0, H.length + 1, 0⟩, y11, vx, vs, .int .i64 i, .int .u32 (procOf procs i), .int .u32 (keyOf first i), y17, .int .i64 q, y19, y20, y21, y22, y23, y24, y25, y26, y27, y28, y29, y30, y31, y32, y33, y34, y35, y36, y37, y38, y39, y40, y41, y42, y43, y44, y45, y46, y47, y48, y49, y50, y51, y52, y53, y54, y55, y56, y57, y58, y59, y60, y61, y62, y63, y64, y65, y66, y67, y68, y69, y70, y71, y72, y73, y74, y75, y76, y77, y78, y79, y80, y81, y82, y83, y84, y85, y86, y87, y88, y89, y90, y91, y92, y93, y94, y95, y96, y97, y98, y99, y100, y101, y102, y103, y104, y105, y106, y107, y108, y109, y110, y111, y112, y113, y114, y115, y116, y117, y118, y119, y120, y121, y122, y123, y124, y125, y126, y127, y128, y129, y130, y131, y132, y133, y134, y135, y136, y137, y138, y139, y140, y141, y142, y143, y144, y145, y146, y147, y148, y149, y150, y151, y152, y153, y154, y155, y156, y157, y158, y159, y160, y161, y162, y163, y164, y165, y166, y167] ∧ q + j2 = i ∧ M' = ⟨H2, [] :: S⟩) (fun j2 env M2 => ?_) (i) ?_))
      case refine_2 => exact ⟨_, _, _, _, _, _, _, _, _, _, _, _, _, _, _, _, _, _, _, _, _, _, _, _, _, _, _, _, _, _, _, _, _, _, _, _, _, _, _, _, _, _, _, _, _, _, _, _, _, _, _, _, _, _, _, _, _, _, _, _, _, _, _, _, _, _, _, _, _, _, _, _, _, _, _, _, _, _, _, _, _, _, _, _, _, _, _, _, _, _, _, _, _, _, _, _, _, _, _, _, _, _, _, _, _, _, _, _, _, _, _, _, _, _, _, _, _, _, _, _, _, _, _, _, _, _, _, _, _, _, _, _, _, _, _, _, _, _, _, _, _, _, _, _, _, _, _, _, _, _, _, _, _, _, _, _, _, _, 0, rfl, by omega, rfl⟩
      refine exE fun y0 => exE fun y1 => exE fun y4 => exE fun y5 => exE fun y6 => exE fun y7 => exE fun y8 => exE fun y11 => exE fun y17 => exE fun y19 => exE fun y20 => exE fun y21 => exE fun y22 => exE fun y23 => exE fun y24 => exE fun y25 => exE fun y26 => exE fun y27 => exE fun y28 => exE fun y29 => exE fun y30 => exE fun y31 => exE fun y32 => exE fun y33 => exE fun y34 => exE fun y35 => exE fun y36 => exE fun y37 => exE fun y38 => exE fun y39 => exE fun y40 => exE fun y41 => exE fun y42 => exE fun y43 => exE fun y44 => exE fun y45 => exE fun y46 => exE fun y47 => exE fun y48 => exE fun y49 => exE fun y50 => exE fun y51 => exE fun y52 => exE fun y53 => exE fun y54 => exE fun y55 => exE fun y56 => exE fun y57 => exE fun y58 => exE fun y59 => exE fun y60 => exE fun y61 => exE fun y62 => exE fun y63 => exE fun y64 => exE fun y65 => exE fun y66 => exE fun y67 => exE fun y68 => exE fun y69 => exE fun y70 => exE fun y71 => exE fun y72 => exE fun y73 => exE fun y74 => exE fun y75 => exE fun y76 => exE fun y77 => exE fun y78 => exE fun y79 => exE fun y80 => exE fun y81 => exE fun y82 => exE fun y83 => exE fun y84 => exE fun y85 => exE fun y86 => exE fun y87 => exE fun y88 => exE fun y89 => exE fun y90 => exE fun y91 => exE fun y92 => exE fun y93 => exE fun y94 => exE fun y95 => exE fun y96 => exE fun y97 => exE fun y98 => exE fun y99 => exE fun y100 => exE fun y101 => exE fun y102 => exE fun y103 => exE fun y104 => exE fun y105 => exE fun y106 => exE fun y107 => exE fun y108 => exE fun y109 => exE fun y110 => exE fun y111 => exE fun y112 => exE fun y113 => exE fun y114 => exE fun y115 => exE fun y116 => exE fun y117 => exE fun y118 => exE fun y119 => exE fun y120 => exE fun y121 => exE fun y122 => exE fun y123 => exE fun y124 => exE fun y125 => exE fun y126 => exE fun y127 => exE fun y128 => exE fun y129 => exE fun y130 => exE fun y131 => exE fun y132 => exE fun y133 => exE fun y134 => exE fun y135 => exE fun y136 => exE fun y137 => exE fun y138 => exE fun y139 => exE fun y140 => exE fun y141 => exE fun y142 => exE fun y143 => exE fun y144 => exE fun y145 => exE fun y146 => exE fun y147 => exE fun y148 => exE fun y149 => exE fun y150 => exE fun y151 => exE fun y152 => exE fun y153 => exE fun y154 => exE fun y155 => exE fun y156 => exE fun y157 => exE fun y158 => exE fun y159 => exE fun y160 => exE fun y161 => exE fun y162 => exE fun y163 => exE fun y164 => exE fun y165 => exE fun y166 => exE fun y167 => ?_
      rintro ⟨q, rfl, hqj, rfl⟩
      (repeat refine W_seq ?_); refine W_regionT [] ?_
      simp only [go_sem, len_rd ((ox2.rh).rd) ti39 rfl]
      (repeat refine W_seq ?_)
      refine W_cond_if rfl (fun hb => ?_) (fun hb => ?_)
      · have hq : q < i := by simpa using hb
        refine W_skip ?_
        simp only [go_sem]
        (repeat refine W_seq ?_)
        refine W_block ?_
        obtain ⟨q1, a1, a2, _⟩ := at_rh (P := Try.prog) (S := [] :: S) (kk := .i64) ox2.rh ti39 rfl ti35 rfl rfl hq
        rw [xidsOf, range_get hq] at a2
        have hne := keyOf_ne (first := first) (q := q) (r := i) (by omega) (by omega) (by omega)
        (repeat refine W_seq ?_); refine W_regionT [] ?_
        simp only [go_sem, a1, a2, hne]
        (repeat refine W_seq ?_)
        refine W_cond (b := false) rfl ?_
        simp only [Bool.false_eq_true, if_false]
        refine W_skip ?_
        simp only [go_sem]
        (repeat refine W_seq ?_); refine W_regionT [] ?_
        simp only [go_sem, show (q : Int) + 1 = ((q + 1 : Nat) : Int) from rfl, wrap_i64 (n := ((q + 1 : Nat) : Int)) (by omega) (by omega)]
        refine ⟨j2 - 1, by omega, _, _, _, _, _, _, _, _, _, _, _, _, _, _, _, _, _, _, _, _, _, _, _, _, _, _, _, _, _, _, _, _, _, _, _, _, _, _, _, _, _, _, _, _, _, _, _, _, _, _, _, _, _, _, _, _, _, _, _, _, _, _, _, _, _, _, _, _, _, _, _, _, _, _, _, _, _, _, _, _, _, _, _, _, _, _, _, _, _, _, _, _, _, _, _, _, _, _, _, _, _, _, _, _, _, _, _, _, _, _, _, _, _, _, _, _, _, _, _, _, _, _, _, _, _, _, _, _, _, _, _, _, _, _, _, _, _, _, _, _, _, _, _, _, _, _, _, _, _, _, _, _, _, _, _, _, _, _, q + 1, rfl, by omega, trivial⟩
      · have hq : i = q := by simp at hb; omega
        subst hq
        (repeat refine W_seq ?_)
        refine W_exit ?_
        simp only [go_sem]
        obtain ⟨vx', H3, a3, ox3, u3, l3⟩ := appU (S := [] :: S) (m := keyOf first i) ox2 (by omega)
        (repeat refine W_seq ?_); refine W_regionT [81, 82] ?_
        simp only [go_sem, oneU, a3]
        have os3 := os2.upd u3 (fun q hq h => (lo.1 q h).2 hq)
        obtain ⟨vs', H4, a4, os4, u4, l4⟩ := appU (S := [] :: S) (m := procOf procs i) os3 (by omega)
        have hl3 := u3.l
        have hl4 := u4.l
        have ox4 := ox3.upd u4 (fun q hq h => by
          rcases l3 q hq with h5 | h5
          · exact (lo.1 q h5).2 h
          · have := os2.rh.lt h; omega)
        have uG4 : UpdH no H H4 := (uG2.then u3 (fun q hq h => by have := (lo.1 q h).1; omega)).then u4 (fun q hq h => by have := lo.2 q h; omega)
        have e4 : MuxI ⟨H4, [] :: S⟩ (H.length + 1) H.length ((keyOf first i + 1) % 4294967296) k (callsOf first (procOf procs) (i + 1)) := by
          have hm := mI_lt e2
          refine mI_keep e2 ?_ ?_
          · rw [u4.g _ (by omega) (fun h => by have := lo.2 _ h; omega), u3.g _ (by omega) (fun h => by have := (lo.1 _ h).1; omega)]
          · rw [u4.g _ (by omega) (fun h => by have := lo.2 _ h; omega), u3.g _ (by omega) (fun h => by have := (lo.1 _ h).1; omega)]
        (repeat refine W_seq ?_); refine W_regionT [85, 86] ?_
        simp only [go_sem, oneU, a4]
        (repeat refine W_seq ?_); refine W_regionT [] ?_
        simp only [go_sem, show (i : Int) + 1 = ((i + 1 : Nat) : Int) from rfl, wrap_i64 (n := ((i + 1 : Nat) : Int)) (by omega) (by omega)]
        refine ⟨j - 1, by omega, _, _, _, _, _, _, _, _, _, _, _, _, _, _, _, _, _, _, _, _, _, _, _, _, _, _, _, _, _, _, _, _, _, _, _, _, _, _, _, _, _, _, _, _, _, _, _, _, _, _, _, _, _, _, _, _, _, _, _, _, _, _, _, _, _, _, _, _, _, _, _, _, _, _, _, _, _, _, _, _, _, _, _, _, _, _, _, _, _, _, _, _, _, _, _, _, _, _, _, _, _, _, _, _, _, _, _, _, _, _, _, _, _, _, _, _, _, _, _, _, _, _, _, _, _, _, _, _, _, _, _, _, _, _, _, _, _, _, _, _, _, _, _, _, _, _, _, _, _, _, _, _, _, _, _, _, _, _, _, _, _, vx', vs', i + 1, H4, rfl, by omega, rfl, uG4, ?_, ?_, ?_, ?_⟩
        · rw [show (first + ((i + 1 : Nat) : Int)) % 4294967296 = (keyOf first i + 1) % 4294967296 by unfold keyOf; omega]; exact e4
        · simp only [xidsOf, List.range_succ, List.map_append, List.map_cons, List.map_nil] at ox4 ⊢; exact ox4
        · simp only [psOf, List.range_succ, List.map_append, List.map_cons, List.map_nil] at os4 ⊢; exact os4
        · refine ⟨fun q hq => ?_, fun q hq => ?_⟩
          · have h6 : vx.loc q ∨ H2.length ≤ q := l3 q hq
            have h7 : ¬ vs'.loc q := fun hc => by
              rcases l4 q hc with h8 | h8
              · rcases h6 with h6 | h6
                · exact (lo.1 q h6).2 h8
                · have := os2.rh.lt h8; omega
              · have := ox3.rh.lt hq; omega
            refine ⟨?_, h7⟩
            rcases h6 with h6 | h6
            · exact (lo.1 q h6).1
            · omega
          · rcases l4 q hq with h8 | h8
            · exact lo.2 q h8
            · omega
  · have hi : k = i := by simp at hb; omega
    subst hi
    (repeat refine W_seq ?_)
    refine W_exit ?_
    simp only [go_sem]
    (repeat refine W_seq ?_); refine W_regionT [] ?_
    simp only [go_sem]
    refine AT_call rfl rfl (callI (p := 0) (x := .int .i64 0) e1 ⟨_, rfl⟩ (by rw [(callsOf_run (by omega)).1]; omega)) fun v M1 hd1 h1 => ?_
    rcases h1 with ⟨_, rfl, rfl⟩ | ⟨hc, _⟩
    case inr => rw [(callsOf_run (by omega)).1] at hc; omega
    simp only [go_sem]
    (repeat refine W_seq ?_); refine W_regionT [] ?_
    simp only [go_sem]
    (repeat refine W_seq ?_)
    refine W_cond (b := false) rfl ?_
    simp only [Bool.false_eq_true, if_false]
    refine W_skip ?_
    simp only [go_sem]
    (repeat refine W_seq ?_); refine W_regionT [95] ?_
    simp only [go_sem, make_cells (P := Try.prog) (n := k) (k := .i64) (k' := .i64) ti42 rfl ti4 rfl rfl rfl (by show k * 1 ≤ _; omega) (by omega)]
    have hrep : List.replicate k (AV.bool false) = donesOf (fun _ => false) k := by
      apply List.ext_getElem?
      intro m
      by_cases hm : m < k
      · rw [donesOf, range_get hm, List.getElem?_replicate, if_pos hm]
      · rw [List.getElem?_eq_none (by simp; omega), List.getElem?_eq_none (by simp [donesOf]; omega)]
    rw [hrep]
    have uD : UpdH no H (G ++ [Block.row ⟨4, 1, donesOf (fun _ => false) k, false, false⟩]) := uG.trans (UpdH.push (p := no)) (fun _ _ h => h) (fun _ _ h => h)
    have eD : MuxI ⟨G ++ [Block.row ⟨4, 1, donesOf (fun _ => false) k, false, false⟩], [] :: S⟩ (H.length + 1) H.length ((first + k) % 4294967296) k (callsOf first (procOf procs) k) := mI_more e1
    have oxD : OH (G ++ [Block.row ⟨4, 1, donesOf (fun _ => false) k, false, false⟩]) vx 35 1 (xidsOf first k) k := ox.new UpdH.push
    have osD : OH (G ++ [Block.row ⟨4, 1, donesOf (fun _ => false) k, false, false⟩]) vs 35 1 (psOf (procOf procs) k) k := os.new UpdH.push
    have hdx : H.length + 2 ≤ G.length ∧ ¬ vx.loc G.length ∧ ¬ vs.loc G.length := ⟨(mI_lt e1).1, fun h => by have := ox.rh.lt h; omega, fun h => by have := os.rh.lt h; omega⟩
    have hD : (G ++ [Block.row ⟨4, 1, donesOf (fun _ => false) k, false, false⟩])[G.length]? = some (.row ⟨4, 1, donesOf (fun _ => false) k, false, false⟩) := by simp
    have hS : StillOf (callsOf first (procOf procs) k) first (procOf procs) k (fun _ => false) := ⟨callsOf_nodup (by omega), fun q hq => by rw [callsOf_get (by omega) hq]; rfl⟩
    generalize G.length = dx at hdx hD
    generalize G ++ [Block.row ⟨4, 1, donesOf (fun _ => false) k, false, false⟩] = G5 at uD eD oxD osD hD
    clear uG e1 ox os
    (repeat refine W_seq ?_); refine W_regionT [] ?_
    simp only [go_sem]
    (repeat refine W_seq ?_)
    refine W_block (W_loop (L_inv (fun j3 env M' => ∃ (z0 z1 z2 z4 z5 z6 z7 z8 z11 z14 z15 z16 z17 z18 z19 z20 z23 z24 z25 z26 z27 z28 z29 z30 z31 z32 z33 z34 z35 z36 z37 z38 z39 z40 z41 z42 z43 z44 z45 z46 z47 z48 z49 z50 z51 z52 z53 z54 z55 z56 z57 z58 z59 z60 z61 z62 z63 z64 z65 z66 z67 z68 z69 z70 z71 z72 z73 z74 z75 z76 z77 z78 z79 z80 z81 z82 z83 z84 z85 z86 z87 z88 z89 z90 z91 z92 z93 z94 z95 z96 z97 z98 z99 z100 z101 z102 z103 z104 z105 z106 z107 z108 z109 z110 z111 z112 z113 z114 z115 z116 z117 z118 z119 z120 z121 z122 z123 z124 z125 z126 z127 z128 z129 z130 z131 z132 z133 z134 z135 z136 z137 z138 z139 z140 z141 z142 z143 z144 z145 z146 z147 z148 z149 z150 z151 z152 z153 z154 z155 z156 z157 z158 z159 z160 z161 z162 z163 z164 z165 z166 z167 : AV) (i : Nat) (G' : List Block) (es : KV) (d : Nat → Bool) (nx : Int), env = [z0, z1, z2, vr, z4, z5, z6, z7, z8, .int .i64 k, .ptr ⟨0, H.length + 1, 0⟩, z11, vx, vs, z14, z15, z16, z17, z18, z19, z20, .sl ⟨0, dx, 0⟩ k (some k), .int .i64 i, z23, z24, z25, z26, z27, z28, z29, z30, z31, z32, z33, z34, z35, z36, z37, z38, z39, z40, z41, z42, z43, z44, z45, z46, z47, z48, z49, z50, z51, z52, z53, z54, z55, z56, z57, z58, z59, z60, z61, z62, z63, z64, z65, z66, z67, z68, z69, z70, z71, z72, z73, z74, z75, z76, z77, z78, z79, z80, z81, z82, z83, z84, z85, z86, z87, z88, z89, z90, z91, z92, z93, z94, z95, z96, z97, z98, z99, z100, z101, z102, z103, z104, z105, z106, z107, z108, z109, z110, z111, z112, z113, z114, z115, z116, z117, z118, z119, z120, z121, z122, z123, z124, z125, z126, z127, z128, z129, z130, z131, z132, z133, z134, z135, z136, z137, z138, z139, z140, z141, z142, z143, z144, z145, z146, z147, z148, z149, z150, z151, z152, z153, z154, z155, z156, z157, z158, z159, z160, z161, z162, z163, z164, z165, z166, z167] ∧ i + j3 = row.length ∧ M' = ⟨G', [] :: S⟩ ∧ UpdH no H G' ∧ MuxI ⟨G', [] :: S⟩ (H.length + 1) H.length nx k es ∧ StillOf es first (procOf procs) k d ∧ OH G' vx 35 1 (xidsOf first k) k ∧ OH G' vs 35 1 (psOf (procOf procs) k) k ∧ G'[dx]? = some (.row ⟨4, 1, donesOf d k, false, false⟩)) (fun j3 env M2 => ?_) (row.length) ?_))
    case refine_2 => exact ⟨_, _, _, _, _, _, _, _, _, _, _, _, _, _, _, _, _, _, _, _, _, _, _, _, _, _, _, _, _, _, _, _, _, _, _, _, _, _, _, _, _, _, _, _, _, _, _, _, _, _, _, _, _, _, _, _, _, _, _, _, _, _, _, _, _, _, _, _, _, _, _, _, _, _, _, _, _, _, _, _, _, _, _, _, _, _, _, _, _, _, _, _, _, _, _, _, _, _, _, _, _, _, _, _, _, _, _, _, _, _, _, _, _, _, _, _, _, _, _, _, _, _, _, _, _, _, _, _, _, _, _, _, _, _, _, _, _, _, _, _, _, _, _, _, _, _, _, _, _, _, _, _, _, _, _, _, _, _, _, _, _, 0, G5, _, _, _, rfl, by omega, rfl, uD, eD, hS, oxD, osD, hD⟩
    clear uD eD hS oxD osD hD
    refine exE fun z0 => exE fun z1 => exE fun z2 => exE fun z4 => exE fun z5 => exE fun z6 => exE fun z7 => exE fun z8 => exE fun z11 => exE fun z14 => exE fun z15 => exE fun z16 => exE fun z17 => exE fun z18 => exE fun z19 => exE fun z20 => exE fun z23 => exE fun z24 => exE fun z25 => exE fun z26 => exE fun z27 => exE fun z28 => exE fun z29 => exE fun z30 => exE fun z31 => exE fun z32 => exE fun z33 => exE fun z34 => exE fun z35 => exE fun z36 => exE fun z37 => exE fun z38 => exE fun z39 => exE fun z40 => exE fun z41 => exE fun z42 => exE fun z43 => exE fun z44 => exE fun z45 => exE fun z46 => exE fun z47 => exE fun z48 => exE fun z49 => exE fun z50 => exE fun z51 => exE fun z52 => exE fun z53 => exE fun z54 => exE fun z55 => exE fun z56 => exE fun z57 => exE fun z58 => exE fun z59 => exE fun z60 => exE fun z61 => exE fun z62 => exE fun z63 => exE fun z64 => exE fun z65 => exE fun z66 => exE fun z67 => exE fun z68 => exE fun z69 => exE fun z70 => exE fun z71 => exE fun z72 => exE fun z73 => exE fun z74 => exE fun z75 => exE fun z76 => exE fun z77 => exE fun z78 => exE fun z79 => exE fun z80 => exE fun z81 => exE fun z82 => exE fun z83 => exE fun z84 => exE fun z85 => exE fun z86 => exE fun z87 => exE fun z88 => exE fun z89 => exE fun z90 => exE fun z91 => exE fun z92 => exE fun z93 => exE fun z94 => exE fun z95 => exE fun z96 => exE fun z97 => exE fun z98 => exE fun z99 => exE fun z100 => exE fun z101 => exE fun z102 => exE fun z103 => exE fun z104 => exE fun z105 => exE fun z106 => exE fun z107 => exE fun z108 => exE fun z109 => exE fun z110 => exE fun z111 => exE fun z112 => exE fun z113 => exE fun z114 => exE fun z115 => exE fun z116 => exE fun z117 => exE fun z118 => exE fun z119 => exE fun z120 => exE fun z121 => exE fun z122 => exE fun z123 => exE fun z124 => exE fun z125 => exE fun z126 => exE fun z127 => exE fun z128 => exE fun z129 => exE fun z130 => exE fun z131 => exE fun z132 => exE fun z133 => exE fun z134 => exE fun z135 => exE fun z136 => exE fun z137 => exE fun z138 => exE fun z139 => exE fun z140 => exE fun z141 => exE fun z142 => exE fun z143 => exE fun z144 => exE fun z145 => exE fun z146 => exE fun z147 => exE fun z148 => exE fun z149 => exE fun z150 => exE fun z151 => exE fun z152 => exE fun z153 => exE fun z154 => exE fun z155 => exE fun z156 => exE fun z157 => exE fun z158 => exE fun z159 => exE fun z160 => exE fun z161 => exE fun z162 => exE fun z163 => exE fun z164 => exE fun z165 => exE fun z166 => exE fun z167 => ?_
    rintro ⟨i, G, es, d, nx, rfl, hij3, rfl, uG, e1, hS, ox, os, hD⟩
    by_cases hN : i < row.length
    · have hN' : (i : Int) < (row.length : Int) := by omega
      have hlen := len_rd ((hr.new uG).rd (S := [] :: S)) ti23 rfl
      (repeat refine W_seq ?_); refine W_regionT [] ?_
      simp only [go_sem, hlen, hN', decide_true, decide_false]
      (repeat refine W_seq ?_)
      refine W_cond_if rfl (fun hb => ?_) (fun hb => ?_)
      · have hi20 : i < 20 := by simp [hN] at hb; omega
        refine W_skip ?_
        simp only [go_sem]
        (repeat refine W_seq ?_)
        refine W_block ?_
        have hri := List.getElem?_eq_getElem hN
        obtain ⟨q0, a1, a2, _⟩ := at_rh (P := Try.prog) (S := [] :: S) (kk := .i64) (hr.new uG) ti23 rfl ti3 rfl rfl hN
        rw [List.getElem?_map, hri, Option.map_some] at a2
        have hrb := hrr _ (List.getElem_mem hN)
        (repeat refine W_seq ?_); refine W_regionT [] ?_
        simp only [go_sem, a1, a2]
        refine AT_call rfl rfl (aroundF hrb.1 hrb.2 (by omega)) fun v M1 hd1 h1 => ?_
        obtain ⟨hv, hM⟩ := h1
        have hq := around_range (n := row[i]) (k := k) (by omega)
        generalize around row[i] k = rq at hv hq
        obtain ⟨q, rfl⟩ : ∃ n : Nat, rq = n := ⟨rq.toNat, by omega⟩
        subst hv; subst hM
        have hqk : q < k := by omega
        obtain ⟨b1, a3, a4, _⟩ := at_rh (P := Try.prog) (S := [] :: S) (kk := .i64) ox.rh ti39 rfl ti35 rfl rfl hqk
        rw [xidsOf, range_get hqk] at a4
        obtain ⟨b2, a5, a6, _⟩ := at_rh (P := Try.prog) (S := [] :: S) (kk := .i64) os.rh ti39 rfl ti35 rfl rfl hqk
        rw [psOf, range_get hqk] at a6
        have hpq := procOf_range (procs := procs) (q := q)
        simp only [go_sem, a1, a2]
        have hget := hS.2 q hqk
        cases hd : d q
        · rw [hd] at hget
          simp only [Bool.false_eq_true, if_false] at hget
          (repeat refine W_seq ?_); refine W_regionC [] [10] [0, 1, 2, 3, 4, 5, 6, 7, 8, 9, 10, 11, 12, 13, 14, 15] [0, 0, 0, 6, 14, 0, 0, 96, 224, 480, 1023, 2047, 4095, 4095, 8191, 32767] mixedM (by kernel_rfl) (by kernel_rfl) (by kernel_rfl) (by kernel_rfl) ?_
          simp only [listed, go_sem, a3, a4, a5, a6, wrap_u32, List.map_cons, List.map_nil, show (procOf procs q + 1) % 4294967296 = procOf procs q + 1 by omega]
          refine AT_call rfl rfl (matchI (n := keyOf first q) (q := _) e1) fun v M1 hd1 h1 => ?_
          rcases h1 with ⟨hg2, _⟩ | ⟨p1, y1, hg2, h2⟩
          · rw [hget] at hg2; cases hg2
          rw [hget] at hg2
          cases hg2
          rcases h2 with ⟨_, rfl, rfl⟩ | ⟨hpp, _⟩
          case inr => exact absurd hpp (by omega)
          simp only [go_sem, a3, a4, a5, a6, wrap_u32, List.map_cons, List.map_nil, show (procOf procs q + 1) % 4294967296 = procOf procs q + 1 by omega]
          (repeat refine W_seq ?_); refine W_regionC [] [9] [0, 1, 2, 3, 4, 5, 6, 7, 8, 9, 10, 11, 12, 13, 14] [0, 0, 0, 6, 14, 0, 0, 96, 224, 511, 1023, 2047, 2047, 4095, 16383] mixedM (by kernel_rfl) (by kernel_rfl) (by kernel_rfl) (by kernel_rfl) ?_
          simp only [listed, go_sem, a3, a4, a5, a6, wrap_u32, List.map_cons, List.map_nil]
          refine AT_call rfl rfl (matchI (n := keyOf first q) (q := _) e1) fun v M1 hd1 h1 => ?_
          rcases h1 with ⟨hg2, _⟩ | ⟨p1, y1, hg2, h2⟩
          · rw [hget] at hg2; cases hg2
          rw [hget] at hg2
          cases hg2
          rcases h2 with ⟨hpp, _⟩ | ⟨_, rfl, rfl⟩
          · exact absurd rfl hpp
          have e2 := mI_set (S' := [] :: S) e1 (es' := delK es (keyOf first q)) (delK_v e1.v)
          have hml := mI_lt e1
          have uM : UpdH (· = H.length) G (G.set H.length (.map (kv .u32 (delK es (keyOf first q))))) := UpdH.set
          have ox2 := ox.upd uM (fun r hr h => by have := (lo.1 r hr).1; omega)
          have os2 := os.upd uM (fun r hr h => by have := lo.2 r hr; omega)
          have hD2 := uM.get hD (by omega)
          have uG2 : UpdH no H (G.set H.length (.map (kv .u32 (delK es (keyOf first q))))) := uG.then uM (fun r hr h => by omega)
          generalize hG2 : G.set H.length (.map (kv .u32 (delK es (keyOf first q)))) = G2 at e2 uM ox2 os2 hD2 uG2
          have hgd := range_get (f := fun q => AV.bool (d q)) hqk
          have hix' : indexAddrA Try.prog 42 (.sl ⟨0, dx, 0⟩ k (some k)) (.int .i64 q) ⟨G2, [] :: S⟩ = some (.ptr ⟨0, dx, q⟩) := by
            rw [index_addr ti42 rfl ti4 (heap_row hD2) rfl rfl (by omega) (by omega)]; simp
          have hld' : loadA Try.prog 4 (.ptr ⟨0, dx, q⟩) ⟨G2, [] :: S⟩ = some (.bool false) := by
            rw [load_one ti4 rfl (heap_row hD2), ← hd]; exact hgd
          simp only [go_sem, a3, a4, a5, a6, wrap_u32, List.map_cons, List.map_nil]
          (repeat refine W_seq ?_); refine W_regionT [] ?_
          simp only [go_sem, hix', hld']
          (repeat refine W_seq ?_)
          refine W_cond (b := false) rfl ?_
          simp only [Bool.false_eq_true, if_false]
          refine W_skip ?_
          simp only [go_sem]
          (repeat refine W_seq ?_); refine W_regionT [] ?_
          simp only [go_sem, show ¬ ((2 : Int) = 0) by decide]
          (repeat refine W_seq ?_)
          refine W_cond (b := false) rfl ?_
          simp only [Bool.false_eq_true, if_false]
          refine W_skip ?_
          simp only [go_sem]
          have hst : stores Try.prog 4 (.ptr ⟨0, dx, q⟩) (.bool true) ⟨G2, [] :: S⟩ = some (.undef, ⟨G2.set dx (.row ⟨4, 1, donesOf (fun r => decide (r = q) || d r) k, false, false⟩), [] :: S⟩) := by
            rw [store_cell ti4 (heap_row hD2) rfl rfl rfl (by simp [Nat.mod_one]) rfl rfl, mem_set0, donesOf_set hqk]
          have uN : UpdH (· = dx) G2 (G2.set dx (.row ⟨4, 1, donesOf (fun r => decide (r = q) || d r) k, false, false⟩)) := UpdH.set
          have hdl := (List.getElem?_eq_some_iff.1 hD2).1
          (repeat refine W_seq ?_); refine W_regionT [] ?_
          simp only [go_sem, hix', hst]
          (repeat refine W_seq ?_); refine W_regionT [] ?_
          simp only [go_sem, show (i : Int) + 1 = ((i + 1 : Nat) : Int) from rfl, wrap_i64 (n := ((i + 1 : Nat) : Int)) (by omega) (by omega)]
          refine ⟨j3 - 1, by omega, _, _, _, _, _, _, _, _, _, _, _, _, _, _, _, _, _, _, _, _, _, _, _, _, _, _, _, _, _, _, _, _, _, _, _, _, _, _, _, _, _, _, _, _, _, _, _, _, _, _, _, _, _, _, _, _, _, _, _, _, _, _, _, _, _, _, _, _, _, _, _, _, _, _, _, _, _, _, _, _, _, _, _, _, _, _, _, _, _, _, _, _, _, _, _, _, _, _, _, _, _, _, _, _, _, _, _, _, _, _, _, _, _, _, _, _, _, _, _, _, _, _, _, _, _, _, _, _, _, _, _, _, _, _, _, _, _, _, _, _, _, _, _, _, _, _, _, _, _, _, _, _, _, _, _, _, _, _, _, _, _, i + 1, _, _, _, nx, rfl, by omega, rfl, uG2.then uN (fun r hr h => by omega), mI_keep e2 (uN.g _ (by omega) (by omega)) (uN.g _ (by omega) (by omega)), hS.del (by omega) hqk, ox2.upd uN (fun r hr h => hdx.2.1 (by rw [← h]; exact hr)), os2.upd uN (fun r hr h => hdx.2.2 (by rw [← h]; exact hr)), by rw [List.getElem?_set_self hdl]⟩
        · rw [hd] at hget
          simp only [if_true] at hget
          have hgd := range_get (f := fun q => AV.bool (d q)) hqk
          have hix : indexAddrA Try.prog 42 (.sl ⟨0, dx, 0⟩ k (some k)) (.int .i64 q) ⟨G, [] :: S⟩ = some (.ptr ⟨0, dx, q⟩) := by
            rw [index_addr ti42 rfl ti4 (heap_row hD) rfl rfl (by omega) (by omega)]; simp
          have hld : loadA Try.prog 4 (.ptr ⟨0, dx, q⟩) ⟨G, [] :: S⟩ = some (.bool (d q)) := by
            rw [load_one ti4 rfl (heap_row hD)]; exact hgd
          rw [hd] at hld
          (repeat refine W_seq ?_); refine W_regionC [] [10] [0, 1, 2, 3, 4, 5, 6, 7, 8, 9, 10, 11, 12, 13, 14, 15] [0, 0, 0, 6, 14, 0, 0, 96, 224, 480, 1023, 2047, 4095, 4095, 8191, 32767] mixedM (by kernel_rfl) (by kernel_rfl) (by kernel_rfl) (by kernel_rfl) ?_
          simp only [listed, go_sem, a3, a4, a5, a6, wrap_u32, List.map_cons, List.map_nil, show (procOf procs q + 1) % 4294967296 = procOf procs q + 1 by omega]
          refine AT_call rfl rfl (matchI (n := keyOf first q) (q := _) e1) fun v M1 hd1 h1 => ?_
          rcases h1 with ⟨_, rfl, rfl⟩ | ⟨p1, y1, hg2, _⟩
          case inr => rw [hget] at hg2; cases hg2
          simp only [go_sem, a3, a4, a5, a6, wrap_u32, List.map_cons, List.map_nil, show (procOf procs q + 1) % 4294967296 = procOf procs q + 1 by omega]
          (repeat refine W_seq ?_); refine W_regionC [] [9] [0, 1, 2, 3, 4, 5, 6, 7, 8, 9, 10, 11, 12, 13, 14] [0, 0, 0, 6, 14, 0, 0, 96, 224, 511, 1023, 2047, 2047, 4095, 16383] mixedM (by kernel_rfl) (by kernel_rfl) (by kernel_rfl) (by kernel_rfl) ?_
          simp only [listed, go_sem, a3, a4, a5, a6, wrap_u32, List.map_cons, List.map_nil]
          refine AT_call rfl rfl (matchI (n := keyOf first q) (q := _) e1) fun v M1 hd1 h1 => ?_
          rcases h1 with ⟨_, rfl, rfl⟩ | ⟨p1, y1, hg2, _⟩
          case inr => rw [hget] at hg2; cases hg2
          simp only [go_sem, a3, a4, a5, a6, wrap_u32, List.map_cons, List.map_nil]
          (repeat refine W_seq ?_); refine W_regionT [] ?_
          simp only [go_sem, hix, hld]
          (repeat refine W_seq ?_)
          refine W_cond (b := true) rfl ?_
          simp only [if_true]
          (repeat refine W_seq ?_); refine W_regionT [] ?_
          simp only [go_sem]
          (repeat refine W_seq ?_)
          refine W_cond (b := false) rfl ?_
          simp only [Bool.false_eq_true, if_false]
          refine W_skip ?_
          simp only [go_sem]
          (repeat refine W_seq ?_)
          refine W_exit ?_
          simp only [go_sem]
          (repeat refine W_seq ?_); refine W_regionT [] ?_
          simp only [go_sem, show (i : Int) + 1 = ((i + 1 : Nat) : Int) from rfl, wrap_i64 (n := ((i + 1 : Nat) : Int)) (by omega) (by omega)]
          refine ⟨j3 - 1, by omega, _, _, _, _, _, _, _, _, _, _, _, _, _, _, _, _, _, _, _, _, _, _, _, _, _, _, _, _, _, _, _, _, _, _, _, _, _, _, _, _, _, _, _, _, _, _, _, _, _, _, _, _, _, _, _, _, _, _, _, _, _, _, _, _, _, _, _, _, _, _, _, _, _, _, _, _, _, _, _, _, _, _, _, _, _, _, _, _, _, _, _, _, _, _, _, _, _, _, _, _, _, _, _, _, _, _, _, _, _, _, _, _, _, _, _, _, _, _, _, _, _, _, _, _, _, _, _, _, _, _, _, _, _, _, _, _, _, _, _, _, _, _, _, _, _, _, _, _, _, _, _, _, _, _, _, _, _, _, _, _, _, i + 1, G, es, d, nx, rfl, by omega, rfl, uG, e1, hS, ox, os, hD⟩
      · (repeat refine W_seq ?_)
        refine W_exit ?_
        simp only [go_sem]
        (repeat refine W_seq ?_); refine W_regionT [] ?_
        simp only [go_sem]
        refine AT_call rfl rfl (lives07c) fun v M1 hd1 h1 => ?_
        obtain ⟨hv, hM⟩ := h1; subst hv; subst hM
        simp only [go_sem]
        exact W_ret ⟨.inr rfl, _, rfl, rfl, rfl⟩
    · have hN' : ¬ (i : Int) < (row.length : Int) := by omega
      have hlen := len_rd ((hr.new uG).rd (S := [] :: S)) ti23 rfl
      (repeat refine W_seq ?_); refine W_regionT [] ?_
      simp only [go_sem, hlen, hN', decide_true, decide_false]
      (repeat refine W_seq ?_)
      refine W_cond (b := false) rfl ?_
      simp only [Bool.false_eq_true, if_false]
      (repeat refine W_seq ?_)
      refine W_exit ?_
      simp only [go_sem]
      (repeat refine W_seq ?_); refine W_regionT [] ?_
      simp only [go_sem]
      refine AT_call rfl rfl (lives07c) fun v M1 hd1 h1 => ?_
      obtain ⟨hv, hM⟩ := h1; subst hv; subst hM
      simp only [go_sem]
      exact W_ret ⟨.inr rfl, _, rfl, rfl, rfl⟩
end
end Go.Proofs.Ytcjdckoabinndaa
