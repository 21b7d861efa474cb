/-
  Nodes: how much a node has (Size), Small; the law EvalLogic, its run.
-/
import Derived.Test.YtelckbphbkebkaaGreatDoorVf
set_option linter.unusedVariables false
set_option linter.unusedSimpArgs false
set_option maxRecDepth 100000
namespace Go.Proofs.YtelckbphbkebkaaGreatDoor
open Go.RowKit

/-! ## Size -/
abbrev SzT := NdC → Int → Option Int
def p_sz (g : SzT) : PFn := ⟨fun xs k => match xs with | [.agg [.int .i64 k1, .str o1, .int .i64 j1, .int .i64 a1, .int .i64 n1, .int .i64 c1, .str s1, .bool b1, .int .i64 t1, .int .i64 u1, .sl z1 11 m1 d1], .int .i64 dep] => (g ⟨k1, o1, j1, ⟨a1, n1, c1, s1⟩, b1, t1, u1, z1, m1, d1⟩ dep).bind fun r => k (.int .i64 r) | _ => none, false⟩
theorem p_sz_nat (g : SzT) : (p_sz g).nat := by
  intro R xs k
  simp only [p_sz]
  split
  · rename_i k1 o1 j1 a1 n1 c1 s1 b1 t1 u1 z1 m1 d1 dep
    cases g ⟨k1, o1, j1, ⟨a1, n1, c1, s1⟩, b1, t1, u1, z1, m1, d1⟩ dep <;> rfl
  · rfl
def hSz : Hints := ⟨[], [(0, ⟨[(1, false), (5, false), (34, false), (35, false), (36, false)], []⟩)]⟩
def frSz (dep kk : Int) (z : Option Bool) (m : Nat) (d : List PV) (L i : Int) : St :=
  frame 50 [(1, (.int .i64 dep, 0)), (5, (.int .i64 kk, 0)), (34, (.sl z 11 m d, 0)), (35, (.int .i64 L, 0)), (36, (.int .i64 i, 0))] []
noncomputable def szLoop (g : SzT) (fu n : Nat) (st : St) : Option PV := loopF (en [(8, p_sz g)]) hSz fu false Tryz.f8 [1, 1, 1, 0, 1, 0] 0 n st
theorem sz_raw (g : SzT) (fu : Nat) (k1 : Int) (o1 : List UInt8) (j1 a1 n1 c1 : Int) (s1 : List UInt8) (b1 : Bool) (t1 u1 : Int) (z1 : Option Bool) (m1 : Nat) (d1 : List PV) (dep : Int) : prun (en [(8, p_sz g)]) hSz fu false Tryz.f8 [.agg [.int .i64 k1, .str o1, .int .i64 j1, .int .i64 a1, .int .i64 n1, .int .i64 c1, .str s1, .bool b1, .int .i64 t1, .int .i64 u1, .sl z1 11 m1 d1], .int .i64 dep] =
    bif dep == 0 || decide (2000 < maxI (maxI (m1 : Int) (s1.length : Int)) (o1.length : Int)) then some (.int .i64 2001) else szLoop g fu fu (frSz dep (IntKind.i64.wrap (IntKind.i64.wrap (1 + (s1.length : Int)) + (o1.length : Int))) z1 m1 d1 (m1 : Int) 0) := prunN_eq.trans (by kernel_rfl)
theorem sz_step (g : SzT) (fu : Nat) (dep kk : Int) (z : Option Bool) (m : Nat) (d : List PV) (L i : Int) (K : St → Option PV) :
    stepF (en [(8, p_sz g)]) hSz fu false Tryz.f8 [1, 1, 1, 0, 1, 0] (frSz dep kk z m d L i) (fun st => pnorm (hSz.loop.lookup 0) st K) =
    bif decide (i < L) then at11 m d i fun y => bif decide (2000 < kk) then some (.int .i64 2001) else (g y (IntKind.i64.wrap (dep - 1))).bind fun w => K (frSz dep (IntKind.i64.wrap (kk + w)) z m d L (IntKind.i64.wrap (i + 1)))
    else some (.int .i64 kk) := by kernel_rfl
def szL (g : NdC → Option Int) : Int → List NdC → Option Int
  | k, [] => some k
  | k, y :: ys => bif decide (2000 < k) then some 2001 else (g y).bind fun w => szL g (IntKind.i64.wrap (k + w)) ys
def sz0 (x : NdC) : Int := IntKind.i64.wrap (IntKind.i64.wrap (1 + (x.v.s.length : Int)) + (x.op.length : Int))
def szS : Nat → Int → NdC → Option Int
  | 0, _, _ => none
  | f + 1, dep, x => (decG 11 ndG x.n x.c).bind fun l => bif dep == 0 || decide (2000 < maxI (maxI (x.n : Int) (x.v.s.length : Int)) (x.op.length : Int)) then some 2001 else szL (szS f (IntKind.i64.wrap (dep - 1))) (sz0 x) l
theorem sz_loop (g : SzT) (fu : Nat) (dep : Int) (z : Option Bool) (l : List NdC) (hl : l.length ≤ 1000000) : ∀ (k i n : Nat) (kk r : Int), i + k = l.length → k < n → szL (fun y => g y (IntKind.i64.wrap (dep - 1))) kk (l.drop i) = some r →
    szLoop g fu n (frSz dep kk z l.length (ndC l) (l.length : Int) (i : Int)) = some (.int .i64 r)
  | k, i, 0, _, _, _, h, _ => by omega
  | 0, i, n + 1, kk, r, hi, hn, hr => by
    unfold szLoop
    rw [loopF_succ, sz_step, cond_f (decide_eq_false (by omega))]
    rw [List.drop_of_length_le (by omega), szL] at hr
    injection hr with hr
    rw [hr]
  | k + 1, i, n + 1, kk, r, hi, hn, hr => by
    unfold szLoop
    have hc := List.getElem?_eq_getElem (l := l) (i := i) (by omega)
    have ih := sz_loop g fu dep z l hl k (i + 1) n
    unfold szLoop at ih
    rw [loopF_succ, sz_step, cond_t (decide_eq_true (by omega)), at11_eq hc, wrapI_of (x := (i : Int) + 1) (by omega) (by omega)]
    rw [List.drop_eq_getElem_cons (show i < l.length by omega), szL] at hr
    rcases hk : decide (2000 < kk) with _ | _ <;> rw [hk] at hr <;> simp only [cond_true, cond_false] at hr ⊢
    · obtain ⟨w, h1, hr⟩ := Option.bind_eq_some_iff.1 hr
      rw [show g l[i] (IntKind.i64.wrap (dep - 1)) = some w from h1, Option.bind_some]
      exact ih _ r (by omega) (by omega) hr
    · injection hr with hr
      rw [hr]
def szG (f : Nat) : SzT := fun x dep => szS f dep x
theorem ok_sz : ∀ f, FOK NGc Wc 8 (p_sz (szG f))
  | 0 => by
    refine fok wokc allOK_nil (h := ⟨[], []⟩) Tryz.func8 rfl (by decide) (p_sz_nat _) ?_
    intro xs r h
    simp only [p_sz] at h
    split at h
    · rename_i k1 o1 j1 a1 n1 c1 s1 b1 t1 u1 z1 m1 d1 dep
      obtain ⟨q, h1, h⟩ := Option.bind_eq_some_iff.1 h
      cases h1
    · cases h
  | f + 1 => by
    have ih := ok_sz f
    refine fok wokc (allOK_cons ih allOK_nil) (h := hSz) Tryz.func8 rfl (by decide) (p_sz_nat _) ?_
    intro xs r h
    simp only [p_sz] at h
    split at h
    · rename_i k1 o1 j1 a1 n1 c1 s1 b1 t1 u1 z1 m1 d1 dep
      obtain ⟨q, h1, h⟩ := Option.bind_eq_some_iff.1 h
      injection h with h
      subst h
      have h1 : szS (f + 1) dep ⟨k1, o1, j1, ⟨a1, n1, c1, s1⟩, b1, t1, u1, z1, m1, d1⟩ = some q := h1
      rw [szS] at h1
      obtain ⟨l, hd, h2⟩ := Option.bind_eq_some_iff.1 h1
      clear h1
      obtain ⟨rfl, rfl⟩ := decNd (n := m1) (c := d1) hd
      have h3 : (bif dep == 0 || decide (2000 < maxI (maxI (l.length : Int) (s1.length : Int)) (o1.length : Int)) then some 2001 else szL (szS f (IntKind.i64.wrap (dep - 1))) (IntKind.i64.wrap (IntKind.i64.wrap (1 + (s1.length : Int)) + (o1.length : Int))) l) = some q := h2
      clear h2
      refine ⟨l.length + 1, (sz_raw (szG f) _ k1 o1 j1 a1 n1 c1 s1 b1 t1 u1 z1 _ _ dep).trans ?_⟩
      rcases hc : (dep == 0 || decide (2000 < maxI (maxI (l.length : Int) (s1.length : Int)) (o1.length : Int))) with _ | _ <;> rw [hc] at h3 <;> simp only [cond_true, cond_false] at h3 ⊢
      · have hl : l.length ≤ 1000000 := by
          simp only [Bool.or_eq_false_iff, decide_eq_false_iff_not] at hc
          have := hc.2
          unfold maxI at this
          split at this <;> split at this <;> omega
        exact sz_loop (szG f) _ dep z1 l hl l.length 0 _ _ q (by omega) (by omega) h3
      · injection h3 with h3; rw [h3]
    · cases h
/-! ## Small -/
def hSm : Hints := ⟨[], [(0, ⟨[(8, false), (9, false), (10, false)], []⟩)]⟩
def frSm (y : Option Bool) (rl : Nat) (rc : List PV) (L i : Int) : St := frame 19 [(8, (.sl y 4 rl rc, 0)), (9, (.int .i64 L, 0)), (10, (.int .i64 i, 0))] []
noncomputable def smLoop (fu n : Nat) (st : St) : Option PV := loopF (en []) hSm fu false Tryz.f9 [1, 1, 0, 1, 0] 0 n st
theorem sm_raw (fu : Nat) (y1 : Option Bool) (rl : Nat) (rc : List PV) : prun (en []) hSm fu false Tryz.f9 [.sl y1 4 rl rc] = bif decide (30 < (rl : Int)) then some (.bool false) else smLoop fu fu (frSm y1 rl rc (rl : Int) 0) := prunN_eq.trans (by kernel_rfl)
theorem sm_step (fu : Nat) (y : Option Bool) (rl : Nat) (rc : List PV) (L i : Int) (K : St → Option PV) :
    stepF (en []) hSm fu false Tryz.f9 [1, 1, 0, 1, 0] (frSm y rl rc L i) (fun st => pnorm (hSm.loop.lookup 0) st K) =
    bif decide (i < L) then at4 rl rc i fun v => bif decide (250 < (v.s.length : Int)) then some (.bool false) else K (frSm y rl rc L (IntKind.i64.wrap (i + 1))) else some (.bool true) := by kernel_rfl
def smV (v : Val) : Bool := decide (v.s.length ≤ 250)
def smS (row : List Val) : Bool := decide (row.length ≤ 30) && row.all smV
theorem sm_loop (fu : Nat) (y : Option Bool) (row : List Val) (hl : row.length ≤ 30) : ∀ (k i n : Nat), i + k = row.length → k < n → smLoop fu n (frSm y row.length (rowC row) (row.length : Int) (i : Int)) = some (.bool ((row.drop i).all smV))
  | k, i, 0, _, h => by omega
  | 0, i, n + 1, hi, hn => by
    unfold smLoop
    rw [loopF_succ, sm_step, cond_f (decide_eq_false (by omega)), List.drop_of_length_le (by omega)]
    rfl
  | k + 1, i, n + 1, hi, hn => by
    unfold smLoop
    have hc := List.getElem?_eq_getElem (l := row) (i := i) (by omega)
    have ih := sm_loop fu y row hl k (i + 1) n (by omega) (by omega)
    unfold smLoop at ih
    rw [loopF_succ, sm_step, cond_t (decide_eq_true (by omega)), at4_eq hc, wrapI_of (by omega) (by omega), List.drop_eq_getElem_cons (show i < row.length by omega), List.all_cons]
    by_cases hv : 250 < row[i].s.length
    · rw [cond_t (decide_eq_true (by omega)), show smV row[i] = false from decide_eq_false (by omega)]; rfl
    · rw [cond_f (decide_eq_false (by omega)), show smV row[i] = true from decide_eq_true (by omega)]
      exact ih
def p_sm : PFn := ⟨fun xs k => match xs with | [.sl _ 4 rl rc] => (decG 4 vG rl rc).bind fun row => k (.bool (smS row)) | _ => none, false⟩
theorem ok_sm : FOK NGc Wc 9 p_sm := by
  refine fok wokc allOK_nil (h := hSm) Tryz.func9 rfl (by decide) ?_ ?_
  · intro R xs k
    simp only [p_sm]
    split
    · rename_i y rl rc
      cases decG 4 vG rl rc <;> rfl
    · rfl
  · intro xs r h
    simp only [p_sm] at h
    split at h
    · rename_i y rl rc
      obtain ⟨row, h1, h⟩ := Option.bind_eq_some_iff.1 h
      injection h with h
      subst h
      obtain ⟨rfl, rfl⟩ := decRow h1
      refine ⟨row.length + 1, (sm_raw _ y _ _).trans ?_⟩
      unfold smS
      by_cases hl : row.length ≤ 30
      · rw [cond_f (decide_eq_false (by omega)), decide_eq_true hl]
        exact sm_loop _ y row hl row.length 0 _ (by omega) (by omega)
      · rw [cond_t (decide_eq_true (by omega)), decide_eq_false hl]; rfl
    · cases h
/-! ## the law's run -/
def unN (op : List UInt8) (x : NdC) : NdC := ⟨2, op, 0, vnull, false, 0, 0, some false, 1, x.cs⟩
theorem not_raw (k1 : Int) (o1 : List UInt8) (j1 a1 n1 c1 : Int) (s1 : List UInt8) (b1 : Bool) (t1 u1 : Int) (z1 : Option Bool) (m1 : Nat) (d1 : List PV) : prun (en []) ⟨[], []⟩ 0 false Tryz.f11 [.agg [.int .i64 k1, .str o1, .int .i64 j1, .int .i64 a1, .int .i64 n1, .int .i64 c1, .str s1, .bool b1, .int .i64 t1, .int .i64 u1, .sl z1 11 m1 d1]] = some (ndP (unN [78, 79, 84] ⟨k1, o1, j1, ⟨a1, n1, c1, s1⟩, b1, t1, u1, z1, m1, d1⟩)) := by kernel_rfl
def p_notN : PFn := ⟨fun xs k => match xs with | [.agg [.int .i64 k1, .str o1, .int .i64 j1, .int .i64 a1, .int .i64 n1, .int .i64 c1, .str s1, .bool b1, .int .i64 t1, .int .i64 u1, .sl z1 11 m1 d1]] => k (ndP (unN [78, 79, 84] ⟨k1, o1, j1, ⟨a1, n1, c1, s1⟩, b1, t1, u1, z1, m1, d1⟩)) | _ => none, false⟩
theorem ok_notN : FOK NGc Wc 11 p_notN := by
  refine fok wokc allOK_nil (h := ⟨[], []⟩) Tryz.func11 rfl (by decide) ?_ ?_
  · intro R xs k
    simp only [p_notN]
    split
    · rfl
    · rfl
  · intro xs r h
    simp only [p_notN] at h
    split at h
    · rename_i k1 o1 j1 a1 n1 c1 s1 b1 t1 u1 z1 m1 d1
      exact ⟨0, (not_raw k1 o1 j1 a1 n1 c1 s1 b1 t1 u1 z1 m1 d1).trans h⟩
    · cases h
def smO {R : Type} (rl : Nat) (rc : List PV) (K : Bool → Option R) : Option R := (decG 4 vG rl rc).bind fun row => K (smS row)
def elB (g : EvT) (x y : NdC) (rl : Nat) (rc : List PV) : Option PV :=
  (g x rl rc).bind fun a => (g y rl rc).bind fun b => bif !(a.2 == 0) || !(b.2 == 0) then some (.bool true) else
  (g (twN [65, 78, 68] x y) rl rc).bind fun p => (g (unN [78, 79, 84] (twN [79, 82] (unN [78, 79, 84] x) (unN [78, 79, 84] y))) rl rc).bind fun q => (g (twN [79, 82] x (unN [78, 79, 84] x)) rl rc).bind fun r =>
  bif p.2 == 0 && q.2 == 0 && r.2 == 0 && eqV p.1 q.1 then some (.bool (eqV p.1 (rofV (ranS (rtrS a.1) (rtrS b.1))) && ((!(r.1.kind == 0)) == (!(rtrS a.1 == 2))) && (!(!(rtrS a.1 == 2)) || r.1.n == 1))) else some (.bool false)
def elE (gz : SzT) (g : EvT) (x y : NdC) (rl : Nat) (rc : List PV) : Option PV :=
  (gz x 50).bind fun a => bif !decide (500 < a) then (gz y 50).bind fun b => bif !decide (500 < b) then smO rl rc fun s => bif !s then some (.bool true) else elB g x y rl rc else some (.bool true) else some (.bool true)
noncomputable def lEl (gz : SzT) (g : EvT) : List (FuncId × PFn) := [(7, p_true0), (8, p_sz gz), (9, p_sm), (10, p_ev g), (12, p_two), (11, p_notN), (13, p_rtr), (15, p_ran), (14, p_rofv)]
theorem el_raw (gz : SzT) (g : EvT) (k1 : Int) (o1 : List UInt8) (j1 a1 n1 c1 : Int) (s1 : List UInt8) (b1 : Bool) (t1 u1 : Int) (z1 : Option Bool) (m1 : Nat) (d1 : List PV) (k2 : Int) (o2 : List UInt8) (j2 a2 n2 c2 : Int) (s2 : List UInt8) (b2 : Bool) (t2 u2 : Int) (z2 : Option Bool) (m2 : Nat) (d2 : List PV) (y1 : Option Bool) (rl : Nat) (rc : List PV) : prun (en (lEl gz g)) ⟨[], []⟩ 0 false Tryz.f3 [.agg [.int .i64 k1, .str o1, .int .i64 j1, .int .i64 a1, .int .i64 n1, .int .i64 c1, .str s1, .bool b1, .int .i64 t1, .int .i64 u1, .sl z1 11 m1 d1], .agg [.int .i64 k2, .str o2, .int .i64 j2, .int .i64 a2, .int .i64 n2, .int .i64 c2, .str s2, .bool b2, .int .i64 t2, .int .i64 u2, .sl z2 11 m2 d2], .sl y1 4 rl rc] = elE gz g ⟨k1, o1, j1, ⟨a1, n1, c1, s1⟩, b1, t1, u1, z1, m1, d1⟩ ⟨k2, o2, j2, ⟨a2, n2, c2, s2⟩, b2, t2, u2, z2, m2, d2⟩ rl rc := by kernel_rfl
theorem ok_lEl (f d : Nat) : AllOK NGc Wc (lEl (szG f) (evGd d)) := allOK_cons ok_first22 (allOK_cons (ok_sz f) (allOK_cons ok_sm (allOK_cons (ok_ev d) (allOK_cons ok_two (allOK_cons ok_notN (allOK_cons ok_rtr (allOK_cons ok_ran (allOK_cons ok_rofv allOK_nil))))))))

end Go.Proofs.YtelckbphbkebkaaGreatDoor
