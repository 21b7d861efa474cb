/-
  Nodes: the law's small functions; comparisons turned around: the law EvalCompares, its run.
-/
import Derived.Test.YtelckbphbkebkaaGreatDoorVe
set_option linter.unusedVariables false
set_option linter.unusedSimpArgs false
set_option maxRecDepth 100000
namespace Go.Proofs.YtelckbphbkebkaaGreatDoor
open Go.RowKit

/-! ## the reference's truths -/
def rtrS (v : Val) : Int := bif !(v.kind == 1) then 2 else v.n
theorem rtr_raw (a n c : Int) (s : List UInt8) : prun (en []) ⟨[], []⟩ 0 false Tryz.f13 [.agg [.int .i64 a, .int .i64 n, .int .i64 c, .str s]] = (bif !(a == 1) then some (.int .i64 2) else some (.int .i64 n)) := by kernel_rfl
def p_rtr : PFn := ⟨fun xs k => match xs with | [.agg [.int .i64 a, .int .i64 n, .int .i64 c, .str s]] => k (.int .i64 (rtrS ⟨a, n, c, s⟩)) | _ => none, false⟩
theorem ok_rtr : FOK NGc Wc 13 p_rtr := by
  refine fok wokc allOK_nil (h := ⟨[], []⟩) Tryz.func13 rfl (by decide) ?_ ?_
  · intro R xs k
    simp only [p_rtr]
    split
    · rfl
    · rfl
  · intro xs r h
    simp only [p_rtr] at h
    split at h
    · rename_i a n c s
      exact ⟨0, ((rtr_raw a n c s).trans (by unfold rtrS; cases (a == 1) <;> rfl)).trans h⟩
    · cases h
def rofV (t : Int) : Val := bif t == 2 then vnull else ⟨1, t, 0, []⟩
theorem r22of_raw (a : Int) : prun (en []) ⟨[], []⟩ 0 false Tryz.f14 [.int .i64 a] = (bif a == 2 then some (valQ vnull) else some (valQ ⟨1, a, 0, []⟩)) := by kernel_rfl
def p_rofv : PFn := ⟨fun xs k => match xs with | [.int .i64 a] => k (valQ (rofV a)) | _ => none, false⟩
theorem ok_rofv : FOK NGc Wc 14 p_rofv := by
  refine fok wokc allOK_nil (h := ⟨[], []⟩) Tryz.func14 rfl (by decide) ?_ ?_
  · intro R xs k
    simp only [p_rofv]
    split
    · rfl
    · rfl
  · intro xs r h
    simp only [p_rofv] at h
    split at h
    · rename_i a
      exact ⟨0, ((r22of_raw a).trans (by unfold rofV; cases (a == 2) <;> rfl)).trans h⟩
    · cases h
def rntS (a : Int) : Int := bif a == 0 then 1 else bif a == 1 then 0 else 2
theorem rnt_raw (a : Int) : prun (en []) ⟨[], []⟩ 0 false Tryz.f16 [.int .i64 a] = (bif a == 0 then some (.int .i64 1) else bif a == 1 then some (.int .i64 0) else some (.int .i64 2)) := by kernel_rfl
def p_rnt : PFn := ⟨fun xs k => match xs with | [.int .i64 a] => k (.int .i64 (rntS a)) | _ => none, false⟩
theorem ok_rnt : FOK NGc Wc 16 p_rnt := by
  refine fok wokc allOK_nil (h := ⟨[], []⟩) Tryz.func16 rfl (by decide) ?_ ?_
  · intro R xs k
    simp only [p_rnt]
    split
    · rfl
    · rfl
  · intro xs r h
    simp only [p_rnt] at h
    split at h
    · rename_i a
      exact ⟨0, ((rnt_raw a).trans (by unfold rntS; cases (a == 0) <;> cases (a == 1) <;> rfl)).trans h⟩
    · cases h
def ranS (a b : Int) : Int := bif a == 0 || b == 0 then 0 else bif a == 1 && b == 1 then 1 else 2
theorem ran_raw (a b : Int) : prun (en []) ⟨[], []⟩ 0 false Tryz.f15 [.int .i64 a, .int .i64 b] = (bif a == 0 || b == 0 then some (.int .i64 0) else bif a == 1 && b == 1 then some (.int .i64 1) else some (.int .i64 2)) := by kernel_rfl
def p_ran : PFn := ⟨fun xs k => match xs with | [.int .i64 a, .int .i64 b] => k (.int .i64 (ranS a b)) | _ => none, false⟩
theorem ok_ran : FOK NGc Wc 15 p_ran := by
  refine fok wokc allOK_nil (h := ⟨[], []⟩) Tryz.func15 rfl (by decide) ?_ ?_
  · intro R xs k
    simp only [p_ran]
    split
    · rfl
    · rfl
  · intro xs r h
    simp only [p_ran] at h
    split at h
    · rename_i a b
      exact ⟨0, ((ran_raw a b).trans (by unfold ranS; cases (a == 0 || b == 0) <;> cases (a == 1 && b == 1) <;> rfl)).trans h⟩
    · cases h
/-! ## two kids in the law -/
def ndP (x : NdC) : PV := .agg x.cs
def twN (op : List UInt8) (x y : NdC) : NdC := ⟨3, op, 0, vnull, false, 0, 0, some false, 2, x.cs ++ y.cs⟩
theorem two_raw (op : List UInt8) (k1 : Int) (o1 : List UInt8) (j1 a1 n1 c1 : Int) (s1 : List UInt8) (b1 : Bool) (t1 u1 : Int) (z1 : Option Bool) (m1 : Nat) (d1 : List PV) (k2 : Int) (o2 : List UInt8) (j2 a2 n2 c2 : Int) (s2 : List UInt8) (b2 : Bool) (t2 u2 : Int) (z2 : Option Bool) (m2 : Nat) (d2 : List PV) : prun (en []) ⟨[], []⟩ 0 false Tryz.f12 [.str op, .agg [.int .i64 k1, .str o1, .int .i64 j1, .int .i64 a1, .int .i64 n1, .int .i64 c1, .str s1, .bool b1, .int .i64 t1, .int .i64 u1, .sl z1 11 m1 d1], .agg [.int .i64 k2, .str o2, .int .i64 j2, .int .i64 a2, .int .i64 n2, .int .i64 c2, .str s2, .bool b2, .int .i64 t2, .int .i64 u2, .sl z2 11 m2 d2]] = some (ndP (twN op ⟨k1, o1, j1, ⟨a1, n1, c1, s1⟩, b1, t1, u1, z1, m1, d1⟩ ⟨k2, o2, j2, ⟨a2, n2, c2, s2⟩, b2, t2, u2, z2, m2, d2⟩)) := by kernel_rfl
def p_two : PFn := ⟨fun xs k => match xs with | [.str op, .agg [.int .i64 k1, .str o1, .int .i64 j1, .int .i64 a1, .int .i64 n1, .int .i64 c1, .str s1, .bool b1, .int .i64 t1, .int .i64 u1, .sl z1 11 m1 d1], .agg [.int .i64 k2, .str o2, .int .i64 j2, .int .i64 a2, .int .i64 n2, .int .i64 c2, .str s2, .bool b2, .int .i64 t2, .int .i64 u2, .sl z2 11 m2 d2]] => k (ndP (twN op ⟨k1, o1, j1, ⟨a1, n1, c1, s1⟩, b1, t1, u1, z1, m1, d1⟩ ⟨k2, o2, j2, ⟨a2, n2, c2, s2⟩, b2, t2, u2, z2, m2, d2⟩)) | _ => none, false⟩
theorem ok_two : FOK NGc Wc 12 p_two := by
  refine fok wokc allOK_nil (h := ⟨[], []⟩) Tryz.func12 rfl (by decide) ?_ ?_
  · intro R xs k
    simp only [p_two]
    split
    · rfl
    · rfl
  · intro xs r h
    simp only [p_two] at h
    split at h
    · rename_i op k1 o1 j1 a1 n1 c1 s1 b1 t1 u1 z1 m1 d1 k2 o2 j2 a2 n2 c2 s2 b2 t2 u2 z2 m2 d2
      exact ⟨0, (two_raw op k1 o1 j1 a1 n1 c1 s1 b1 t1 u1 z1 m1 d1 k2 o2 j2 a2 n2 c2 s2 b2 t2 u2 z2 m2 d2).trans h⟩
    · cases h
/-! ## the run -/
def litN (v : Val) : NdC := ⟨0, [], 0, v, false, 0, 0, some true, 0, []⟩
def opAt {R : Type} (l : List PV) (i : Int) (K : List UInt8 → Option R) : Option R := bif decide (0 ≤ i) && decide (i < ((6 : Nat) : Int)) then ((l.drop (i.toNat * 1)).take 1).head?.bind fun v => v.asStr.bind K else none
def ops1 : List PV := [.str [61], .str [60, 62], .str [60], .str [62, 61], .str [62], .str [60, 61]]
def ops2 : List PV := [.str [61], .str [60, 62], .str [62], .str [60, 61], .str [60], .str [62, 61]]
def xor1 (k : Int) : Int := IntKind.i64.wrap (BitVec.ofInt IntKind.i64.bits k ^^^ BitVec.ofInt IntKind.i64.bits 1).toNat
def eqV (x y : Val) : Bool := x.kind == y.kind && (x.n == y.n && (x.scale == y.scale && (x.s == y.s && true)))
def ecB (g : EvT) (a b : Val) (k : Int) : Option PV :=
  opAt ops1 k fun o1 => (g (twN o1 (litN a) (litN b)) 0 []).bind fun x => opAt ops1 (xor1 k) fun o2 => (g (twN o2 (litN a) (litN b)) 0 []).bind fun y => opAt ops2 k fun o3 => (g (twN o3 (litN b) (litN a)) 0 []).bind fun z =>
  bif x.2 == 0 && y.2 == 0 && z.2 == 0 && eqV x.1 z.1 then some (.bool (rtrS y.1 == rntS (rtrS x.1))) else some (.bool false)
def ecE (g : EvT) (a b : Val) (o : Int) : Option PV := bif decide (250 < maxI (a.s.length : Int) (b.s.length : Int)) then some (.bool true) else bif (6 : Int) == 0 then none else ecB g a b (IntKind.i64.wrap (o.tmod 6))
noncomputable def lEc (g : EvT) : List (FuncId × PFn) := [(7, p_true0), (12, p_two), (10, p_ev g), (13, p_rtr), (16, p_rnt)]
theorem ec_raw (g : EvT) (a n c : Int) (s : List UInt8) (a' n' c' : Int) (s' : List UInt8) (o : Int) : prun (en (lEc g)) ⟨[], []⟩ 0 false Tryz.f4 [.agg [.int .i64 a, .int .i64 n, .int .i64 c, .str s], .agg [.int .i64 a', .int .i64 n', .int .i64 c', .str s'], .int .u8 o] = ecE g ⟨a, n, c, s⟩ ⟨a', n', c', s'⟩ o := by kernel_rfl

end Go.Proofs.YtelckbphbkebkaaGreatDoor
