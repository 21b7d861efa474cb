/-
  Casts: comparing two values, Fits; the law CastFits.
-/
import Derived.Test.YtelckbphbkebkaaGreatDoorCab
import Derived.Test.YtelckbphbkebkaaGreatDoorDshC
set_option linter.unusedVariables false
set_option linter.unusedSimpArgs false
set_option maxRecDepth 100000
namespace Go.Proofs.YtelckbphbkebkaaGreatDoor
open Go.RowKit

/-! ## comparing -/
def p_scmp : PFn := ⟨fun xs k => match xs with | [.str a, .str b] => k (.int .i64 (Lib.compareBytes a b)) | _ => none, false⟩
theorem ok_scmp : FOK NGc Wc 115 p_scmp := by
  refine fok_calls Tryz.func115 (by kernel_rfl) (by decide) ?_ rfl ?_
  · intro R xs k
    simp only [p_scmp]
    split <;> rfl
  · intro xs r M vs hW h hr
    simp only [p_scmp] at h
    split at h
    · rename_i a b
      injection h with h
      subst h
      obtain ⟨v, u, rfl, h1, h2⟩ := relT2 hr
      simp only [RelD] at h1 h2
      subst h1
      subst h2
      refine (Tryz.strings_Compare ⟨a.toArray⟩ ⟨b.toArray⟩ M.w).mono ?_
      rintro e w' ⟨rfl, rfl⟩
      exact ⟨_, rfl, Below.refl _ _, fun U' _ => rfl⟩
    · cases h
def rtV (v : Val) : Val := bif right v then v else vnull
def valQ (v : Val) : PV := .agg [.int .i64 v.kind, .int .i64 v.n, .int .i64 v.scale, .str v.s]
def p_rt : PFn := ⟨fun xs k => match xs with | [.agg [.int .i64 a, .int .i64 n, .int .i64 c, .str s]] => bif decide (s.length ≤ 1000000) then k (valQ (rtV ⟨a, n, c, s⟩)) else none | _ => none, false⟩
theorem rt_raw (a n c : Int) (s : List UInt8) : prun (en [(46, p_rightV)]) ⟨[], []⟩ 0 false Tryz.f60 [.agg [.int .i64 a, .int .i64 n, .int .i64 c, .str s]] =
    rgO a n c s fun b => bif !b then some nulP else some (.agg [.int .i64 a, .int .i64 n, .int .i64 c, .str s]) := by kernel_rfl
theorem ok_rt : FOK NGc Wc 60 p_rt := by
  refine fok wokc (allOK_cons (fok_k ok_rightV) allOK_nil) (h := ⟨[], []⟩) Tryz.func60 rfl (by decide) ?_ ?_
  · intro R xs k
    simp only [p_rt]
    split
    · exact cond_nat
    · rfl
  · intro xs r h
    simp only [p_rt] at h
    split at h
    · rename_i a n c s
      rcases hb : decide (s.length ≤ 1000000) with _ | _ <;> rw [hb] at h
      · cases h
      · refine ⟨0, (rt_raw a n c s).trans ?_⟩
        rw [← h]
        unfold rgO rtV
        rw [hb, show rightB a n c s = right ⟨a, n, c, s⟩ from right_B ⟨a, n, c, s⟩]
        cases right ⟨a, n, c, s⟩ <;> rfl
    · cases h
def clsI (a : Int) : Int := bif a == 3 then 2 else a
def p_cls : PFn := ⟨fun xs k => match xs with | [.int .i64 a] => k (.int .i64 (clsI a)) | _ => none, false⟩
theorem cls_raw (a : Int) : prun (en []) ⟨[], []⟩ 0 false Tryz.f77 [.int .i64 a] = bif a == 3 then some (.int .i64 2) else some (.int .i64 a) := by kernel_rfl
theorem ok_cls : FOK NGc Wc 77 p_cls := by
  refine fok wokc allOK_nil (h := ⟨[], []⟩) Tryz.func77 rfl (by decide) ?_ ?_
  · intro R xs k
    simp only [p_cls]
    split <;> rfl
  · intro xs r h
    simp only [p_cls] at h
    split at h
    · rename_i a
      refine ⟨0, (cls_raw a).trans ?_⟩
      rw [← h]
      unfold clsI
      cases a == 3 <;> rfl
    · cases h
def insS (a b : Val) : Int := bif clsI a.kind == 2 then dcmp a.n a.scale b.n b.scale else orC (cmpI a.n b.n) (Lib.compareBytes a.s b.s)
def p_ins : PFn := ⟨fun xs k => match xs with | [.agg [.int .i64 a, .int .i64 n, .int .i64 c, .str s], .agg [.int .i64 a', .int .i64 n', .int .i64 c', .str s']] => bif inI n && inI n' then k (.int .i64 (insS ⟨a, n, c, s⟩ ⟨a', n', c', s'⟩)) else none | _ => none, false⟩
noncomputable def lIns : List (FuncId × PFn) := [(77, p_cls), (114, p_Compare), (78, p_or2), (76, p_cmpI), (115, p_scmp)]
theorem ok_lIns : AllOK NGc Wc lIns := allOK_cons ok_cls (allOK_cons (fok_d ok_Compare) (allOK_cons (fok_d ok_or2) (allOK_cons (fok_d ok_cmpI) (allOK_cons ok_scmp allOK_nil))))
theorem ins_raw (a n c : Int) (s : List UInt8) (a' n' c' : Int) (s' : List UInt8) : prun (en lIns) ⟨[], []⟩ 0 false Tryz.f79 [.agg [.int .i64 a, .int .i64 n, .int .i64 c, .str s], .agg [.int .i64 a', .int .i64 n', .int .i64 c', .str s']] =
    bif clsI a == 2 then bif inI n && inI n' then some (.int .i64 (dcmp n c n' c')) else none else some (.int .i64 (orC (cmpI n n') (Lib.compareBytes s s'))) := by kernel_rfl
theorem ok_ins : FOK NGc Wc 79 p_ins := by
  refine fok wokc ok_lIns (h := ⟨[], []⟩) Tryz.func79 rfl (by decide) ?_ ?_
  · intro R xs k
    simp only [p_ins]
    split
    · exact cond_nat
    · rfl
  · intro xs r h
    simp only [p_ins] at h
    split at h
    · rename_i a n c s a' n' c' s'
      rcases hb : (inI n && inI n') with _ | _ <;> rw [hb] at h
      · cases h
      · refine ⟨0, (ins_raw a n c s a' n' c' s').trans ?_⟩
        rw [← h, hb]
        unfold insS
        cases clsI a == 2 <;> rfl
    · cases h
def cmpS (a b : Val) : Int × Bool := bif !((rtV a).kind == 0) then bif !(clsI (rtV a).kind == clsI (rtV b).kind) then (0, false) else (insS (rtV a) (rtV b), true) else (0, false)
def resCmp (p : Int × Bool) : PV := .tuple [.int .i64 p.1, .bool p.2]
def p_vcmp : PFn := ⟨fun xs k => match xs with | [.agg [.int .i64 a, .int .i64 n, .int .i64 c, .str s], .agg [.int .i64 a', .int .i64 n', .int .i64 c', .str s']] => bif (inI n && inI n') && (decide (s.length ≤ 1000000) && decide (s'.length ≤ 1000000)) then k (resCmp (cmpS ⟨a, n, c, s⟩ ⟨a', n', c', s'⟩)) else none | _ => none, false⟩
def rtO {R : Type} (a n c : Int) (s : List UInt8) (K : Val → Option R) : Option R := bif decide (s.length ≤ 1000000) then K (rtV ⟨a, n, c, s⟩) else none
theorem vcmp_raw (a n c : Int) (s : List UInt8) (a' n' c' : Int) (s' : List UInt8) : prun (en [(60, p_rt), (77, p_cls), (79, p_ins)]) ⟨[], []⟩ 0 false Tryz.f85 [.agg [.int .i64 a, .int .i64 n, .int .i64 c, .str s], .agg [.int .i64 a', .int .i64 n', .int .i64 c', .str s']] =
    rtO a n c s fun x => rtO a' n' c' s' fun y => bif !(x.kind == 0) then bif !(clsI x.kind == clsI y.kind) then some (resCmp (0, false)) else bif inI x.n && inI y.n then some (resCmp (insS x y, true)) else none else some (resCmp (0, false)) := by kernel_rfl
theorem rt_in {v : Val} (h : inI v.n = true) : inI (rtV v).n = true := by
  unfold rtV
  cases right v
  · rfl
  · exact h
theorem ok_vcmp : FOK NGc Wc 85 p_vcmp := by
  refine fok wokc (allOK_cons ok_rt (allOK_cons ok_cls (allOK_cons ok_ins allOK_nil))) (h := ⟨[], []⟩) Tryz.func85 rfl (by decide) ?_ ?_
  · intro R xs k
    simp only [p_vcmp]
    split
    · exact cond_nat
    · rfl
  · intro xs r h
    simp only [p_vcmp] at h
    split at h
    · rename_i a n c s a' n' c' s'
      rcases hb : ((inI n && inI n') && (decide (s.length ≤ 1000000) && decide (s'.length ≤ 1000000))) with _ | _ <;> rw [hb] at h
      · cases h
      · simp only [Bool.and_eq_true] at hb
        obtain ⟨⟨h1, h2⟩, h3, h4⟩ := hb
        refine ⟨0, (vcmp_raw a n c s a' n' c' s').trans ?_⟩
        rw [← h]
        have i1 := rt_in (v := ⟨a, n, c, s⟩) h1
        have i2 := rt_in (v := ⟨a', n', c', s'⟩) h2
        unfold rtO cmpS
        rw [h3, h4]
        simp only [cond_true]
        rw [i1, i2]
        cases (rtV ⟨a, n, c, s⟩).kind == 0
        · cases clsI (rtV ⟨a, n, c, s⟩).kind == clsI (rtV ⟨a', n', c', s'⟩).kind <;> rfl
        · rfl
    · cases h
/-! ## Fits -/
def maxI (a b : Int) : Int := if b > a then b else a
def fitsS (a s b t : Int) : (Int × Int) × Bool := bif !tyB a s || !tyB b t then ((0, 0), false) else bif a == b && s == t then ((a, s), true) else bif (a == 2 || a == 3) && (b == 2 || b == 3) then ((3, maxI s t), true) else ((0, 0), false)
def fitR (p : (Int × Int) × Bool) : PV := .tuple [.agg [.int .i64 p.1.1, .int .i64 p.1.2], .bool p.2]
def p_Fits : PFn := ⟨fun xs k => match xs with | [.agg [.int .i64 a, .int .i64 s], .agg [.int .i64 b, .int .i64 t]] => k (fitR (fitsS a s b t)) | _ => none, false⟩
theorem p_Fits_nat : p_Fits.nat := by
  intro R xs k
  simp only [p_Fits]
  split <;> rfl
def p_num : PFn := ⟨fun xs k => match xs with | [.agg [.int .i64 a, .int .i64 _]] => k (.bool (a == 2 || a == 3)) | _ => none, false⟩
/-! ## the law's run -/
def vcmpO {R : Type} (a n c : Int) (s : List UInt8) (a' n' c' : Int) (s' : List UInt8) (K : Int × Bool → Option R) : Option R := bif (inI n && inI n') && (decide (s.length ≤ 1000000) && decide (s'.length ≤ 1000000)) then K (cmpS ⟨a, n, c, s⟩ ⟨a', n', c', s'⟩) else none
def cfEnd (a n c : Int) (s : List UInt8) (a' n' c' : Int) (s' : List UInt8) (p q : Val × Int) : Option PV :=
  bif !(p.2 == 0) || !(q.2 == 0) then bP (p.2 == 20 || q.2 == 20) else vcmpO a n c s a' n' c' s' fun x => vcmpO p.1.kind p.1.n p.1.scale p.1.s q.1.kind q.1.n q.1.scale q.1.s fun y => bP (x.1 == y.1 && x.2 == y.2)
end Go.Proofs.YtelckbphbkebkaaGreatDoor
