/-
  Casts: comparing two values, Fits; the law CastFits.
-/
import Derived.Test.YtllpobcecingiaaDoorCab
import Derived.Test.YtllpobcecingiaaDoorDshC
set_option linter.unusedVariables false
set_option linter.unusedSimpArgs false
set_option maxRecDepth 100000
namespace Go.Proofs.YtllpobcecingiaaDoor
open Go.RowKit

/-! ## comparing -/
def p_scmp : PFn := ⟨fun xs k => match xs with | [.str a, .str b] => k (.int .i64 (Lib.compareBytes a b)) | _ => none, false⟩
theorem ok_scmp : FOK NGc Wc 39 p_scmp := by
  refine fok_calls Tryd.func39 (by kernel_rfl) (by decide) ?_ rfl ?_
  · intro R xs k
    simp only [p_scmp]
    split <;> rfl
  · intro xs r M vs hW h hr
    simp only [p_scmp] at h
    split at h
    · rename_i a b
      injection h with h
      subst h
      obtain ⟨v, u, rfl, h1, h2⟩ := relT2 hr
      simp only [RelD] at h1 h2
      subst h1
      subst h2
      refine (Tryd.strings_Compare ⟨a.toArray⟩ ⟨b.toArray⟩ M.w).mono ?_
      rintro e w' ⟨rfl, rfl⟩
      exact ⟨_, rfl, Below.refl _ _, fun U' _ => rfl⟩
    · cases h
def rtV (v : Val) : Val := bif right v then v else vnull
def valQ (v : Val) : PV := .agg [.int .i64 v.kind, .int .i64 v.n, .int .i64 v.scale, .str v.s]
def p_rt : PFn := ⟨fun xs k => match xs with | [.agg [.int .i64 a, .int .i64 n, .int .i64 c, .str s]] => bif decide (s.length ≤ 1000000) then k (valQ (rtV ⟨a, n, c, s⟩)) else none | _ => none, false⟩
theorem rt_raw (a n c : Int) (s : List UInt8) : prun (en [(17, p_rightV)]) ⟨[], []⟩ 0 false Tryd.f24 [.agg [.int .i64 a, .int .i64 n, .int .i64 c, .str s]] =
    rgO a n c s fun b => bif !b then some nulP else some (.agg [.int .i64 a, .int .i64 n, .int .i64 c, .str s]) := by kernel_rfl
theorem ok_rt : FOK NGc Wc 24 p_rt := by
  refine fok wokc (allOK_cons (fok_k ok_rightV) allOK_nil) (h := ⟨[], []⟩) Tryd.func24 rfl (by decide) ?_ ?_
  · intro R xs k
    simp only [p_rt]
    split
    · exact cond_nat
    · rfl
  · intro xs r h
    simp only [p_rt] at h
    split at h
    · rename_i a n c s
      rcases hb : decide (s.length ≤ 1000000) with _ | _ <;> rw [hb] at h
      · cases h
      · refine ⟨0, (rt_raw a n c s).trans ?_⟩
        rw [← h]
        unfold rgO rtV
        rw [hb, show rightB a n c s = right ⟨a, n, c, s⟩ from right_B ⟨a, n, c, s⟩]
        cases right ⟨a, n, c, s⟩ <;> rfl
    · cases h
def clsI (a : Int) : Int := bif a == 3 then 2 else a
def p_cls : PFn := ⟨fun xs k => match xs with | [.int .i64 a] => k (.int .i64 (clsI a)) | _ => none, false⟩
theorem cls_raw (a : Int) : prun (en []) ⟨[], []⟩ 0 false Tryd.f25 [.int .i64 a] = bif a == 3 then some (.int .i64 2) else some (.int .i64 a) := by kernel_rfl
theorem ok_cls : FOK NGc Wc 25 p_cls := by
  refine fok wokc allOK_nil (h := ⟨[], []⟩) Tryd.func25 rfl (by decide) ?_ ?_
  · intro R xs k
    simp only [p_cls]
    split <;> rfl
  · intro xs r h
    simp only [p_cls] at h
    split at h
    · rename_i a
      refine ⟨0, (cls_raw a).trans ?_⟩
      rw [← h]
      unfold clsI
      cases a == 3 <;> rfl
    · cases h
def insS (a b : Val) : Int := bif clsI a.kind == 2 then dcmp a.n a.scale b.n b.scale else orC (cmpI a.n b.n) (Lib.compareBytes a.s b.s)
def p_ins : PFn := ⟨fun xs k => match xs with | [.agg [.int .i64 a, .int .i64 n, .int .i64 c, .str s], .agg [.int .i64 a', .int .i64 n', .int .i64 c', .str s']] => bif inI n && inI n' then k (.int .i64 (insS ⟨a, n, c, s⟩ ⟨a', n', c', s'⟩)) else none | _ => none, false⟩
noncomputable def lIns : List (FuncId × PFn) := [(25, p_cls), (36, p_Compare), (37, p_or2), (38, p_cmpI), (39, p_scmp)]
theorem ok_lIns : AllOK NGc Wc lIns := allOK_cons ok_cls (allOK_cons (fok_d ok_Compare) (allOK_cons (fok_d ok_or2) (allOK_cons (fok_d ok_cmpI) (allOK_cons ok_scmp allOK_nil))))
theorem ins_raw (a n c : Int) (s : List UInt8) (a' n' c' : Int) (s' : List UInt8) : prun (en lIns) ⟨[], []⟩ 0 false Tryd.f26 [.agg [.int .i64 a, .int .i64 n, .int .i64 c, .str s], .agg [.int .i64 a', .int .i64 n', .int .i64 c', .str s']] =
    bif clsI a == 2 then bif inI n && inI n' then some (.int .i64 (dcmp n c n' c')) else none else some (.int .i64 (orC (cmpI n n') (Lib.compareBytes s s'))) := by kernel_rfl
theorem ok_ins : FOK NGc Wc 26 p_ins := by
  refine fok wokc ok_lIns (h := ⟨[], []⟩) Tryd.func26 rfl (by decide) ?_ ?_
  · intro R xs k
    simp only [p_ins]
    split
    · exact cond_nat
    · rfl
  · intro xs r h
    simp only [p_ins] at h
    split at h
    · rename_i a n c s a' n' c' s'
      rcases hb : (inI n && inI n') with _ | _ <;> rw [hb] at h
      · cases h
      · refine ⟨0, (ins_raw a n c s a' n' c' s').trans ?_⟩
        rw [← h, hb]
        unfold insS
        cases clsI a == 2 <;> rfl
    · cases h
def cmpS (a b : Val) : Int × Bool := bif !((rtV a).kind == 0) then bif !(clsI (rtV a).kind == clsI (rtV b).kind) then (0, false) else (insS (rtV a) (rtV b), true) else (0, false)
def resCmp (p : Int × Bool) : PV := .tuple [.int .i64 p.1, .bool p.2]
def p_vcmp : PFn := ⟨fun xs k => match xs with | [.agg [.int .i64 a, .int .i64 n, .int .i64 c, .str s], .agg [.int .i64 a', .int .i64 n', .int .i64 c', .str s']] => bif (inI n && inI n') && (decide (s.length ≤ 1000000) && decide (s'.length ≤ 1000000)) then k (resCmp (cmpS ⟨a, n, c, s⟩ ⟨a', n', c', s'⟩)) else none | _ => none, false⟩
def rtO {R : Type} (a n c : Int) (s : List UInt8) (K : Val → Option R) : Option R := bif decide (s.length ≤ 1000000) then K (rtV ⟨a, n, c, s⟩) else none
theorem vcmp_raw (a n c : Int) (s : List UInt8) (a' n' c' : Int) (s' : List UInt8) : prun (en [(24, p_rt), (25, p_cls), (26, p_ins)]) ⟨[], []⟩ 0 false Tryd.f13 [.agg [.int .i64 a, .int .i64 n, .int .i64 c, .str s], .agg [.int .i64 a', .int .i64 n', .int .i64 c', .str s']] =
    rtO a n c s fun x => rtO a' n' c' s' fun y => bif !(x.kind == 0) then bif !(clsI x.kind == clsI y.kind) then some (resCmp (0, false)) else bif inI x.n && inI y.n then some (resCmp (insS x y, true)) else none else some (resCmp (0, false)) := by kernel_rfl
theorem rt_in {v : Val} (h : inI v.n = true) : inI (rtV v).n = true := by
  unfold rtV
  cases right v
  · rfl
  · exact h
theorem ok_vcmp : FOK NGc Wc 13 p_vcmp := by
  refine fok wokc (allOK_cons ok_rt (allOK_cons ok_cls (allOK_cons ok_ins allOK_nil))) (h := ⟨[], []⟩) Tryd.func13 rfl (by decide) ?_ ?_
  · intro R xs k
    simp only [p_vcmp]
    split
    · exact cond_nat
    · rfl
  · intro xs r h
    simp only [p_vcmp] at h
    split at h
    · rename_i a n c s a' n' c' s'
      rcases hb : ((inI n && inI n') && (decide (s.length ≤ 1000000) && decide (s'.length ≤ 1000000))) with _ | _ <;> rw [hb] at h
      · cases h
      · simp only [Bool.and_eq_true] at hb
        obtain ⟨⟨h1, h2⟩, h3, h4⟩ := hb
        refine ⟨0, (vcmp_raw a n c s a' n' c' s').trans ?_⟩
        rw [← h]
        have i1 := rt_in (v := ⟨a, n, c, s⟩) h1
        have i2 := rt_in (v := ⟨a', n', c', s'⟩) h2
        unfold rtO cmpS
        rw [h3, h4]
        simp only [cond_true]
        rw [i1, i2]
        cases (rtV ⟨a, n, c, s⟩).kind == 0
        · cases clsI (rtV ⟨a, n, c, s⟩).kind == clsI (rtV ⟨a', n', c', s'⟩).kind <;> rfl
        · rfl
    · cases h
/-! ## Fits -/
def maxI (a b : Int) : Int := if b > a then b else a
def fitsS (a s b t : Int) : (Int × Int) × Bool := bif !tyB a s || !tyB b t then ((0, 0), false) else bif a == b && s == t then ((a, s), true) else bif (a == 2 || a == 3) && (b == 2 || b == 3) then ((3, maxI s t), true) else ((0, 0), false)
def fitR (p : (Int × Int) × Bool) : PV := .tuple [.agg [.int .i64 p.1.1, .int .i64 p.1.2], .bool p.2]
def p_Fits : PFn := ⟨fun xs k => match xs with | [.agg [.int .i64 a, .int .i64 s], .agg [.int .i64 b, .int .i64 t]] => k (fitR (fitsS a s b t)) | _ => none, false⟩
theorem p_Fits_nat : p_Fits.nat := by
  intro R xs k
  simp only [p_Fits]
  split <;> rfl
def p_num : PFn := ⟨fun xs k => match xs with | [.agg [.int .i64 a, .int .i64 _]] => k (.bool (a == 2 || a == 3)) | _ => none, false⟩
theorem ok_num : FOK NGc Wc 23 p_num := by
  refine fok wokc allOK_nil (h := ⟨[], []⟩) Tryd.func23 rfl (by decide) ?_ ?_
  · intro R xs k
    simp only [p_num]
    split <;> rfl
  · intro xs r h
    simp only [p_num] at h
    split at h
    · rename_i a b
      have raw : prun (en []) ⟨[], []⟩ 0 false Tryd.f23 [.agg [.int .i64 a, .int .i64 b]] = some (.bool (a == 2 || a == 3)) := by kernel_rfl
      exact ⟨0, raw.trans h⟩
    · cases h
theorem fits_raw (a s b t : Int) : prun (en [(14, p_typ), (23, p_num)]) ⟨[], []⟩ 0 false Tryd.f11 [.agg [.int .i64 a, .int .i64 s], .agg [.int .i64 b, .int .i64 t]] =
    bif !!tyB a s then bif !tyB b t then some (fitR ((0, 0), false)) else bif a == b && (s == t && true) then some (fitR ((a, s), true)) else bif (a == 2 || a == 3) then bif (b == 2 || b == 3) then some (fitR ((3, maxI s t), true)) else some (fitR ((0, 0), false)) else some (fitR ((0, 0), false)) else some (fitR ((0, 0), false)) := by kernel_rfl
theorem rfits_raw (a s b t : Int) : prun (en [(15, p_typ)]) ⟨[], []⟩ 0 false Tryd.f12 [.agg [.int .i64 a, .int .i64 s], .agg [.int .i64 b, .int .i64 t]] =
    bif !!tyB a s then bif !tyB b t then some (fitR ((0, 0), false)) else bif a == b && (s == t && true) then some (fitR ((a, s), true)) else bif (a == 2 || a == 3) && (b == 2 || b == 3) then some (fitR ((3, maxI s t), true)) else some (fitR ((0, 0), false)) else some (fitR ((0, 0), false)) := by kernel_rfl
theorem ok_Fits : FOK NGc Wc 11 p_Fits := by
  refine fok wokc (allOK_cons ok_typ (allOK_cons ok_num allOK_nil)) (h := ⟨[], []⟩) Tryd.func11 rfl (by decide) p_Fits_nat ?_
  intro xs r h
  simp only [p_Fits] at h
  split at h
  · rename_i a s b t
    refine ⟨0, (fits_raw a s b t).trans ?_⟩
    rw [← h]
    unfold fitsS
    simp only [Bool.and_true]
    cases tyB a s <;> cases tyB b t <;> cases (a == b && s == t) <;> cases (a == 2 || a == 3) <;> cases (b == 2 || b == 3) <;> rfl
  · cases h
theorem ok_RFits : FOK NGc Wc 12 p_Fits := by
  refine fok wokc (allOK_cons ok_rtyp allOK_nil) (h := ⟨[], []⟩) Tryd.func12 rfl (by decide) p_Fits_nat ?_
  intro xs r h
  simp only [p_Fits] at h
  split at h
  · rename_i a s b t
    refine ⟨0, (rfits_raw a s b t).trans ?_⟩
    rw [← h]
    unfold fitsS
    simp only [Bool.and_true]
    cases tyB a s <;> cases tyB b t <;> cases (a == b && s == t) <;> cases (a == 2 || a == 3) <;> cases (b == 2 || b == 3) <;> rfl
  · cases h
/-! ## the law's run -/
def vcmpO {R : Type} (a n c : Int) (s : List UInt8) (a' n' c' : Int) (s' : List UInt8) (K : Int × Bool → Option R) : Option R := bif (inI n && inI n') && (decide (s.length ≤ 1000000) && decide (s'.length ≤ 1000000)) then K (cmpS ⟨a, n, c, s⟩ ⟨a', n', c', s'⟩) else none
noncomputable def lCf : List (FuncId × PFn) := [(6, p_first4), (11, p_Fits), (12, p_Fits), (9, p_of), (10, p_Cast), (13, p_vcmp)]
theorem ok_lCf : AllOK NGc Wc lCf := allOK_cons ok_first4 (allOK_cons ok_Fits (allOK_cons ok_RFits (allOK_cons ok_rof (allOK_cons ok_Cast (allOK_cons ok_vcmp allOK_nil)))))
def cfEnd (a n c : Int) (s : List UInt8) (a' n' c' : Int) (s' : List UInt8) (p q : Val × Int) : Option PV :=
  bif !(p.2 == 0) || !(q.2 == 0) then bP (p.2 == 20 || q.2 == 20) else vcmpO a n c s a' n' c' s' fun x => vcmpO p.1.kind p.1.n p.1.scale p.1.s q.1.kind q.1.n q.1.scale q.1.s fun y => bP (x.1 == y.1 && x.2 == y.2)
theorem cf_raw (a n c : Int) (s : List UInt8) (a' n' c' : Int) (s' : List UInt8) (f g t u : Int) : prun (en lCf) ⟨[], []⟩ 0 false Tryd.f5 [.agg [.int .i64 a, .int .i64 n, .int .i64 c, .str s, .int .i64 a', .int .i64 n', .int .i64 c', .str s'], .agg [.int .i64 f, .int .i64 g], .agg [.int .i64 t, .int .i64 u]] =
    bif decide (500 < maxI (s.length : Int) (s'.length : Int)) then bP true else
    bif !((fitsS f g t u).1.1 == (fitsS f g t u).1.1 && ((fitsS f g t u).1.2 == (fitsS f g t u).1.2 && true)) || !((fitsS f g t u).2 == (fitsS f g t u).2) then bP false else
    bif !!(fitsS f g t u).2 then ofO a n c s f g fun b => bif !!b then ofO a' n' c' s' t u fun d => bif !d then bP true else
      castO a n c s (fitsS f g t u).1.1 (fitsS f g t u).1.2 fun p => castO a' n' c' s' (fitsS f g t u).1.1 (fitsS f g t u).1.2 fun q => cfEnd a n c s a' n' c' s' p q else bP true else bP true := by kernel_rfl
end Go.Proofs.YtllpobcecingiaaDoor
