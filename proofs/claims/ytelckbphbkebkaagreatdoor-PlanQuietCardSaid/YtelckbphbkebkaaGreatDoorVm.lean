/-
  Nodes: the reference's reckoning (Arith), its signs.
-/
import Derived.Test.YtelckbphbkebkaaGreatDoorVl
set_option linter.unusedVariables false
set_option linter.unusedSimpArgs false
set_option maxRecDepth 100000
namespace Go.Proofs.YtelckbphbkebkaaGreatDoor
open Go.RowKit

/-! ## signs -/
def hdP (op : List UInt8) (c : Int) : Option PV :=
  bif op == [61] then some (.tuple [.bool (c == 0), .bool true]) else bif op == [60, 62] then some (.tuple [.bool (!(c == 0)), .bool true]) else bif op == [60] then some (.tuple [.bool (decide (c < 0)), .bool true]) else bif op == [60, 61] then some (.tuple [.bool (decide (c < 1)), .bool true]) else
  bif op == [62] then some (.tuple [.bool (decide (0 < c)), .bool true]) else bif op == [62, 61] then some (.tuple [.bool (decide (-1 < c)), .bool true]) else some (.tuple [.bool false, .bool false])
def hdR (h : Option Bool) : PV := .tuple [.bool (h.getD false), .bool h.isSome]
theorem hd_raw (op : List UInt8) (c : Int) : prun (en []) ⟨[], []⟩ 0 false Tryz.f65 [.str op, .int .i64 c] = hdP op c := by kernel_rfl
theorem hd_body (op : List UInt8) (c : Int) : hdP op c = some (hdR (hoS op c)) := by
  unfold hdP hoS
  rw [show decide (c < 1) = decide (c ≤ 0) from decide_eq_decide.2 (by omega), show decide (-1 < c) = decide (0 ≤ c) from decide_eq_decide.2 (by omega)]
  cases (op == [61]) <;> cases (op == [60, 62]) <;> cases (op == [60]) <;> cases (op == [60, 61]) <;> cases (op == [62]) <;> cases (op == [62, 61]) <;> rfl
def p_hd : PFn := ⟨fun xs k => match xs with | [.str op, .int .i64 c] => k (hdR (hoS op c)) | _ => none, false⟩
theorem ok_hd : FOK NGc Wc 65 p_hd := by
  refine fok wokc allOK_nil (h := ⟨[], []⟩) Tryz.func65 rfl (by decide) ?_ ?_
  · intro R xs k
    simp only [p_hd]
    split
    · rfl
    · rfl
  · intro xs r h
    simp only [p_hd] at h
    split at h
    · rename_i op c
      exact ⟨0, ((hd_raw op c).trans (hd_body op c)).trans h⟩
    · cases h
def sgS (op : List UInt8) (a b : Int) : Int × Int := bif op == [43] then (ansV (a + b), ansE (a + b)) else (ansV (a - b), ansE (a - b))
def sgP (op : List UInt8) (a b : Int) : Option PV := bif op == [43] then (bif inI a && inI b then some (resI (ansV (a + b), ansE (a + b))) else none) else bif inI a && inI b then some (resI (ansV (a - b), ansE (a - b))) else none
theorem sg_raw (op : List UInt8) (a b : Int) : prun (en [(138, p_RSum), (63, p_RDiff)]) ⟨[], []⟩ 0 false Tryz.f108 [.str op, .int .i64 a, .int .i64 b] = sgP op a b := by kernel_rfl
def p_sg : PFn := ⟨fun xs k => match xs with | [.str op, .int .i64 a, .int .i64 b] => bif inI a && inI b then k (resI (sgS op a b)) else none | _ => none, false⟩
theorem ok_sg : FOK NGc Wc 108 p_sg := by
  refine fok wokc (allOK_cons (fok_d ok_RSum) (allOK_cons (fok_d ok_RDiff) allOK_nil)) (h := ⟨[], []⟩) Tryz.func108 rfl (by decide) ?_ ?_
  · intro R xs k
    simp only [p_sg]
    split
    · exact cond_nat
    · rfl
  · intro xs r h
    simp only [p_sg] at h
    split at h
    · rename_i op a b
      rcases hb : (inI a && inI b) with _ | _ <;> rw [hb] at h
      · cases h
      · exact ⟨0, ((sg_raw op a b).trans (by unfold sgP sgS; rw [hb]; cases (op == [43]) <;> rfl)).trans h⟩
    · cases h
/-! ## Arith -/
def mul2 {R : Type} (a b : Val) (z : Int) (K : Int × Int → Option R) : Option R := bif inI a.n && inI b.n then K (mulV a.n a.scale b.n b.scale z, mulE a.n a.scale b.n b.scale z) else none
def div2 {R : Type} (a b : Val) (z : Int) (K : Int × Int → Option R) : Option R := bif inI a.n && inI b.n then K (divV a.n a.scale b.n b.scale z, divE a.n a.scale b.n b.scale z) else none
def sg2 {R : Type} (op : List UInt8) (a b : Int) (K : Int × Int → Option R) : Option R := bif inI a && inI b then K (sgS op a b) else none
def endA (k z : Int) (p : Int × Int) : Option PV := bif !(p.2 == 0) then some (resC (vnull, p.2)) else some (resC (⟨k, p.1, z, []⟩, 0))
def rarB (k : Int) (op : List UInt8) (a b : Val) (z : Int) : Option PV :=
  bif op == [37] then bif k == 3 then some (resC (vnull, 2)) else bif b.n == 0 then some (resC (vnull, 21)) else bif !(b.n == -1) then (bif b.n == 0 then none else some (resC (⟨k, a.n.tmod b.n, z, []⟩, 0))) else some (resC (⟨k, 0, z, []⟩, 0)) else
  bif op == [42] then mul2 a b z (endA k z) else bif op == [47] then div2 a b z (endA k z) else
  resc a.n a.scale z fun x => resc b.n b.scale z fun y => bif !(x.2 == 0) || !(y.2 == 0) then some (resC (vnull, 20)) else sg2 op x.1 y.1 (endA k z)
def rarE (op : List UInt8) (a b : Val) : Option PV :=
  bif !(op == [43] || op == [45] || op == [42] || op == [47] || op == [37]) then some (resC (vnull, 2)) else bif a.kind == 0 || b.kind == 0 then some (resC (vnull, 0)) else
  bif !(a.kind == 2) && !(a.kind == 3) || !(b.kind == 2) && !(b.kind == 3) then some (resC (vnull, 2)) else bif a.kind == 3 || b.kind == 3 then rarB 3 op a b (maxI a.scale b.scale) else rarB 2 op a b (maxI a.scale b.scale)
noncomputable def lRa : List (FuncId × PFn) := [(108, p_sg), (105, p_RMul), (106, p_RDiv), (107, p_RRescale)]
theorem ok_lRa : AllOK NGc Wc lRa := allOK_cons ok_sg (allOK_cons (fok_d ok_RMul) (allOK_cons (fok_d ok_RDiv) (allOK_cons (fok_d ok_RRescale) allOK_nil)))
theorem rar_raw (op : List UInt8) (a n c : Int) (s : List UInt8) (a' n' c' : Int) (s' : List UInt8) : prun (en lRa) ⟨[], []⟩ 0 false Tryz.f66 [.str op, .agg [.int .i64 a, .int .i64 n, .int .i64 c, .str s], .agg [.int .i64 a', .int .i64 n', .int .i64 c', .str s']] = rarE op ⟨a, n, c, s⟩ ⟨a', n', c', s'⟩ := by kernel_rfl
theorem ansE_or (n : Int) : ansE n = 0 ∨ ansE n = 20 := by
  unfold ansE
  cases over64 n
  · exact .inl rfl
  · exact .inr rfl
theorem scaE_or {n f t : Int} (h1 : scaleB f = true) (h2 : scaleB t = true) : scaE n f t = 0 ∨ scaE n f t = 20 := by
  unfold scaE
  rw [h1, h2]
  exact ansE_or _
theorem endA_eq (k z : Int) (p : Int × Int) : endA k z p = some (resC (bif !(p.2 == 0) then (vnull, p.2) else (⟨k, p.1, z, []⟩, 0))) := by
  unfold endA
  cases (p.2 == 0) <;> rfl
theorem ariE_eq (op : List UInt8) : (op == [43] || op == [45] || op == [42] || op == [47] || op == [37]) = ariE op := by
  unfold ariE conB
  cases (op == [43]) <;> cases (op == [45]) <;> cases (op == [42]) <;> cases (op == [47]) <;> cases (op == [37]) <;> rfl
theorem sgS_wh {op : List UInt8} (a b : Int) (h1 : (op == [43] || op == [45]) = true) : sgS op a b = whS op a b := by
  unfold sgS whS
  rcases e : (op == [43]) with _ | _
  · rw [e, Bool.false_or] at h1
    rw [h1]; rfl
  · rfl
theorem rar_eq {op : List UInt8} {a b : Val} (ha : gd a = true) (hb : gd b = true) : rarE op a b = some (resC (arS op a b)) := by
  have z00 : ((0 : Int) == 0) = true := rfl
  simp only [gd, Bool.and_eq_true] at ha hb
  have ia := ha.2
  have ib := hb.2
  unfold rarE arS
  rw [ariE_eq]
  rcases hop : ariE op with _ | _
  · rfl
  simp only [Bool.not_true, cond_false]
  rcases h0 : (a.kind == 0 || b.kind == 0) with _ | _
  rotate_left
  · rfl
  simp only [cond_false]
  rw [show (!(a.kind == 2) && !(a.kind == 3) || !(b.kind == 2) && !(b.kind == 3)) = (!nuB a.kind || !nuB b.kind) by unfold nuB; cases (a.kind == 2) <;> cases (a.kind == 3) <;> cases (b.kind == 2) <;> cases (b.kind == 3) <;> rfl]
  rcases hn : (!nuB a.kind || !nuB b.kind) with _ | _
  rotate_left
  · rfl
  simp only [cond_false]
  simp only [Bool.or_eq_false_iff, Bool.not_eq_false'] at hn
  have ra := right_num ha.1 hn.1
  have rb := right_num hb.1 hn.2
  have ka : a.kind = 2 ∨ a.kind = 3 := by have := hn.1; unfold nuB at this; simpa using this
  have kb : b.kind = 2 ∨ b.kind = 3 := by have := hn.2; unfold nuB at this; simpa using this
  have sa := scaB_of ra.1 ra.2.1
  have sb := scaB_of rb.1 rb.2.1
  have hm : 0 ≤ maxI a.scale b.scale ∧ maxI a.scale b.scale ≤ 6 := by unfold maxI; split <;> omega
  have sm := scaB_of hm.1 hm.2
  have nop : (op == [43] || op == [45] || op == [42] || op == [47] || op == [37]) = true := (ariE_eq op).trans hop
  have two : ∀ v : Val, right v = true → v.kind = 2 → v.scale = 0 := by
    intro v hr hk
    unfold right at hr
    rw [if_neg (by omega), if_neg (by omega), if_pos hk] at hr
    simp only [decide_eq_true_eq] at hr
    exact hr.1
  by_cases h22 : a.kind = 2 ∧ b.kind = 2
  · have za := two a ha.1 h22.1
    have zb := two b hb.1 h22.2
    have e3 : (a.kind == 3 || b.kind == 3) = false := by rw [h22.1, h22.2]; rfl
    have e2 : (a.kind == 2 && b.kind == 2) = true := by rw [h22.1, h22.2]; rfl
    rw [e3, e2, za, zb]
    simp only [cond_true, cond_false]
    unfold rarB
    rw [show maxI 0 0 = 0 from rfl, za, zb]
    obtain ⟨x1, x2⟩ := sca_same (n := a.n) (c := 0) ia (by omega) (by omega)
    obtain ⟨y1, y2⟩ := sca_same (n := b.n) (c := 0) ib (by omega) (by omega)
    unfold mul2 div2 resc sg2
    simp only [ia, ib, za, zb, x1, x2, y1, y2, cond_true, cond_false, Bool.and_self, endA_eq, z00, Bool.not_true, Bool.or_self]
    rcases o37 : (op == [37]) with _ | _
    · simp only [cond_false]
      rcases o42 : (op == [42]) with _ | _
      · simp only [cond_false]
        rcases o47 : (op == [47]) with _ | _
        · simp only [cond_false]
          rw [o37, o42, o47] at nop
          have nop' : (op == [43] || op == [45]) = true := by simpa using nop
          rw [sgS_wh _ _ nop']
          all_goals (cases ((whS op a.n b.n).2 == 0) <;> rfl)
        · have e : whS op a.n b.n = (divV a.n 0 b.n 0 0, divE a.n 0 b.n 0 0) := by
            have : op = [47] := by simpa using o47
            subst this; rfl
          rw [e]
          all_goals (cases ((divE a.n 0 b.n 0 0) == 0) <;> rfl)
      · have e : whS op a.n b.n = (mulV a.n 0 b.n 0 0, mulE a.n 0 b.n 0 0) := by
          have : op = [42] := by simpa using o42
          subst this; rfl
        rw [e]
        all_goals (cases ((mulE a.n 0 b.n 0 0) == 0) <;> rfl)
    · have e : whS op a.n b.n = (modV a.n b.n, modE b.n) := by
        have : op = [37] := by simpa using o37
        subst this; rfl
      rw [e]
      unfold modV modE
      cases (b.n == 0)
      · cases (b.n == -1) <;> rfl
      · rfl
  · have e3 : (a.kind == 3 || b.kind == 3) = true := by
      simp only [Bool.or_eq_true, beq_iff_eq]
      omega
    have e2 : (a.kind == 2 && b.kind == 2) = false := by
      rw [Bool.eq_false_iff]
      intro h
      exact h22 (by simpa using h)
    rw [e3, e2]
    simp only [cond_true, cond_false]
    generalize hz : maxI a.scale b.scale = z at sm
    unfold rarB scS mul2 div2 resc sg2
    simp only [ia, ib, scaV_in, cond_true, Bool.and_self, endA_eq]
    rcases o37 : (op == [37]) with _ | _
    · simp only [cond_false]
      rcases o42 : (op == [42]) with _ | _
      · simp only [cond_false]
        rcases o47 : (op == [47]) with _ | _
        · simp only [cond_false]
          rw [o37, o42, o47] at nop
          have nop' : (op == [43] || op == [45]) = true := by simpa using nop
          rw [show (!(op == [43]) && !(op == [45])) = false by revert nop'; cases (op == [43]) <;> cases (op == [45]) <;> simp]
          rw [sgS_wh _ _ nop']
          simp only [cond_false]
          rcases scaE_or (n := a.n) sa sm with q | q <;> rcases scaE_or (n := b.n) sb sm with q2 | q2 <;> rw [q, q2]
          · simp only [z00, Bool.not_true, Bool.or_self, cond_false]
            all_goals (cases ((whS op (scaV a.n a.scale z) (scaV b.n b.scale z)).2 == 0) <;> rfl)
          · rfl
          · rfl
          · rfl
        · simp only [cond_true]
          all_goals (cases ((divE a.n a.scale b.n b.scale z) == 0) <;> rfl)
      · simp only [cond_true]
        all_goals (cases ((mulE a.n a.scale b.n b.scale z) == 0) <;> rfl)
    · have : op = [37] := by simpa using o37
      subst this
      rfl
def p_rar : PFn := ⟨fun xs k => match xs with | [.str op, .agg [.int .i64 a, .int .i64 n, .int .i64 c, .str s], .agg [.int .i64 a', .int .i64 n', .int .i64 c', .str s']] => bif gd ⟨a, n, c, s⟩ && gd ⟨a', n', c', s'⟩ then k (resC (arS op ⟨a, n, c, s⟩ ⟨a', n', c', s'⟩)) else none | _ => none, false⟩
theorem ok_rar : FOK NGc Wc 66 p_rar := by
  refine fok wokc ok_lRa (h := ⟨[], []⟩) Tryz.func66 rfl (by decide) ?_ ?_
  · intro R xs k
    simp only [p_rar]
    split
    · exact cond_nat
    · rfl
  · intro xs r h
    simp only [p_rar] at h
    split at h
    · rename_i op a n c s a' n' c' s'
      rcases hb : (gd ⟨a, n, c, s⟩ && gd ⟨a', n', c', s'⟩) with _ | _ <;> rw [hb] at h
      · cases h
      · exact ⟨0, ((rar_raw op a n c s a' n' c' s').trans (by simp only [Bool.and_eq_true] at hb; exact rar_eq hb.1 hb.2)).trans h⟩
    · cases h

end Go.Proofs.YtelckbphbkebkaaGreatDoor
