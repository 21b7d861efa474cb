/-
  Plans: quiet nodes, the program's and the reference's.
-/
import Derived.Test.YtelckbphbkebkaaGreatDoorVo
set_option linter.unusedVariables false
set_option linter.unusedSimpArgs false
set_option maxRecDepth 100000
namespace Go.Proofs.YtelckbphbkebkaaGreatDoor
open Go.RowKit

/-! ## signs -/
def cm6 (s : List UInt8) : Bool := s == [61] || (s == [60, 62] || (s == [60] || (s == [60, 61] || (s == [62] || s == [62, 61]))))
def cm6P (s : List UInt8) : Option PV := bif s == [61] then some (.bool true) else bif s == [60, 62] then some (.bool true) else bif s == [60] then some (.bool true) else bif s == [60, 61] then some (.bool true) else bif s == [62] then some (.bool true) else bif s == [62, 61] then some (.bool true) else some (.bool false)
noncomputable def v_con6 : PFn := evalFn [(118, v_ixs)] ⟨[], []⟩ 0 Tryz.f86
theorem ok_con6 : FOK NGc Wc 86 v_con6 := evalFn_ok wokc (allOK_cons ok_ixs allOK_nil) Tryz.func86 rfl (by decide)
theorem cm6_raw (s : List UInt8) : prun (en [(86, v_con6)]) ⟨[], []⟩ 0 false Tryz.f74 [.str s] = cm6P s := by kernel_rfl
theorem cm6_body (s : List UInt8) : cm6P s = some (.bool (cm6 s)) := by
  unfold cm6P cm6
  cases (s == [61]) <;> cases (s == [60, 62]) <;> cases (s == [60]) <;> cases (s == [60, 61]) <;> cases (s == [62]) <;> cases (s == [62, 61]) <;> rfl
def p_cm6 : PFn := ⟨fun xs k => match xs with | [.str s] => k (.bool (cm6 s)) | _ => none, false⟩
theorem ok_cm6 : FOK NGc Wc 74 p_cm6 := by
  refine fok wokc (allOK_cons ok_con6 allOK_nil) (h := ⟨[], []⟩) Tryz.func74 rfl (by decide) ?_ ?_
  · intro R xs k
    simp only [p_cm6]
    split
    · rfl
    · rfl
  · intro xs r h
    simp only [p_cm6] at h
    split at h
    · rename_i s
      exact ⟨0, ((cm6_raw s).trans (cm6_body s)).trans h⟩
    · cases h

def qzsgP (k : Int) (op : List UInt8) (n : Nat) : Option PV :=
  bif k == 2 then some (.bool (bif op == [78, 79, 84] then (n : Int) == 1 else false)) else
  bif k == 3 then (bif !(bif op == [65, 78, 68] then true else op == [79, 82]) then some (.bool (bif cm6 op then (n : Int) == 2 else false)) else some (.bool ((n : Int) == 2))) else
  bif k == 4 then some (.bool ((n : Int) == 1)) else some (.bool false)
def qzsgB (k : Int) (op : List UInt8) (n : Nat) : Bool :=
  bif k == 2 then op == [78, 79, 84] && n == 1 else bif k == 3 then (op == [65, 78, 68] || op == [79, 82] || cm6 op) && n == 2 else bif k == 4 then n == 1 else false
theorem qzsg_raw2 (k1 : Int) (o1 : List UInt8) (j1 a1 n1 c1 : Int) (s1 : List UInt8) (b1 : Bool) (t1 u1 : Int) (z1 : Option Bool) (m1 : Nat) (d1 : List PV) : prun (en [(74, p_cm6)]) ⟨[], []⟩ 0 false Tryz.f39 [.agg [.int .i64 k1, .str o1, .int .i64 j1, .int .i64 a1, .int .i64 n1, .int .i64 c1, .str s1, .bool b1, .int .i64 t1, .int .i64 u1, .sl z1 11 m1 d1]] = qzsgP k1 o1 m1 := by kernel_rfl
theorem qznatI (n m : Nat) : ((n : Int) == (m : Int)) = (n == m) := by
  rw [Bool.eq_iff_iff]; simp; omega
theorem qzsgP_eq (k : Int) (op : List UInt8) (n : Nat) : qzsgP k op n = some (.bool (qzsgB k op n)) := by
  unfold qzsgP qzsgB
  rw [show ((n : Int) == 1) = (n == 1) from qznatI n 1, show ((n : Int) == 2) = (n == 2) from qznatI n 2]
  cases (k == 2) <;> cases (k == 3) <;> cases (k == 4) <;> cases (op == [78, 79, 84]) <;> cases (op == [65, 78, 68]) <;> cases (op == [79, 82]) <;> cases (cm6 op) <;> cases (n == 1) <;> cases (n == 2) <;> rfl
def p_sgn : PFn := ⟨fun xs k => match xs with | [.agg [.int .i64 k1, .str o1, .int .i64 j1, .int .i64 a1, .int .i64 n1, .int .i64 c1, .str s1, .bool b1, .int .i64 t1, .int .i64 u1, .sl z1 11 m1 d1]] => k (.bool (qzsgB k1 o1 m1)) | _ => none, false⟩
theorem ok_sgn : FOK NGc Wc 39 p_sgn := by
  refine fok wokc (allOK_cons ok_cm6 allOK_nil) (h := ⟨[], []⟩) Tryz.func39 rfl (by decide) ?_ ?_
  · intro R xs k
    simp only [p_sgn]
    split
    · rfl
    · rfl
  · intro xs r h
    simp only [p_sgn] at h
    split at h
    · rename_i k1 o1 j1 a1 n1 c1 s1 b1 t1 u1 z1 m1 d1
      exact ⟨0, ((qzsg_raw2 k1 o1 j1 a1 n1 c1 s1 b1 t1 u1 z1 m1 d1).trans (qzsgP_eq k1 o1 m1)).trans h⟩
    · cases h

/-! ## Quiet, by its kids -/
abbrev QuT := NdC → Option Bool
def p_qu (g : QuT) : PFn := ⟨fun xs k => match xs with | [.agg [.int .i64 k1, .str o1, .int .i64 j1, .int .i64 a1, .int .i64 n1, .int .i64 c1, .str s1, .bool b1, .int .i64 t1, .int .i64 u1, .sl z1 11 m1 d1]] => (g ⟨k1, o1, j1, ⟨a1, n1, c1, s1⟩, b1, t1, u1, z1, m1, d1⟩).bind fun b => k (.bool b) | _ => none, false⟩
theorem p_qu_nat (g : QuT) : (p_qu g).nat := by
  intro R xs k
  simp only [p_qu]
  split
  · rename_i k1 o1 j1 a1 n1 c1 s1 b1 t1 u1 z1 m1 d1
    cases g ⟨k1, o1, j1, ⟨a1, n1, c1, s1⟩, b1, t1, u1, z1, m1, d1⟩ <;> rfl
  · rfl
theorem qznq_raw (g : QuT) (k1 : Int) (o1 : List UInt8) (j1 a1 n1 c1 : Int) (s1 : List UInt8) (b1 : Bool) (t1 u1 : Int) (z1 : Option Bool) (m1 : Nat) (d1 : List PV) : prun (en [(22, p_qu g)]) ⟨[], []⟩ 0 false Tryz.f41 [.agg [.int .i64 k1, .str o1, .int .i64 j1, .int .i64 a1, .int .i64 n1, .int .i64 c1, .str s1, .bool b1, .int .i64 t1, .int .i64 u1, .sl z1 11 m1 d1]] = (g ⟨k1, o1, j1, ⟨a1, n1, c1, s1⟩, b1, t1, u1, z1, m1, d1⟩).bind fun b => some (.bool (!b)) := by kernel_rfl
def qznotG (g : QuT) : QuT := fun x => (g x).map (!·)
theorem qzok_nq {g : QuT} (hg : FOK NGc Wc 22 (p_qu g)) : FOK NGc Wc 41 (p_qu (qznotG g)) := by
  refine fok wokc (allOK_cons hg allOK_nil) (h := ⟨[], []⟩) Tryz.func41 rfl (by decide) (p_qu_nat _) ?_
  intro xs r h
  simp only [p_qu] at h
  split at h
  · rename_i k1 o1 j1 a1 n1 c1 s1 b1 t1 u1 z1 m1 d1
    refine ⟨0, (qznq_raw g k1 o1 j1 a1 n1 c1 s1 b1 t1 u1 z1 m1 d1).trans (Eq.trans ?_ h)⟩
    unfold qznotG
    cases g ⟨k1, o1, j1, ⟨a1, n1, c1, s1⟩, b1, t1, u1, z1, m1, d1⟩ <;> rfl
  · cases h
def qzhIx : Hints := ⟨[], [(0, ⟨[(0, false), (1, false), (7, false), (8, false)], []⟩)]⟩
def qzfrIx (f : FuncId) (z : Option Bool) (m : Nat) (d : List PV) (L i : Int) : St := frame 19 [(0, (.sl z 11 m d, 0)), (1, (.clo f [], 0)), (7, (.int .i64 L, 0)), (8, (.int .i64 i, 0))] []
noncomputable def qzixLoop (g : QuT) (fu n : Nat) (st : St) : Option PV := loopF (en [(41, p_qu g)]) qzhIx fu false Tryz.f75 [1, 0, 1, 0] 0 n st
theorem qzix_raw (g : QuT) (fu : Nat) (z : Option Bool) (m : Nat) (d : List PV) : prun (en [(41, p_qu g)]) qzhIx fu false Tryz.f75 [.sl z 11 m d, .clo 41 []] = qzixLoop g fu fu (qzfrIx 41 z m d (m : Int) 0) := prunN_eq.trans (by kernel_rfl)
theorem qzix_step (g : QuT) (fu : Nat) (z : Option Bool) (m : Nat) (d : List PV) (L i : Int) (K : St → Option PV) :
    stepF (en [(41, p_qu g)]) qzhIx fu false Tryz.f75 [1, 0, 1, 0] (qzfrIx 41 z m d L i) (fun st => pnorm (qzhIx.loop.lookup 0) st K) =
    bif decide (i < L) then at11 m d i fun y => (g y).bind fun b => bif b then some (.int .i64 i) else K (qzfrIx 41 z m d L (IntKind.i64.wrap (i + 1)))
    else some (.int .i64 (-1)) := by kernel_rfl
def qzixS (g : QuT) : List NdC → Int → Option Int
  | [], _ => some (-1)
  | y :: ys, i => (g y).bind fun b => bif b then some i else qzixS g ys (i + 1)
theorem qzix_loop (g : QuT) (fu : Nat) (z : Option Bool) (l : List NdC) (hl : l.length ≤ 1000000) : ∀ (k i n : Nat) (r : Int), i + k = l.length → k < n → qzixS g (l.drop i) (i : Int) = some r →
    qzixLoop g fu n (qzfrIx 41 z l.length (ndC l) (l.length : Int) (i : Int)) = some (.int .i64 r)
  | k, i, 0, _, h, _, _ => by omega
  | 0, i, n + 1, r, hi, hn, hr => by
    unfold qzixLoop
    rw [loopF_succ, qzix_step, cond_f (decide_eq_false (by omega))]
    rw [List.drop_of_length_le (by omega), qzixS] at hr
    injection hr with hr
    subst hr
    rfl
  | k + 1, i, n + 1, r, hi, hn, hr => by
    unfold qzixLoop
    have hc := List.getElem?_eq_getElem (l := l) (i := i) (by omega)
    have ih := qzix_loop g fu z l hl k (i + 1) n r
    unfold qzixLoop at ih
    rw [loopF_succ, qzix_step, cond_t (decide_eq_true (by omega)), at11_eq hc, wrapI_of (by omega) (by omega)]
    rw [List.drop_eq_getElem_cons (show i < l.length by omega), qzixS] at hr
    obtain ⟨b, h1, hr⟩ := Option.bind_eq_some_iff.1 hr
    rw [h1, Option.bind_some]
    cases b
    · exact ih (by omega) (by omega) hr
    · injection hr with hr
      subst hr
      rfl
def qzp_ixf (g : QuT) : PFn := ⟨fun xs k => match xs with | [.sl _ 11 n c, .clo f []] => bif f == 41 then ((decG 11 ndG n c).bind fun l => bif decide (l.length ≤ 1000000) then (qzixS g l 0).bind fun r => k (.int .i64 r) else none) else none | _ => none, false⟩
theorem qzok_ixf {g : QuT} (hg : FOK NGc Wc 41 (p_qu g)) : FOK NGc Wc 75 (qzp_ixf g) := by
  refine fok wokc (allOK_cons hg allOK_nil) (h := qzhIx) Tryz.func75 rfl (by decide) ?_ ?_
  · intro R xs k
    simp only [qzp_ixf]
    split
    · rename_i z n c f
      cases (f == 41)
      · rfl
      · cases decG 11 ndG n c with
        | none => rfl
        | some l =>
          simp only [Option.bind_some, cond_true]
          cases decide (l.length ≤ 1000000)
          · rfl
          · cases qzixS g l 0 <;> rfl
    · rfl
  · intro xs r h
    simp only [qzp_ixf] at h
    split at h
    · rename_i z n c f
      rcases hf : (f == 41) with _ | _ <;> rw [hf] at h
      · cases h
      · obtain ⟨l, hd, h0⟩ := Option.bind_eq_some_iff.1 (show ((decG 11 ndG n c).bind _) = some r from h)
        obtain ⟨rfl, rfl⟩ := decNd hd
        have hf : f = 41 := by simpa using hf
        subst hf
        have h1 : (bif decide (l.length ≤ 1000000) then (qzixS g l 0).bind fun r => some (PV.int .i64 r) else none) = some r := h0
        rcases hl : decide (l.length ≤ 1000000) with _ | _ <;> rw [hl] at h1
        · cases h1
        · obtain ⟨q, hq, h1⟩ := Option.bind_eq_some_iff.1 (show ((qzixS g l 0).bind fun r => some (PV.int .i64 r)) = some r from h1)
          injection h1 with h1
          subst h1
          simp only [decide_eq_true_eq] at hl
          exact ⟨l.length + 1, (qzix_raw g _ z _ _).trans (qzix_loop g _ z l hl l.length 0 _ q (by omega) (by omega) hq)⟩
    · cases h
def qzixO {R : Type} (g : QuT) (n : Nat) (c : List PV) (K : Int → Option R) : Option R := (decG 11 ndG n c).bind fun l => bif decide (l.length ≤ 1000000) then (qzixS g l 0).bind K else none
theorem qzcf_raw (g : QuT) (z : Option Bool) (m : Nat) (d : List PV) : prun (en [(75, qzp_ixf g)]) ⟨[], []⟩ 0 false Tryz.f40 [.sl z 11 m d, .clo 41 []] = qzixO g m d fun r => some (.bool (decide (0 ≤ r))) := by kernel_rfl
def qzanS (g : QuT) : List NdC → Option Bool
  | [] => some false
  | y :: ys => (g y).bind fun b => bif b then some true else qzanS g ys
theorem qzixS_an {g : QuT} : ∀ {l : List NdC} {i : Int} {b : Bool}, 0 ≤ i → qzanS g l = some b → ∃ r, qzixS g l i = some r ∧ decide (0 ≤ r) = b
  | [], i, b, _, h => by
    injection h with h; subst h
    exact ⟨-1, rfl, by decide⟩
  | y :: ys, i, b, hi, h => by
    rw [qzanS] at h
    obtain ⟨c, hc, h⟩ := Option.bind_eq_some_iff.1 h
    rw [qzixS, hc, Option.bind_some]
    cases c
    · exact qzixS_an (by omega) h
    · injection h with h; subst h
      exact ⟨i, rfl, decide_eq_true hi⟩
def qzp_cf (g : QuT) : PFn := ⟨fun xs k => match xs with | [.sl _ 11 n c, .clo f []] => bif f == 41 then ((decG 11 ndG n c).bind fun l => bif decide (l.length ≤ 1000000) then (qzanS g l).bind fun r => k (.bool r) else none) else none | _ => none, false⟩
theorem qzok_cf {g : QuT} (hg : FOK NGc Wc 41 (p_qu g)) : FOK NGc Wc 40 (qzp_cf g) := by
  refine fok wokc (allOK_cons (qzok_ixf hg) allOK_nil) (h := ⟨[], []⟩) Tryz.func40 rfl (by decide) ?_ ?_
  · intro R xs k
    simp only [qzp_cf]
    split
    · rename_i z n c f
      cases (f == 41)
      · rfl
      · cases decG 11 ndG n c with
        | none => rfl
        | some l =>
          simp only [Option.bind_some, cond_true]
          cases decide (l.length ≤ 1000000)
          · rfl
          · cases qzanS g l <;> rfl
    · rfl
  · intro xs r h
    simp only [qzp_cf] at h
    split at h
    · rename_i z n c f
      rcases hf : (f == 41) with _ | _ <;> rw [hf] at h
      · cases h
      · obtain ⟨l, hd, h⟩ := Option.bind_eq_some_iff.1 (show ((decG 11 ndG n c).bind _) = some r from h)
        have hf : f = 41 := by simpa using hf
        subst hf
        have h1 : (bif decide (l.length ≤ 1000000) then (qzanS g l).bind fun r => some (PV.bool r) else none) = some r := h
        rcases hl : decide (l.length ≤ 1000000) with _ | _ <;> rw [hl] at h1
        · cases h1
        · obtain ⟨q, hq, h1⟩ := Option.bind_eq_some_iff.1 (show ((qzanS g l).bind fun r => some (PV.bool r)) = some r from h1)
          injection h1 with h1
          subst h1
          obtain ⟨i, e1, e2⟩ := qzixS_an (i := 0) (by omega) hq
          refine ⟨0, (qzcf_raw g z _ _).trans ?_⟩
          unfold qzixO
          rw [hd, Option.bind_some, hl, cond_true, e1, Option.bind_some, e2]
    · cases h
/-! ## Quiet -/
def qzcfO {R : Type} (g : QuT) (n : Nat) (c : List PV) (K : Bool → Option R) : Option R := (decG 11 ndG n c).bind fun l => bif decide (l.length ≤ 1000000) then (qzanS g l).bind K else none
noncomputable def qzlQu (g : QuT) : List (FuncId × PFn) := [(39, p_sgn), (40, qzp_cf g)]
theorem qu_raw (g : QuT) (k1 : Int) (o1 : List UInt8) (j1 a1 n1 c1 : Int) (s1 : List UInt8) (b1 : Bool) (t1 u1 : Int) (z1 : Option Bool) (m1 : Nat) (d1 : List PV) : prun (en (qzlQu g)) ⟨[], []⟩ 0 false Tryz.f22 [.agg [.int .i64 k1, .str o1, .int .i64 j1, .int .i64 a1, .int .i64 n1, .int .i64 c1, .str s1, .bool b1, .int .i64 t1, .int .i64 u1, .sl z1 11 m1 d1]] =
    bif (bif k1 == 0 then true else k1 == 1) then some (.bool true) else bif qzsgB k1 o1 m1 then (qzcfO g m1 d1 fun b => some (.bool (!b))) else some (.bool false) := by kernel_rfl
/-- quiet, by its kids -/
def quB (g : QuT) (x : NdC) (l : List NdC) : Option Bool := bif x.k == 0 || x.k == 1 then some true else bif qzsgB x.k x.op l.length then (qzanS (qznotG g) l).map (!·) else some false
def quS : Nat → QuT
  | 0, _ => none
  | d + 1, x => (decG 11 ndG x.n x.c).bind fun l => bif decide (l.length ≤ 1000000) then quB (quS d) x l else none
theorem ok_qu : ∀ d, FOK NGc Wc 22 (p_qu (quS d))
  | 0 => by
    refine fok wokc allOK_nil (h := ⟨[], []⟩) Tryz.func22 rfl (by decide) (p_qu_nat _) ?_
    intro xs r h
    simp only [p_qu] at h
    split at h
    · obtain ⟨q, h1, h⟩ := Option.bind_eq_some_iff.1 h
      cases h1
    · cases h
  | d + 1 => by
    have ih := ok_qu d
    refine fok wokc (allOK_cons ok_sgn (allOK_cons (qzok_cf (qzok_nq ih)) allOK_nil)) (h := ⟨[], []⟩) Tryz.func22 rfl (by decide) (p_qu_nat _) ?_
    intro xs r h
    simp only [p_qu] at h
    split at h
    · rename_i k1 o1 j1 a1 n1 c1 s1 b1 t1 u1 z1 m1 d1
      obtain ⟨q, h1, h⟩ := Option.bind_eq_some_iff.1 h
      injection h with h
      subst h
      rw [quS] at h1
      obtain ⟨l, hd, h2⟩ := Option.bind_eq_some_iff.1 h1
      refine ⟨0, (qu_raw (qznotG (quS d)) k1 o1 j1 a1 n1 c1 s1 b1 t1 u1 z1 m1 d1).trans ?_⟩
      have hl : m1 = l.length := (decNd hd).1
      have hd' : decG 11 ndG m1 d1 = some l := hd
      rcases h6 : decide (l.length ≤ 1000000) with _ | _ <;> rw [h6] at h2
      · cases h2
      have h3 : (bif k1 == 0 || k1 == 1 then some true else bif qzsgB k1 o1 l.length then (qzanS (qznotG (quS d)) l).map (!·) else some false) = some q := h2
      rw [hl] at hd' ⊢
      unfold qzcfO
      rw [hd', Option.bind_some, h6, cond_true]
      rcases e0 : (k1 == 0) with _ | _ <;> rw [e0] at h3
      · rcases e1 : (k1 == 1) with _ | _ <;> rw [e1] at h3
        · rw [show (false || false) = false from rfl, cond_false] at h3
          rcases hs : qzsgB k1 o1 l.length with _ | _ <;> rw [hs] at h3
          · injection h3 with h3; subst h3; rfl
          · obtain ⟨b, hb, h3⟩ := Option.map_eq_some_iff.1 (show (qzanS (qznotG (quS d)) l).map (!·) = some q from h3)
            subst h3
            rw [hb]; rfl
        · injection h3 with h3; subst h3; rfl
      · injection h3 with h3; subst h3; rfl
    · cases h
/-! ## the reference's Quiet -/
def qzflB (s : List UInt8) : Bool := s == [61] || (s == [60] || (s == [60, 61] || (s == [62] || s == [62, 61])))
def qzflS (s : List UInt8) : List UInt8 := bif s == [61] then [61] else bif s == [60] then [62] else bif s == [60, 61] then [62, 61] else bif s == [62] then [60] else bif s == [62, 61] then [60, 61] else []
noncomputable def qzv_fl : PFn := evalFn [] ⟨[], [(0, ⟨[(0, false), (6, false), (7, false), (8, false)], []⟩)]⟩ 8 Tryz.f42
theorem qzok_vfl : FOK NGc Wc 42 qzv_fl := evalFn_ok wokc allOK_nil Tryz.func42 rfl (by decide)
def qzflP (s : List UInt8) : Option PV := bif [61] == s then some (.tuple [.str [61], .bool true]) else bif [60] == s then some (.tuple [.str [62], .bool true]) else bif [60, 61] == s then some (.tuple [.str [62, 61], .bool true]) else bif [62] == s then some (.tuple [.str [60], .bool true]) else bif [62, 61] == s then some (.tuple [.str [60, 61], .bool true]) else some (.tuple [.str [], .bool false])
theorem qzfl_raw (s : List UInt8) : qzv_fl.F [.str s] (R := PV) some = qzflP s := by kernel_rfl
theorem qzbeq_sym (a b : List UInt8) : (a == b) = (b == a) := by rw [Bool.eq_iff_iff, beq_iff_eq, beq_iff_eq]; exact eq_comm
theorem qzfl_body (s : List UInt8) : qzflP s = some (.tuple [.str (qzflS s), .bool (qzflB s)]) := by
  unfold qzflP qzflS qzflB
  rw [qzbeq_sym [61], qzbeq_sym [60], qzbeq_sym [60, 61], qzbeq_sym [62], qzbeq_sym [62, 61]]
  cases (s == [61]) <;> cases (s == [60]) <;> cases (s == [60, 61]) <;> cases (s == [62]) <;> cases (s == [62, 61]) <;> rfl
def p_fl : PFn := ⟨fun xs k => match xs with | [.str s] => k (.tuple [.str (qzflS s), .bool (qzflB s)]) | _ => none, false⟩
theorem ok_fl : FOK NGc Wc 42 p_fl := by
  refine fok_at qzok_vfl ?_ rfl ?_
  · intro R xs k
    simp only [p_fl]
    split <;> rfl
  · intro xs r h
    simp only [p_fl] at h
    split at h
    · rename_i s
      rw [qzfl_raw, qzfl_body]; exact h
    · cases h
def qzhRq : Hints := ⟨[], [(0, ⟨[(1, false), (8, false), (9, false), (10, false)], [1]⟩)]⟩
def qzfrRq (x : NdC) (z : Option Bool) (m : Nat) (d : List PV) (L i : Int) : St :=
  frame 75 [(1, (.ptr 1 0, 0)), (8, (.sl z 11 m d, 0)), (9, (.int .i64 L, 0)), (10, (.int .i64 i, 0))]
    [(1, [(.int .i64 x.k, 0), (.str x.op, 0), (.int .i64 x.slot, 0), (.int .i64 x.v.kind, 0), (.int .i64 x.v.n, 0), (.int .i64 x.v.scale, 0), (.str x.v.s, 0), (.bool x.nt, 0), (.int .i64 x.t, 0), (.int .i64 x.u, 0), (.sl x.nl 11 x.n x.c, 0)])]
noncomputable def qzlRq (g : QuT) : List (FuncId × PFn) := [(23, p_qu g), (42, p_fl)]
noncomputable def rqLoop (g : QuT) (fu n : Nat) (st : St) : Option PV := loopF (en (qzlRq g)) qzhRq fu false Tryz.f23 [1, 0, 1, 0] 0 n st
theorem rq_raw (g : QuT) (fu : Nat) (k1 : Int) (o1 : List UInt8) (j1 a1 n1 c1 : Int) (s1 : List UInt8) (b1 : Bool) (t1 u1 : Int) (z1 : Option Bool) (m1 : Nat) (d1 : List PV) : prun (en (qzlRq g)) qzhRq fu false Tryz.f23 [.agg [.int .i64 k1, .str o1, .int .i64 j1, .int .i64 a1, .int .i64 n1, .int .i64 c1, .str s1, .bool b1, .int .i64 t1, .int .i64 u1, .sl z1 11 m1 d1]] = rqLoop g fu fu (qzfrRq ⟨k1, o1, j1, ⟨a1, n1, c1, s1⟩, b1, t1, u1, z1, m1, d1⟩ z1 m1 d1 (m1 : Int) 0) := prunN_eq.trans (by kernel_rfl)
def rqP (k : Int) (op : List UInt8) (n : Nat) : Option PV :=
  bif k == 0 then some (.bool true) else bif k == 1 then some (.bool true) else
  bif k == 2 then some (.bool (bif op == [78, 79, 84] then (n : Int) == 1 else false)) else
  bif k == 3 then some (.bool (bif (bif (bif (bif qzflB op then true else op == [60, 62]) then true else op == [65, 78, 68]) then true else op == [79, 82]) then (n : Int) == 2 else false)) else
  bif k == 4 then some (.bool ((n : Int) == 1)) else some (.bool false)
def rqP2 (k : Int) (op : List UInt8) (n : Nat) : Option PV :=
  bif k == 2 then some (.bool (bif op == [78, 79, 84] then (n : Int) == 1 else false)) else
  bif k == 3 then some (.bool (bif (bif (bif (bif qzflB op then true else op == [60, 62]) then true else op == [65, 78, 68]) then true else op == [79, 82]) then (n : Int) == 2 else false)) else
  bif k == 4 then some (.bool ((n : Int) == 1)) else some (.bool false)
def rqP0 (k : Int) (op : List UInt8) (n : Nat) : Option PV := bif k == 0 then (bif k == 0 then some (.bool true) else rqP2 k op n) else bif k == 1 then some (.bool true) else rqP2 k op n
theorem rq_step (g : QuT) (fu : Nat) (k1 : Int) (o1 : List UInt8) (j1 a1 n1 c1 : Int) (s1 : List UInt8) (b1 : Bool) (t1 u1 : Int) (z1 : Option Bool) (m1 : Nat) (d1 : List PV) (z : Option Bool) (m : Nat) (d : List PV) (L i : Int) (K : St → Option PV) :
    stepF (en (qzlRq g)) qzhRq fu false Tryz.f23 [1, 0, 1, 0] (qzfrRq ⟨k1, o1, j1, ⟨a1, n1, c1, s1⟩, b1, t1, u1, z1, m1, d1⟩ z m d L i) (fun st => pnorm (qzhRq.loop.lookup 0) st K) =
    bif decide (i < L) then at11 m d i fun y => bif decide (1 < k1) then ((g y).bind fun b => bif !b then some (.bool false) else K (qzfrRq ⟨k1, o1, j1, ⟨a1, n1, c1, s1⟩, b1, t1, u1, z1, m1, d1⟩ z m d L (IntKind.i64.wrap (i + 1)))) else K (qzfrRq ⟨k1, o1, j1, ⟨a1, n1, c1, s1⟩, b1, t1, u1, z1, m1, d1⟩ z m d L (IntKind.i64.wrap (i + 1)))
    else rqP0 k1 o1 m1 := by kernel_rfl
end Go.Proofs.YtelckbphbkebkaaGreatDoor
