/-
  Plans: the reference's Quiet says the same; quiet nodes have no error (the law PlanQuiet in plain terms).
-/
import Derived.Test.YtelckbphbkebkaaGreatDoorQa
set_option linter.unusedVariables false
set_option linter.unusedSimpArgs false
set_option maxRecDepth 100000
namespace Go.Proofs.YtelckbphbkebkaaGreatDoor
open Go.RowKit

/-! ## the reference's Quiet -/
def rqL (g : QuT) (k : Int) : List NdC → Option Bool
  | [] => some true
  | y :: ys => bif decide (1 < k) then (g y).bind fun b => bif !b then some false else rqL g k ys else rqL g k ys
def rqF (k : Int) (op : List UInt8) (n : Nat) : Bool := bif k == 0 || k == 1 then true else sgV k op n
where sgV (k : Int) (op : List UInt8) (n : Nat) : Bool := bif k == 2 then op == [78, 79, 84] && n == 1 else bif k == 3 then (qzflB op || op == [60, 62] || op == [65, 78, 68] || op == [79, 82]) && n == 2 else bif k == 4 then n == 1 else false
theorem rqP_eq (k : Int) (op : List UInt8) (n : Nat) : rqP0 k op n = some (.bool (rqF k op n)) := by
  unfold rqP0 rqP2 rqF rqF.sgV
  rw [show ((n : Int) == 1) = (n == 1) from qznatI n 1, show ((n : Int) == 2) = (n == 2) from qznatI n 2]
  cases (k == 0) <;> cases (k == 1) <;> cases (k == 2) <;> cases (k == 3) <;> cases (k == 4) <;> cases (op == [78, 79, 84]) <;> cases (n == 1) <;> cases (n == 2) <;> cases (qzflB op) <;> cases (op == [60, 62]) <;> cases (op == [65, 78, 68]) <;> cases (op == [79, 82]) <;> rfl
def rqB (g : QuT) (x : NdC) (l : List NdC) : Option Bool := (rqL g x.k l).bind fun b => bif !b then some false else some (rqF x.k x.op l.length)
theorem rq_loop (g : QuT) (fu : Nat) (k1 : Int) (o1 : List UInt8) (j1 a1 n1 c1 : Int) (s1 : List UInt8) (b1 : Bool) (t1 u1 : Int) (z1 : Option Bool) (m1 : Nat) (d1 : List PV) (z : Option Bool) (l : List NdC) (hl : l.length ≤ 1000000) : ∀ (k i n : Nat) (r : Bool), i + k = l.length → k < n → ((rqL g k1 (l.drop i)).bind fun b => bif !b then some false else some (rqF k1 o1 m1)) = some r →
    rqLoop g fu n (qzfrRq ⟨k1, o1, j1, ⟨a1, n1, c1, s1⟩, b1, t1, u1, z1, m1, d1⟩ z l.length (ndC l) (l.length : Int) (i : Int)) = some (.bool r)
  | k, i, 0, _, h, _, _ => by omega
  | 0, i, n + 1, r, hi, hn, hr => by
    unfold rqLoop
    rw [loopF_succ, rq_step, cond_f (decide_eq_false (by omega)), rqP_eq]
    rw [List.drop_of_length_le (by omega), rqL, Option.bind_some, nt_t] at hr
    injection hr with hr
    rw [hr]
  | k + 1, i, n + 1, r, hi, hn, hr => by
    unfold rqLoop
    have hc := List.getElem?_eq_getElem (l := l) (i := i) (by omega)
    have ih := rq_loop g fu k1 o1 j1 a1 n1 c1 s1 b1 t1 u1 z1 m1 d1 z l hl k (i + 1) n r (by omega) (by omega)
    unfold rqLoop at ih
    rw [loopF_succ, rq_step, cond_t (decide_eq_true (by omega)), at11_eq hc, wrapI_of (by omega) (by omega)]
    rw [List.drop_eq_getElem_cons (show i < l.length by omega), rqL] at hr
    rcases h1 : decide (1 < k1) with _ | _ <;> rw [h1] at hr
    · rw [cond_false] at hr ⊢
      exact ih hr
    · rw [cond_true] at hr ⊢
      rcases hg : g l[i] with _ | b
      · rw [hg] at hr; cases hr
      · rw [hg, Option.bind_some] at hr
        rw [Option.bind_some]
        cases b
        · rw [nt_f, Option.bind_some, nt_f] at hr
          injection hr with hr
          subst hr; rfl
        · rw [nt_t] at hr ⊢
          exact ih hr
def rqS : Nat → QuT
  | 0, _ => none
  | d + 1, x => (decG 11 ndG x.n x.c).bind fun l => bif decide (l.length ≤ 1000000) then rqB (rqS d) x l else none
theorem ok_rqu : ∀ d, FOK NGc Wc 23 (p_qu (rqS d))
  | 0 => by
    refine fok wokc allOK_nil (h := ⟨[], []⟩) Tryz.func23 rfl (by decide) (p_qu_nat _) ?_
    intro xs r h
    simp only [p_qu] at h
    split at h
    · obtain ⟨q, h1, h⟩ := Option.bind_eq_some_iff.1 h
      cases h1
    · cases h
  | d + 1 => by
    have ih := ok_rqu d
    refine fok wokc (allOK_cons ih (allOK_cons ok_fl allOK_nil)) (h := qzhRq) Tryz.func23 rfl (by decide) (p_qu_nat _) ?_
    intro xs r h
    simp only [p_qu] at h
    split at h
    · rename_i k1 o1 j1 a1 n1 c1 s1 b1 t1 u1 z1 m1 d1
      obtain ⟨q, h1, h⟩ := Option.bind_eq_some_iff.1 h
      injection h with h
      subst h
      rw [rqS] at h1
      obtain ⟨l, hd, h2⟩ := Option.bind_eq_some_iff.1 h1
      have hd' : decG 11 ndG m1 d1 = some l := hd
      obtain ⟨e1, e2⟩ := decNd hd'
      subst e1; subst e2
      rcases h6 : decide (l.length ≤ 1000000) with _ | _ <;> rw [h6] at h2
      · cases h2
      simp only [decide_eq_true_eq] at h6
      exact ⟨l.length + 1, (rq_raw (rqS d) _ k1 o1 j1 a1 n1 c1 s1 b1 t1 u1 z1 _ _).trans (rq_loop (rqS d) _ k1 o1 j1 a1 n1 c1 s1 b1 t1 u1 z1 _ _ z1 l h6 l.length 0 _ q (by omega) (by omega) h2)⟩
    · cases h
/-! ## the same -/
def Sn : Nat → NdC → Prop
  | 0, _ => False
  | f + 1, x => ∃ l, x.n = l.length ∧ x.c = ndC l ∧ l.length ≤ 2000 ∧ ∀ y ∈ l, Sn f y
theorem sz_ok2 : ∀ (f D : Nat) (dep : Int) (x : NdC), wfN D x → 0 ≤ dep → dep < (f : Int) → f ≤ 100 → ∃ r, szS f dep x = some r ∧ 1 ≤ r ∧ r ≤ 4001 + 2000 * (f : Int) ∧ (r ≤ 2000 → Sn f x)
  | 0, D, dep, x, h, h0, h1, h2 => by omega
  | f + 1, 0, dep, x, h, h0, h1, h2 => h.elim
  | f + 1, D + 1, dep, x, h, h0, h1, h2 => by
    obtain ⟨hi, l, hn, hc, hl⟩ := h
    rw [szS, hn, hc, decNd_of, Option.bind_some]
    by_cases hd : dep = 0
    · subst hd
      exact ⟨2001, rfl, by omega, by omega, fun h => by omega⟩
    · rw [show (dep == 0) = false by simpa using hd, Bool.false_or]
      by_cases hm : 2000 < maxI (maxI (l.length : Int) (x.v.s.length : Int)) (x.op.length : Int)
      · exact ⟨2001, cond_t (decide_eq_true hm), by omega, by omega, fun h => by omega⟩
      · rw [decide_eq_false hm, cond_false, wrapI_of (x := dep - 1) (by omega) (by omega)]
        have hm' := hm
        unfold maxI at hm'
        have hs : (x.v.s.length : Int) ≤ 2000 ∧ (x.op.length : Int) ≤ 2000 := by
          split at hm' <;> split at hm' <;> omega
        have hk : sz0 x = 1 + (x.v.s.length : Int) + (x.op.length : Int) := by
          unfold sz0
          rw [wrapI_of (x := 1 + (x.v.s.length : Int)) (by omega) (by omega), wrapI_of (by omega) (by omega)]
        have ih := fun y (hy : y ∈ l) => sz_ok2 f D (dep - 1) y (hl y hy) (by omega) (by omega) (by omega)
        obtain ⟨r, e, r1, r2, r3⟩ := szL_ok (g := szS f (dep - 1)) (B := 4001 + 2000 * (f : Int)) (by omega) (by omega) l (sz0 x) (fun y hy => by
          obtain ⟨w, a, b, c, _⟩ := ih y hy
          exact ⟨w, a, b, c⟩) (by omega) (by omega)
        refine ⟨r, e, r1, by omega, fun h => ⟨l, hn, hc, ?_, fun y hy => ?_⟩⟩
        · split at hm' <;> split at hm' <;> omega
        · obtain ⟨w, a, b⟩ := (r3 h).2 y hy
          obtain ⟨w', a', _, _, c⟩ := ih y hy
          rw [a] at a'
          injection a' with a'
          exact c (by omega)

theorem an_some {g : QuT} {h : NdC → Bool} : ∀ {l : List NdC}, (∀ y ∈ l, g y = some (h y)) → qzanS (qznotG g) l = some (!l.all h)
  | [], _ => rfl
  | y :: ys, hl => by
    have h1 := hl y (by simp)
    have h2 := an_some (g := g) (h := h) (l := ys) (fun y hy => hl y (by simp [hy]))
    rw [qzanS, show qznotG g y = some (!h y) by unfold qznotG; rw [h1]; rfl, Option.bind_some, h2, List.all_cons]
    cases h y <;> rfl
theorem rqL_some {g : QuT} {h : NdC → Bool} {k : Int} : ∀ {l : List NdC}, (∀ y ∈ l, g y = some (h y)) → rqL g k l = some (bif decide (1 < k) then l.all h else true)
  | [], _ => by cases decide (1 < k) <;> rfl
  | y :: ys, hl => by
    have h1 := hl y (by simp)
    have h2 := rqL_some (g := g) (h := h) (k := k) (l := ys) (fun y hy => hl y (by simp [hy]))
    rw [rqL, h1, Option.bind_some, h2, List.all_cons]
    cases decide (1 < k) <;> cases h y <;> rfl
theorem flB_cm (op : List UInt8) : (op == [65, 78, 68] || op == [79, 82] || cm6 op) = (qzflB op || op == [60, 62] || op == [65, 78, 68] || op == [79, 82]) := by
  unfold cm6 qzflB
  cases (op == [65, 78, 68]) <;> cases (op == [79, 82]) <;> cases (op == [61]) <;> cases (op == [60, 62]) <;> cases (op == [60]) <;> cases (op == [60, 61]) <;> cases (op == [62]) <;> cases (op == [62, 61]) <;> rfl
theorem sgV_eq (k : Int) (op : List UInt8) (n : Nat) : rqF.sgV k op n = qzsgB k op n := by
  unfold rqF.sgV qzsgB
  rw [flB_cm]
theorem qu_both : ∀ (f : Nat) (x : NdC), Sn f x → ∃ b, quS f x = some b ∧ rqS f x = some b
  | 0, x, h => h.elim
  | f + 1, x, ⟨l, hn, hc, hl, hk⟩ => by
    obtain ⟨h, hq, hr⟩ : ∃ h : NdC → Bool, (∀ y ∈ l, quS f y = some (h y)) ∧ ∀ y ∈ l, rqS f y = some (h y) := by
      refine ⟨fun y => (quS f y).getD false, fun y hy => ?_, fun y hy => ?_⟩
      · obtain ⟨b, h1, h2⟩ := qu_both f y (hk y hy)
        show quS f y = some ((quS f y).getD false)
        rw [h1]; rfl
      · obtain ⟨b, h1, h2⟩ := qu_both f y (hk y hy)
        show rqS f y = some ((quS f y).getD false)
        rw [h2, h1]; rfl
    rw [quS, rqS, hn, hc, decNd_of, Option.bind_some, Option.bind_some, cond_t (decide_eq_true (by omega)), cond_t (decide_eq_true (by omega))]
    unfold quB rqB
    rw [an_some hq, rqL_some hr, Option.bind_some]
    unfold rqF
    rw [sgV_eq]
    by_cases h0 : x.k = 0
    · rw [h0]; exact ⟨true, rfl, rfl⟩
    by_cases h1 : x.k = 1
    · rw [h1]; exact ⟨true, rfl, rfl⟩
    have b0 : (x.k == 0) = false := by simpa using h0
    have b1 : (x.k == 1) = false := by simpa using h1
    rw [b0, b1]
    by_cases h2 : 1 < x.k
    · rw [decide_eq_true h2]
      cases qzsgB x.k x.op l.length <;> cases l.all h <;> exact ⟨_, rfl, rfl⟩
    · have e : qzsgB x.k x.op l.length = false := by
        have c2 : (x.k == 2) = false := by simp; omega
        have c3 : (x.k == 3) = false := by simp; omega
        have c4 : (x.k == 4) = false := by simp; omega
        unfold qzsgB
        rw [c2, c3, c4]; rfl
      rw [decide_eq_false h2, e]
      exact ⟨false, rfl, rfl⟩
/-! ## quiet nodes have no error -/
theorem an_all {g : QuT} : ∀ {l : List NdC}, qzanS (qznotG g) l = some false → ∀ y ∈ l, g y = some true
  | [], _, y, hy => by cases hy
  | a :: l, h, y, hy => by
    rw [qzanS] at h
    obtain ⟨b, hb, h⟩ := Option.bind_eq_some_iff.1 h
    unfold qznotG at hb
    obtain ⟨c, hc, rfl⟩ := Option.map_eq_some_iff.1 hb
    cases c
    · cases h
    · rcases List.mem_cons.1 hy with rfl | hy
      · exact hc
      · exact an_all h y hy
theorem kdI_lit : kdI 0 = 0 ∧ kdI 1 = 0 ∧ kdI 2 = 1 ∧ kdI 3 = 2 ∧ kdI 4 = 1 := by decide
theorem ho_some {op : List UInt8} (h : cm6 op = true) (c : Int) : ∃ b, hoS op c = some b := by
  unfold cm6 at h
  unfold hoS
  revert h
  cases (op == [61]) <;> cases (op == [60, 62]) <;> cases (op == [60]) <;> cases (op == [60, 61]) <;> cases (op == [62]) <;> cases (op == [62, 61]) <;> intro h <;> first | exact ⟨_, rfl⟩ | (exfalso; revert h; decide)
theorem lg_noerr {g : Ev1} {op : List UInt8} {p q : NdC} {r : Val × Int} (hp : ∀ a, g p = some a → a.2 = 0) (hq : ∀ a, g q = some a → a.2 = 0) (h : lgS g op [p, q] = some r) : r.2 = 0 := by
  have h : ((g p).bind fun a => bif !(a.2 == 0) then some (vnull, a.2) else bif (op == [65, 78, 68] && trS a.1 == 0) || (op == [79, 82] && trS a.1 == 1) then some (tvS (trS a.1), 0) else
      (g q).bind fun b => bif !(b.2 == 0) then some (vnull, b.2) else bif op == [65, 78, 68] then some (tvS (anS (trS a.1) (trS b.1)), 0) else some (tvS (orS (trS a.1) (trS b.1)), 0)) = some r := h
  obtain ⟨a, ha, h⟩ := Option.bind_eq_some_iff.1 h
  rw [hp a ha, show ((0 : Int) == 0) = true from rfl, nt_t] at h
  cases hs : ((op == [65, 78, 68] && trS a.1 == 0) || (op == [79, 82] && trS a.1 == 1)) <;> rw [hs] at h
  · obtain ⟨b, hb, h⟩ := Option.bind_eq_some_iff.1 (show ((g q).bind fun b => bif !(b.2 == 0) then some (vnull, b.2) else bif op == [65, 78, 68] then some (tvS (anS (trS a.1) (trS b.1)), 0) else some (tvS (orS (trS a.1) (trS b.1)), 0)) = some r from h)
    rw [hq b hb, show ((0 : Int) == 0) = true from rfl, nt_t] at h
    cases ho : (op == [65, 78, 68]) <;> rw [ho] at h <;> injection h with h <;> subst h <;> rfl
  · injection h with h; subst h; rfl
theorem len1 {l : List NdC} (h : l.length = 1) : ∃ y, l = [y] := by
  match l, h with
  | [y], _ => exact ⟨y, rfl⟩
theorem len2 {l : List NdC} (h : l.length = 2) : ∃ p q, l = [p, q] := by
  match l, h with
  | [p, q], _ => exact ⟨p, q, rfl⟩
theorem quiet1 {f : Nat} {row : List Val} {x : NdC} {l : List NdC} {r' : Val × Int} (ih0 : ∀ y ∈ l, ∀ a, quS f y = some true → evS f row y = some a → a.2 = 0) (hq : quB (quS f) x l = some true) (he : evB (evS f row) x l row = some r') : r'.2 = 0 := by
    obtain ⟨kk, op, slot, v, nt, t, u, nl, n, c⟩ := x
    unfold quB at hq
    dsimp only at hq
    by_cases h0 : kk = 0
    · subst h0
      have he : (bif decide ((l.length : Int) < 0) then some (vnull, (2 : Int)) else bif decide (v.s.length ≤ 1000000) then some (rtV v, 0) else none) = some r' := he
      rw [decide_eq_false (by omega), cond_false] at he
      cases hs : decide (v.s.length ≤ 1000000) <;> rw [hs] at he
      · cases he
      · injection he with he; subst he; rfl
    by_cases h1 : kk = 1
    · subst h1
      have he : (bif decide ((l.length : Int) < 0) then some (vnull, (2 : Int)) else bif colB slot row then some (colS slot row, 0) else none) = some r' := he
      rw [decide_eq_false (by omega), cond_false] at he
      cases hs : colB slot row <;> rw [hs] at he
      · cases he
      · injection he with he; subst he; rfl
    have b0 : (kk == 0) = false := by simpa using h0
    have b1 : (kk == 1) = false := by simpa using h1
    rw [b0, b1, Bool.or_self, cond_false] at hq
    rcases hs : qzsgB kk op l.length with _ | _ <;> rw [hs] at hq
    · cases hq
    obtain ⟨b, hb, hbn⟩ := Option.map_eq_some_iff.1 (show (qzanS (qznotG (quS f)) l).map (!·) = some true from hq)
    have hb' : b = false := by simpa using hbn
    subst hb'
    have hk := an_all hb
    have ih : ∀ y ∈ l, ∀ a, evS f row y = some a → a.2 = 0 := fun y hy a ha => ih0 y hy a (hk y hy) ha
    by_cases h2 : kk = 2
    · subst h2
      have hs : (op == [78, 79, 84] && l.length == 1) = true := hs
      simp only [Bool.and_eq_true, beq_iff_eq] at hs
      obtain ⟨rfl, hl⟩ := hs
      obtain ⟨y, rfl⟩ := len1 hl
      · skip
        have he : ((evS f row y).bind fun a => bif !(a.2 == 0) then some (vnull, a.2) else some (unS [78, 79, 84] a.1)) = some r' := he
        obtain ⟨a, ha, he⟩ := Option.bind_eq_some_iff.1 he
        rw [ih y (by simp) a ha, show ((0 : Int) == 0) = true from rfl, nt_t] at he
        injection he with he; subst he; rfl
    by_cases h4 : kk = 4
    · subst h4
      have hs : (l.length == 1) = true := hs
      simp only [beq_iff_eq] at hs
      obtain ⟨y, rfl⟩ := len1 hs
      · skip
        have he : ((evS f row y).bind fun a => bif !(a.2 == 0) then some (vnull, a.2) else some (boV (!((a.1.kind == 0) == nt)), 0)) = some r' := he
        obtain ⟨a, ha, he⟩ := Option.bind_eq_some_iff.1 he
        rw [ih y (by simp) a ha, show ((0 : Int) == 0) = true from rfl, nt_t] at he
        injection he with he; subst he; rfl
    by_cases h3 : kk = 3
    · subst h3
      have hs : ((op == [65, 78, 68] || op == [79, 82] || cm6 op) && l.length == 2) = true := hs
      simp only [Bool.and_eq_true, beq_iff_eq] at hs
      obtain ⟨hop, hl⟩ := hs
      obtain ⟨p, q, rfl⟩ := len2 hl
      · skip
        have hp := ih p (by simp)
        have hq := ih q (by simp)
        have he : biS (evS f row) op [p, q] = some r' := he
        unfold biS at he
        rcases ho : (op == [65, 78, 68] || op == [79, 82]) with _ | _ <;> rw [ho] at he hop
        · have hop : cm6 op = true := hop
          have he : ((alS (evS f row) [p, q]).bind fun r => bif !(r.2 == 0) then some (vnull, r.2) else r.1[0]?.bind fun a => r.1[1]?.bind fun b => bif (cpS op a b).2 then some ((cpS op a b).1, 0) else some (arS op a b)) = some r' := he
          rw [alS] at he
          obtain ⟨w, hw, he⟩ := Option.bind_eq_some_iff.1 he
          obtain ⟨a, ha, hw⟩ := Option.bind_eq_some_iff.1 hw
          rw [hp a ha, show ((0 : Int) == 0) = true from rfl, nt_t, alS] at hw
          obtain ⟨w2, hw2, hw⟩ := Option.bind_eq_some_iff.1 hw
          obtain ⟨b, hb, hw2⟩ := Option.bind_eq_some_iff.1 hw2
          rw [hq b hb, show ((0 : Int) == 0) = true from rfl, nt_t, alS, Option.bind_some] at hw2
          injection hw2 with hw2
          subst hw2
          injection hw with hw
          subst hw
          have he : (bif (cpS op a.1 b.1).2 then some ((cpS op a.1 b.1).1, (0 : Int)) else some (arS op a.1 b.1)) = some r' := he
          obtain ⟨hb2, hh⟩ := ho_some hop (cmpS a.1 b.1).1
          have hc : (cpS op a.1 b.1).2 = true := by unfold cpS; rw [hh]
          rw [hc] at he
          injection he with he; subst he; rfl
        · exact lg_noerr hp hq he
    · have e : qzsgB kk op l.length = false := by
        unfold qzsgB
        rw [show (kk == 2) = false by simpa using h2, show (kk == 3) = false by simpa using h3, show (kk == 4) = false by simpa using h4]; rfl
      rw [e] at hs
      cases hs
theorem quiet_ok : ∀ (f : Nat) (row : List Val) (x : NdC) (r : Val × Int), quS f x = some true → evS f row x = some r → r.2 = 0
  | 0, row, x, r, h, _ => by cases h
  | f + 1, row, x, r, hq, he => by
    rw [quS] at hq
    rw [evS] at he
    obtain ⟨l, hd, hq1⟩ := Option.bind_eq_some_iff.1 hq
    obtain ⟨l', hd', he1⟩ := Option.bind_eq_some_iff.1 he
    rw [hd] at hd'
    injection hd' with hd'
    rw [← hd'] at he1
    obtain ⟨r2, he2, h9⟩ := Option.bind_eq_some_iff.1 he1
    have hrr : r2 = r := by
      cases hg : gd r2.1 <;> rw [hg] at h9
      · cases h9
      · injection h9
    rw [hrr] at he2
    rcases h6 : decide (l.length ≤ 1000000) with _ | _ <;> rw [h6] at hq1
    · cases hq1
    have hq2 : quB (quS f) x l = some true := hq1
    clear hq he hd hq1 hd' he1 h9 hrr
    exact quiet1 (fun y hy a h1 h2 => quiet_ok f row y a h1 h2) hq2 he2
end Go.Proofs.YtelckbphbkebkaaGreatDoor
