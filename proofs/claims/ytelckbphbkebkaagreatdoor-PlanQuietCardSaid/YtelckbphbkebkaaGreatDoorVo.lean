/-
  Nodes: the reference's Eval has the same values.
-/
import Derived.Test.YtelckbphbkebkaaGreatDoorVn
set_option linter.unusedVariables false
set_option linter.unusedSimpArgs false
set_option maxRecDepth 100000
namespace Go.Proofs.YtelckbphbkebkaaGreatDoor
open Go.RowKit

theorem nt_t {α : Type} {A B : α} : (bif !true then A else B) = B := rfl
theorem nt_f {α : Type} {A B : α} : (bif !false then A else B) = A := rfl
theorem rt_plain (v : Val) : Go.Proofs.YtelckbphbkebkaaGreatDoor.plain v = rtV v := by
  unfold rtV Go.Proofs.YtelckbphbkebkaaGreatDoor.plain
  cases right v <;> rfl
theorem sc30_eq (op : List UInt8) (a : Val) (SH KK : Option PV) : sc30 op a SH KK = bif (op == [65, 78, 68] && rtrS a == 0) || (op == [79, 82] && rtrS a == 1) then SH else KK := by
  unfold sc30
  cases (op == [65, 78, 68]) <;> cases (op == [79, 82]) <;> cases (rtrS a == 0) <;> cases (rtrS a == 1) <;> rfl
theorem rof_tv {t : Int} (h : t = 0 ∨ t = 1 ∨ t = 2) : rofV t = tvS t := by rcases h with rfl | rfl | rfl <;> rfl
theorem rnt_nt {t : Int} (h : t = 0 ∨ t = 1 ∨ t = 2) : rntS t = ntS t ∧ (ntS t = 0 ∨ ntS t = 1 ∨ ntS t = 2) := by rcases h with rfl | rfl | rfl <;> exact ⟨rfl, by decide⟩
theorem ran_an {t u : Int} (h : t = 0 ∨ t = 1 ∨ t = 2) (k : u = 0 ∨ u = 1 ∨ u = 2) : ranS t u = anS t u ∧ (anS t u = 0 ∨ anS t u = 1 ∨ anS t u = 2) := by rcases h with rfl | rfl | rfl <;> rcases k with rfl | rfl | rfl <;> exact ⟨rfl, by decide⟩
theorem ror_or {t u : Int} (h : t = 0 ∨ t = 1 ∨ t = 2) (k : u = 0 ∨ u = 1 ∨ u = 2) : rntS (ranS (rntS t) (rntS u)) = orS t u ∧ (orS t u = 0 ∨ orS t u = 1 ∨ orS t u = 2) := by rcases h with rfl | rfl | rfl <;> rcases k with rfl | rfl | rfl <;> exact ⟨rfl, by decide⟩
theorem gd_bool {v : Val} (h : gd v = true) (hk : ¬ rtrS v = 2) : v = tvS (rtrS v) := by
  simp only [gd, Bool.and_eq_true] at h
  have hr := h.1
  unfold rtrS at hk ⊢
  rcases e : (v.kind == 1) with _ | _ <;> rw [e] at hk
  · exact absurd rfl hk
  · have k1 : v.kind = 1 := by simpa using e
    have k0 : ¬ v.kind = 0 := by omega
    unfold right at hr
    rw [if_neg k0, if_pos k1] at hr
    simp only [decide_eq_true_eq] at hr
    obtain ⟨n1, n2, n3⟩ := hr
    obtain ⟨kk, n, sc, s⟩ := v
    simp only at k1 n1 n2 n3
    subst k1; subst n2; subst n3
    rcases n1 with rfl | rfl <;> rfl
theorem rvE_2 {g : EvT} {fu : Nat} {x : NdC} {y1 : Option Bool} {rl : Nat} {rc : List PV} (h : x.k = 2) : rvE g fu x y1 rl rc = rvL g fu x y1 rl rc 1 := by
  unfold rvE rv2
  rw [h, show ((2 : Int) == 0) = false from rfl, show ((2 : Int) == 1) = false from rfl, show ((2 : Int) == 2) = true from rfl, cond_false, cond_false, cond_true, cond_true]
theorem rvE_4 {g : EvT} {fu : Nat} {x : NdC} {y1 : Option Bool} {rl : Nat} {rc : List PV} (h : x.k = 4) : rvE g fu x y1 rl rc = rvL g fu x y1 rl rc 1 := by
  unfold rvE rv2
  rw [h, show ((4 : Int) == 0) = false from rfl, show ((4 : Int) == 1) = false from rfl, show ((4 : Int) == 2) = false from rfl, show ((4 : Int) == 4) = true from rfl, cond_false, cond_false, cond_false, cond_true, cond_true]
theorem rvE_6 {g : EvT} {fu : Nat} {x : NdC} {y1 : Option Bool} {rl : Nat} {rc : List PV} (h : x.k = 6) : rvE g fu x y1 rl rc = rvL g fu x y1 rl rc 1 := by
  unfold rvE rv2
  rw [h, show ((6 : Int) == 0) = false from rfl, show ((6 : Int) == 1) = false from rfl, show ((6 : Int) == 2) = false from rfl, show ((6 : Int) == 4) = false from rfl, show ((6 : Int) == 6) = true from rfl, cond_false, cond_false, cond_false, cond_false, cond_true]
theorem rvE_3 {g : EvT} {fu : Nat} {x : NdC} {y1 : Option Bool} {rl : Nat} {rc : List PV} (h : x.k = 3) : rvE g fu x y1 rl rc = rvL g fu x y1 rl rc 2 := by
  unfold rvE rv2 rv3
  rw [h, show ((3 : Int) == 0) = false from rfl, show ((3 : Int) == 1) = false from rfl, show ((3 : Int) == 2) = false from rfl, show ((3 : Int) == 4) = false from rfl, show ((3 : Int) == 6) = false from rfl, show ((3 : Int) == 3) = true from rfl, cond_false, cond_false, cond_false, cond_false, cond_false, cond_true]
theorem rvE_0 {g : EvT} {fu : Nat} {x : NdC} {y1 : Option Bool} {rl : Nat} {rc : List PV} (h : x.k = 0) : rvE g fu x y1 rl rc = plvO x.v fun v => some (resC (v, 0)) := by
  unfold rvE
  rw [h, show ((0 : Int) == 0) = true from rfl, cond_true]
theorem rvE_1 {g : EvT} {fu : Nat} {x : NdC} {y1 : Option Bool} {rl : Nat} {rc : List PV} (h : x.k = 1) : rvE g fu x y1 rl rc = bif !decide (x.slot < 0) then bif decide ((rl : Int) ≤ x.slot) then some (resC (vnull, 0)) else at4 rl rc x.slot fun v => plvO v fun w => some (resC (w, 0)) else some (resC (vnull, 0)) := by
  unfold rvE
  rw [h, show ((1 : Int) == 0) = false from rfl, show ((1 : Int) == 1) = true from rfl, cond_false, cond_true]
theorem rvE_no {g : EvT} {fu : Nat} {x : NdC} {y1 : Option Bool} {rl : Nat} {rc : List PV} (h0 : (x.k == 0) = false) (h1 : (x.k == 1) = false) (h2 : (x.k == 2) = false) (h4 : (x.k == 4) = false) (h6 : (x.k == 6) = false) (h3 : (x.k == 3) = false) : rvE g fu x y1 rl rc = some (resC (vnull, 2)) := by
  unfold rvE rv2 rv3
  rw [h0, h1, h2, h4, h6, h3]
  simp only [cond_false]
section
variable {d : Nat} {row : List Val} {o1 : List UInt8} {j1 a1 n1 c1 : Int} {s1 : List UInt8} {b1 : Bool} {t1 u1 : Int} {z1 : Option Bool} {l : List NdC} {y1 : Option Bool} {r : Val × Int} {m : Nat}
theorem rv_eq2 (h : evB (evS d row) ⟨2, o1, j1, ⟨a1, n1, c1, s1⟩, b1, t1, u1, z1, l.length, ndC l⟩ l row = some r) : rvE (evGd d) (m + 3) ⟨2, o1, j1, ⟨a1, n1, c1, s1⟩, b1, t1, u1, z1, l.length, ndC l⟩ y1 row.length (rowC row) = some (resC r) := by
  have h : (bif decide ((l.length : Int) < 1) then some (vnull, 2) else l[0]?.bind fun y => (evS d row y).bind fun a => bif !(a.2 == 0) then some (vnull, a.2) else some (unS o1 a.1)) = some r := h
  rw [rvE_2 rfl]
  unfold rvL
  rcases hl : decide ((l.length : Int) < 1) with _ | _ <;> rw [hl] at h
  rotate_left
  · injection h with h; subst h; rfl
  · obtain ⟨y, hy, h⟩ := Option.bind_eq_some_iff.1 (show (l[0]?.bind fun y => (evS d row y).bind fun a => bif !(a.2 == 0) then some (vnull, a.2) else some (unS o1 a.1)) = some r from h)
    obtain ⟨a, ha, h⟩ := Option.bind_eq_some_iff.1 h
    have ga := evS_ok ha
    unfold rvLoop
    rw [cond_false, loopF_succ, rv_s2, at11_0 hy, evGd_row, ha, Option.bind_some]
    rcases he : (a.2 == 0) with _ | _ <;> rw [he] at h
    · rw [nt_f] at h ⊢; injection h with h; subst h; rfl
    rw [nt_t] at h ⊢
    · injection h with h; subst h
      rw [roomA_eq (by omega), loopF_succ, rv_e2]
      obtain ⟨t1, t2⟩ := gd_kind1 ga
      simp only [gd, Bool.and_eq_true] at ga
      unfold unS sub0 nuB
      rw [← t1, (rnt_nt t2).1, rof_tv (rnt_nt t2).2, ga.2, show inI 0 = true from rfl]
      cases (o1 == [78, 79, 84]) <;> cases (o1 == [45]) <;> cases (a.1.kind == 0) <;> cases (a.1.kind == 2) <;> cases (a.1.kind == 3) <;> cases (ansE (0 - a.1.n) == 0) <;> rfl
theorem rv_eq4 (h : evB (evS d row) ⟨4, o1, j1, ⟨a1, n1, c1, s1⟩, b1, t1, u1, z1, l.length, ndC l⟩ l row = some r) : rvE (evGd d) (m + 3) ⟨4, o1, j1, ⟨a1, n1, c1, s1⟩, b1, t1, u1, z1, l.length, ndC l⟩ y1 row.length (rowC row) = some (resC r) := by
  have h : (bif decide ((l.length : Int) < 1) then some (vnull, 2) else l[0]?.bind fun y => (evS d row y).bind fun a => bif !(a.2 == 0) then some (vnull, a.2) else some (boV (!((a.1.kind == 0) == b1)), 0)) = some r := h
  rw [rvE_4 rfl]
  unfold rvL
  rcases hl : decide ((l.length : Int) < 1) with _ | _ <;> rw [hl] at h
  rotate_left
  · injection h with h; subst h; rfl
  · obtain ⟨y, hy, h⟩ := Option.bind_eq_some_iff.1 (show (l[0]?.bind fun y => (evS d row y).bind fun a => bif !(a.2 == 0) then some (vnull, a.2) else some (boV (!((a.1.kind == 0) == b1)), 0)) = some r from h)
    obtain ⟨a, ha, h⟩ := Option.bind_eq_some_iff.1 h
    unfold rvLoop
    rw [cond_false, loopF_succ, rv_s4, at11_0 hy, evGd_row, ha, Option.bind_some]
    rcases he : (a.2 == 0) with _ | _ <;> rw [he] at h
    · rw [nt_f] at h ⊢; injection h with h; subst h; rfl
    rw [nt_t] at h ⊢
    injection h with h; subst h
    rw [roomA_eq (by omega), loopF_succ, rv_e4]
    cases (a.1.kind == 0) <;> cases b1 <;> rfl
theorem rv_eq6 (h : evB (evS d row) ⟨6, o1, j1, ⟨a1, n1, c1, s1⟩, b1, t1, u1, z1, l.length, ndC l⟩ l row = some r) : rvE (evGd d) (m + 3) ⟨6, o1, j1, ⟨a1, n1, c1, s1⟩, b1, t1, u1, z1, l.length, ndC l⟩ y1 row.length (rowC row) = some (resC r) := by
  have h : (bif decide ((l.length : Int) < 1) then some (vnull, 2) else l[0]?.bind fun y => (evS d row y).bind fun a => bif !(a.2 == 0) then some (vnull, a.2) else some (castS a.1 t1 u1)) = some r := h
  rw [rvE_6 rfl]
  unfold rvL
  rcases hl : decide ((l.length : Int) < 1) with _ | _ <;> rw [hl] at h
  rotate_left
  · injection h with h; subst h; rfl
  · obtain ⟨y, hy, h⟩ := Option.bind_eq_some_iff.1 (show (l[0]?.bind fun y => (evS d row y).bind fun a => bif !(a.2 == 0) then some (vnull, a.2) else some (castS a.1 t1 u1)) = some r from h)
    obtain ⟨a, ha, h⟩ := Option.bind_eq_some_iff.1 h
    have ga := gd_ok (evS_ok ha)
    unfold rvLoop
    rw [cond_false, loopF_succ, rv_s6, at11_0 hy, evGd_row, ha, Option.bind_some]
    rcases he : (a.2 == 0) with _ | _ <;> rw [he] at h
    · rw [nt_f] at h ⊢; injection h with h; subst h; rfl
    rw [nt_t] at h ⊢
    · injection h with h; subst h
      rw [roomA_eq (by omega), loopF_succ, rv_e6]
      unfold caO
      rw [show (inI a.1.n && decide (a.1.s.length ≤ 1000000)) = true from ga]
      rfl
theorem rv_eq3 (h : evB (evS d row) ⟨3, o1, j1, ⟨a1, n1, c1, s1⟩, b1, t1, u1, z1, l.length, ndC l⟩ l row = some r) : rvE (evGd d) (m + 3) ⟨3, o1, j1, ⟨a1, n1, c1, s1⟩, b1, t1, u1, z1, l.length, ndC l⟩ y1 row.length (rowC row) = some (resC r) := by
  have h : (bif decide ((l.length : Int) < 2) then some (vnull, 2) else biS (evS d row) o1 l) = some r := h
  rw [rvE_3 rfl]
  unfold rvL
  rcases hl : decide ((l.length : Int) < 2) with _ | _ <;> rw [hl] at h
  rotate_left
  · injection h with h; subst h; rfl
  have h : biS (evS d row) o1 l = some r := h
  simp only [decide_eq_false_iff_not] at hl
  obtain ⟨p, q, t, rfl⟩ : ∃ p q t, l = p :: q :: t := by
    match l, hl with
    | p :: q :: t, _ => exact ⟨p, q, t, rfl⟩
    | [p], hl => simp at hl
    | [], hl => simp at hl
  unfold rvLoop
  rw [cond_false, loopF_succ, rv_s30, at11_0 (l := p :: q :: t) rfl, evGd_row]
  -- the first kid
  have hp : ∃ a, evS d row p = some a := by
    unfold biS at h
    rcases hop : (o1 == [65, 78, 68] || o1 == [79, 82]) with _ | _ <;> rw [hop] at h
    · have h : ((alS (evS d row) [p, q]).bind _) = some r := h
      obtain ⟨w, hw, _⟩ := Option.bind_eq_some_iff.1 h
      rw [alS] at hw
      obtain ⟨a, ha, _⟩ := Option.bind_eq_some_iff.1 hw
      exact ⟨a, ha⟩
    · have h : lgS (evS d row) o1 (p :: q :: t) = some r := h
      unfold lgS at h
      obtain ⟨y, hy, h⟩ := Option.bind_eq_some_iff.1 h
      injection hy with hy
      subst hy
      obtain ⟨a, ha, _⟩ := Option.bind_eq_some_iff.1 h
      exact ⟨a, ha⟩
  obtain ⟨a, ha⟩ := hp
  have ga := evS_ok ha
  obtain ⟨ta, ta2⟩ := gd_kind1 ga
  rw [ha, Option.bind_some]
  rcases hop : (o1 == [65, 78, 68] || o1 == [79, 82]) with _ | _
  · -- a comparison, or reckoning
    have h : ((alS (evS d row) [p, q]).bind fun r => bif !(r.2 == 0) then some (vnull, r.2) else r.1[0]?.bind fun a => r.1[1]?.bind fun b => bif (cpS o1 a b).2 then some ((cpS o1 a b).1, 0) else some (arS o1 a b)) = some r := by
      unfold biS at h
      rw [hop] at h
      exact h
    rw [alS, ha, Option.bind_some] at h
    rcases he : (a.2 == 0) with _ | _ <;> rw [he] at h
    · rw [nt_f, Option.bind_some] at h
      have h : (bif !(a.2 == 0) then some (vnull, a.2) else none) = some r := by
        dsimp only at h
        rw [he, nt_f] at h ⊢
        exact h
      rw [he, nt_f] at h
      rw [nt_f]
      injection h with h; subst h; rfl
    rw [nt_t] at h ⊢
    have o' : (o1 == [65, 78, 68]) = false ∧ (o1 == [79, 82]) = false := by simpa using hop
    rw [sc30_eq, o'.1, o'.2, Bool.false_and, Bool.false_and, Bool.or_self, cond_false, roomA_eq (by omega), loopF_succ, rv_s31, at11_1 (l := p :: q :: t) rfl, evGd_row]
    rw [alS] at h
    rcases hb : evS d row q with _ | b
    · rw [hb] at h; cases h
    rw [hb] at h
    have gb := evS_ok hb
    rw [Option.bind_some]
    rcases he2 : (b.2 == 0) with _ | _
    · rw [nt_f]
      simp only [Option.bind_some, he2, Bool.not_false, cond_true] at h
      injection h with h; subst h; rfl
    have e2 : b.2 = 0 := by simpa using he2
    rw [nt_t]
    simp only [Option.bind_some, he2, Bool.not_true, cond_false, alS] at h
    rw [roomA_eq (by omega), loopF_succ, rv_e3, o'.1, o'.2]
    unfold c3O
    rw [ga, gb]
    have h : (bif (cpS o1 a.1 b.1).2 then some ((cpS o1 a.1 b.1).1, (0 : Int)) else some (arS o1 a.1 b.1)) = some r := h
    unfold cpS at h
    rw [cond_false, cond_false, Bool.and_self, cond_true]
    dsimp only
    rcases hh : hoS o1 (cmpS a.1 b.1).1 with _ | hv <;> rw [hh] at h
    · injection h with h; subst h; rfl
    · rcases hc : (cmpS a.1 b.1).2 with _ | _ <;> rw [hc] at h
      · injection h with h; subst h; rfl
      · injection h with h; subst h
        cases hv <;> rfl
  · have h : lgS (evS d row) o1 (p :: q :: t) = some r := by
      unfold biS at h
      rw [hop] at h
      exact h
    have h : ((evS d row p).bind fun a => bif !(a.2 == 0) then some (vnull, a.2) else bif (o1 == [65, 78, 68] && trS a.1 == 0) || (o1 == [79, 82] && trS a.1 == 1) then some (tvS (trS a.1), 0) else
      (evS d row q).bind fun b => bif !(b.2 == 0) then some (vnull, b.2) else bif o1 == [65, 78, 68] then some (tvS (anS (trS a.1) (trS b.1)), 0) else some (tvS (orS (trS a.1) (trS b.1)), 0)) = some r := h
    rw [ha, Option.bind_some] at h
    rcases he : (a.2 == 0) with _ | _ <;> rw [he] at h
    · rw [nt_f] at h ⊢; injection h with h; subst h; rfl
    rw [nt_t] at h ⊢
    rw [sc30_eq, ← ta]
    rcases hs : ((o1 == [65, 78, 68] && trS a.1 == 0) || (o1 == [79, 82] && trS a.1 == 1)) with _ | _ <;> rw [hs] at h
    · rw [cond_false] at h ⊢
      rw [roomA_eq (by omega), loopF_succ, rv_s31, at11_1 (l := p :: q :: t) rfl, evGd_row]
      obtain ⟨b, hb, h⟩ := Option.bind_eq_some_iff.1 h
      have gb := evS_ok hb
      obtain ⟨tb, tb2⟩ := gd_kind1 gb
      rw [hb, Option.bind_some]
      rcases he2 : (b.2 == 0) with _ | _ <;> rw [he2] at h
      · rw [nt_f] at h ⊢; injection h with h; subst h; rfl
      rw [nt_t] at h ⊢
      rw [roomA_eq (by omega), loopF_succ, rv_e3, ← ta, ← tb]
      rcases ho : (o1 == [65, 78, 68]) with _ | _ <;> rw [ho] at h hop <;> simp only [cond_true, cond_false, Bool.false_or] at h hop ⊢
      · rw [hop]
        injection h with h; subst h
        rw [(ror_or ta2 tb2).1, rof_tv (ror_or ta2 tb2).2]
        rfl
      · injection h with h; subst h
        rw [(ran_an ta2 tb2).1, rof_tv (ran_an ta2 tb2).2]
    · rw [cond_true] at h ⊢
      have e2 : ¬ rtrS a.1 = 2 := by
        intro e
        rw [ta, e] at hs
        simp at hs
      have e3 : tvS (trS a.1) = a.1 := by rw [ta]; exact (gd_bool ga e2).symm
      rw [e3] at h
      injection h with h; subst h; rfl
theorem rv_eq {k1 : Int} (h : evB (evS d row) ⟨k1, o1, j1, ⟨a1, n1, c1, s1⟩, b1, t1, u1, z1, l.length, ndC l⟩ l row = some r) : rvE (evGd d) (m + 3) ⟨k1, o1, j1, ⟨a1, n1, c1, s1⟩, b1, t1, u1, z1, l.length, ndC l⟩ y1 row.length (rowC row) = some (resC r) := by
  by_cases k0 : k1 = 0
  · subst k0
    have h : (bif decide (s1.length ≤ 1000000) then some (rtV ⟨a1, n1, c1, s1⟩, (0 : Int)) else none) = some r := h
    rw [rvE_0 rfl]
    unfold plvO
    rcases hs : decide (s1.length ≤ 1000000) with _ | _ <;> rw [hs] at h
    · cases h
    · injection h with h; subst h
      show some (resC (Go.Proofs.YtelckbphbkebkaaGreatDoor.plain _, 0)) = _
      rw [rt_plain]
  by_cases k2 : k1 = 2
  · subst k2; exact rv_eq2 h
  by_cases k3 : k1 = 3
  · subst k3; exact rv_eq3 h
  by_cases k4 : k1 = 4
  · subst k4; exact rv_eq4 h
  by_cases k6 : k1 = 6
  · subst k6; exact rv_eq6 h
  have b0 : (k1 == 0) = false := by simpa using k0
  have b2 : (k1 == 2) = false := by simpa using k2
  have b3 : (k1 == 3) = false := by simpa using k3
  have b4 : (k1 == 4) = false := by simpa using k4
  have b6 : (k1 == 6) = false := by simpa using k6
  by_cases k1' : k1 = 1
  · subst k1'
    have h : (bif colB j1 row then some (colS j1 row, (0 : Int)) else none) = some r := h
    rcases hc : colB j1 row with _ | _ <;> rw [hc] at h
    · cases h
    injection h with h; subst h
    rw [rvE_1 rfl]
    dsimp only
    unfold colS
    by_cases h1 : j1 < 0
    · rw [decide_eq_true h1]; rfl
    · rw [decide_eq_false h1]
      by_cases h2 : (row.length : Int) ≤ j1
      · rw [decide_eq_true h2]; rfl
      · rw [decide_eq_false h2]
        obtain ⟨i, rfl⟩ : ∃ i : Nat, j1 = (i : Int) := ⟨j1.toNat, by omega⟩
        have hg := List.getElem?_eq_getElem (l := row) (i := i) (by omega)
        simp only [Bool.not_false, cond_true, cond_false]
        rw [at4_eq hg]
        unfold colB at hc
        rw [Int.toNat_natCast, List.getD_eq_getElem?_getD, hg] at hc ⊢
        unfold plvO
        rw [show decide ((row[i]).s.length ≤ 1000000) = true from hc]
        show some (resC (Go.Proofs.YtelckbphbkebkaaGreatDoor.plain _, 0)) = _
        rw [rt_plain]; rfl
  · have b1' : (k1 == 1) = false := by simpa using k1'
    have hk : kdI k1 = -1 := by unfold kdI; rw [b0, b1', b2, b4, b6, b3]; rfl
    rw [rvE_no b0 b1' b2 b4 b6 b3]
    unfold evB at h
    dsimp only at h
    rw [hk] at h
    injection h with h; subst h; rfl
end
theorem ok_lRv {g : EvT} (hg : FOK NGc Wc 36 (p_ev g)) : AllOK NGc Wc (lRv g) := allOK_cons hg (allOK_cons ok_plV (allOK_cons ok_rtr (allOK_cons ok_rofv (allOK_cons ok_RCast (allOK_cons ok_rnt (allOK_cons ok_ran (allOK_cons (fok_d ok_RDiff) (allOK_cons ok_rC3 (allOK_cons ok_hd (allOK_cons ok_rar allOK_nil))))))))))
theorem ok_rev : ∀ d, FOK NGc Wc 36 (p_ev (evGd d))
  | 0 => by
    refine fok wokc allOK_nil (h := ⟨[], []⟩) Tryz.func36 rfl (by decide) (p_ev_nat _) ?_
    intro xs r h
    simp only [p_ev] at h
    split at h
    · rename_i k1 o1 j1 a1 n1 c1 s1 b1 t1 u1 z1 m1 d1 y1 rl rc
      obtain ⟨q, h1, h⟩ := Option.bind_eq_some_iff.1 h
      obtain ⟨row, _, h1⟩ := Option.bind_eq_some_iff.1 h1
      cases h1
    · cases h
  | d + 1 => by
    have ih := ok_rev d
    refine fok wokc (ok_lRv ih) (h := hRv) Tryz.func36 rfl (by decide) (p_ev_nat _) ?_
    intro xs r h
    simp only [p_ev] at h
    split at h
    · rename_i k1 o1 j1 a1 n1 c1 s1 b1 t1 u1 z1 m1 d1 y1 rl rc
      obtain ⟨q, h1, h⟩ := Option.bind_eq_some_iff.1 h
      injection h with h
      subst h
      obtain ⟨row, hr, h2⟩ := Option.bind_eq_some_iff.1 h1
      clear h1
      obtain ⟨rfl, rfl⟩ := decRow hr
      rw [evS] at h2
      obtain ⟨l, hd, h3⟩ := Option.bind_eq_some_iff.1 h2
      obtain ⟨e1, e2⟩ := decNd (n := m1) (c := d1) hd
      subst e1; subst e2
      obtain ⟨q', h4, h5⟩ := Option.bind_eq_some_iff.1 h3
      rcases hq : gd q'.1 with _ | _ <;> rw [hq] at h5
      · cases h5
      · injection h5 with h5; subst h5
        exact ⟨0 + 3, (rv_raw (evGd d) (0 + 3) k1 o1 j1 a1 n1 c1 s1 b1 t1 u1 z1 _ _ y1 _ _).trans (rv_eq h4)⟩
    · cases h

end Go.Proofs.YtelckbphbkebkaaGreatDoor
