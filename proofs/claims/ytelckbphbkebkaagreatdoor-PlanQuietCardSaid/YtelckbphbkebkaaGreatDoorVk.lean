/-
  Nodes: AND, OR, NOT say together what they ought to (the law EvalLogic in plain terms).
-/
import Derived.Test.YtelckbphbkebkaaGreatDoorVj
set_option linter.unusedVariables false
set_option linter.unusedSimpArgs false
set_option maxRecDepth 100000
namespace Go.Proofs.YtelckbphbkebkaaGreatDoor
open Go.RowKit

theorem gd_kind1 {v : Val} (h : gd v = true) : trS v = rtrS v ∧ (trS v = 0 ∨ trS v = 1 ∨ trS v = 2) := by
  simp only [gd, Bool.and_eq_true] at h
  have hr := h.1
  unfold trS rtrS rtV
  rw [hr]
  simp only [cond_true]
  rcases hk : (v.kind == 1) with _ | _
  · exact ⟨rfl, .inr (.inr rfl)⟩
  · have k1 : v.kind = 1 := by simpa using hk
    have k0 : ¬ v.kind = 0 := by omega
    unfold right at hr
    rw [if_neg k0, if_pos k1] at hr
    simp only [decide_eq_true_eq] at hr
    refine ⟨rfl, ?_⟩
    show v.n = 0 ∨ v.n = 1 ∨ v.n = 2
    omega
theorem trS_tv {t : Int} (h : t = 0 ∨ t = 1 ∨ t = 2) : trS (tvS t) = t := by
  rcases h with rfl | rfl | rfl <;> rfl
theorem not_ev {d : Nat} {row : List Val} {x : NdC} {v : Val} (h : evS d row x = some (v, 0)) : evS (d + 1) row (unN [78, 79, 84] x) = some (tvS (ntS (trS v)), 0) := by
  refine evS_succ d row (x := unN [78, 79, 84] x) (l := [x]) rfl rfl ?_ (gd_tv _)
  show ((evS d row x).bind fun a => bif !(a.2 == 0) then some (vnull, a.2) else some (unS [78, 79, 84] a.1)) = _
  rw [h]; rfl
theorem lg_ev {d : Nat} {row : List Val} {x y : NdC} {v w : Val} (hx : evS d row x = some (v, 0)) (hy : evS d row y = some (w, 0)) (op : List UInt8) (ho : (op == [65, 78, 68] || op == [79, 82]) = true) :
    evS (d + 1) row (twN op x y) = (bif (op == [65, 78, 68] && trS v == 0) || (op == [79, 82] && trS v == 1) then some (tvS (trS v), 0) else bif op == [65, 78, 68] then some (tvS (anS (trS v) (trS w)), 0) else some (tvS (orS (trS v) (trS w)), 0)) := by
  have e : lgS (evS d row) op [x, y] = (bif (op == [65, 78, 68] && trS v == 0) || (op == [79, 82] && trS v == 1) then some (tvS (trS v), 0) else bif op == [65, 78, 68] then some (tvS (anS (trS v) (trS w)), 0) else some (tvS (orS (trS v) (trS w)), 0)) := by
    unfold lgS
    rw [show ([x, y] : List NdC)[0]? = some x from rfl, Option.bind_some, hx, Option.bind_some, show ([x, y] : List NdC)[1]? = some y from rfl, Option.bind_some, hy, Option.bind_some]
    rfl
  have e2 : evB (evS d row) (twN op x y) [x, y] row = lgS (evS d row) op [x, y] := by
    show biS (evS d row) op [x, y] = _
    unfold biS
    rw [ho]; rfl
  obtain ⟨r, hr, ok⟩ : ∃ r, lgS (evS d row) op [x, y] = some r ∧ gd r.1 = true := by
    rw [e]
    cases ((op == [65, 78, 68] && trS v == 0) || (op == [79, 82] && trS v == 1))
    · cases (op == [65, 78, 68])
      · exact ⟨_, rfl, gd_tv _⟩
      · exact ⟨_, rfl, gd_tv _⟩
    · exact ⟨_, rfl, gd_tv _⟩
  rw [← e, hr]
  exact evS_succ d row (x := twN op x y) (l := [x, y]) rfl rfl (e2.trans hr) ok
theorem and_ev {d : Nat} {row : List Val} {x y : NdC} {v w : Val} (hx : evS d row x = some (v, 0)) (hy : evS d row y = some (w, 0)) (hv : gd v = true) : evS (d + 1) row (twN [65, 78, 68] x y) = some (tvS (anS (trS v) (trS w)), 0) := by
  rw [lg_ev hx hy _ rfl]
  rcases (gd_kind1 hv).2 with e | e | e <;> rw [e] <;> rfl
theorem or_ev {d : Nat} {row : List Val} {x y : NdC} {v w : Val} (hx : evS d row x = some (v, 0)) (hy : evS d row y = some (w, 0)) (hv : gd v = true) (hw : gd w = true) : evS (d + 1) row (twN [79, 82] x y) = some (tvS (orS (trS v) (trS w)), 0) := by
  rw [lg_ev hx hy _ rfl]
  rcases (gd_kind1 hv).2 with e | e | e <;> rw [e] <;> rcases (gd_kind1 hw).2 with e2 | e2 | e2 <;> rw [e2] <;> rfl
theorem el_body {x y : NdC} {row : List Val} {f : Nat} (hx : Sm f x) (hy : Sm f y) (hr : okR row) (hf : f = 51) : elB (evGd 60) x y row.length (rowC row) = some (.bool true) := by
  subst hf
  obtain ⟨a, ha, ga⟩ := ev_some hr 51 x hx
  obtain ⟨b, hb, gb⟩ := ev_some hr 51 y hy
  unfold elB
  simp only [evGd_row]
  rw [evS_le ha 9, Option.bind_some, evS_le hb 9, Option.bind_some]
  by_cases h : (a.2 == 0 && b.2 == 0) = true
  · simp only [Bool.and_eq_true, beq_iff_eq] at h
    obtain ⟨va, ea⟩ := a
    obtain ⟨vb, eb⟩ := b
    obtain ⟨rfl, rfl⟩ : ea = 0 ∧ eb = 0 := h
    have xa := fun k => evS_le ha k
    have xb := fun k => evS_le hb k
    have np := not_ev (xa 6)
    have nq := not_ev (xb 6)
    have p := and_ev (xa 8) (xb 8) ga
    have q := not_ev (or_ev np nq (gd_tv _) (gd_tv _))
    have r := or_ev (xa 8) (not_ev (xa 7)) ga (gd_tv _)
    rw [p, Option.bind_some, q, Option.bind_some, r, Option.bind_some]
    obtain ⟨t1, t2⟩ := gd_kind1 ga
    obtain ⟨u1, u2⟩ := gd_kind1 gb
    have ga' : gd va = true := ga
    rw [← t1, ← u1]
    rcases t2 with e | e | e <;> rcases u2 with e2 | e2 | e2 <;> (have e : trS va = _ := e) <;> (have e2 : trS vb = _ := e2) <;> rw [e, e2] <;> rfl
  · rw [show (!(a.2 == 0) || !(b.2 == 0)) = true by revert h; cases (a.2 == 0) <;> cases (b.2 == 0) <;> simp]; rfl
theorem el_law {D D2 : Nat} {x y : NdC} {row : List Val} (hx : wfN D x) (hy : wfN D2 y) (hr : ∀ v ∈ row, inI v.n = true) : elE (szG 51) (evGd 60) x y row.length (rowC row) = some (.bool true) := by
  obtain ⟨a, ha, _, _, sa⟩ := sz_ok 51 D 50 x hx (by omega) (by omega) (by omega)
  obtain ⟨b, hb, _, _, sb⟩ := sz_ok 51 D2 50 y hy (by omega) (by omega) (by omega)
  unfold elE
  rw [show szG 51 x 50 = some a from ha, Option.bind_some]
  by_cases h1 : 500 < a
  · rw [decide_eq_true h1]; rfl
  · rw [decide_eq_false h1, Bool.not_false, cond_true, show szG 51 y 50 = some b from hb, Option.bind_some]
    by_cases h2 : 500 < b
    · rw [decide_eq_true h2]; rfl
    · rw [decide_eq_false h2, Bool.not_false, cond_true]
      unfold smO
      rw [decRow_of, Option.bind_some]
      rcases hs : smS row with _ | _
      · rfl
      · simp only [Bool.not_true, cond_false]
        refine el_body (sa (by omega)) (sb (by omega)) (fun v hv => ⟨hr v hv, ?_⟩) rfl
        unfold smS at hs
        simp only [Bool.and_eq_true, List.all_eq_true] at hs
        have := hs.2 v hv
        unfold smV at this
        simpa using this

end Go.Proofs.YtelckbphbkebkaaGreatDoor
