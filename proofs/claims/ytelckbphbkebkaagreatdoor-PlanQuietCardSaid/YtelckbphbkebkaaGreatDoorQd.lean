/-
  Plans: the law PlanQuiet.
-/
import Derived.Test.YtelckbphbkebkaaGreatDoorQc
import Derived.Test.YtelckbphbkebkaaGreatDoorOn
set_option linter.unusedVariables false
set_option linter.unusedSimpArgs false
set_option maxRecDepth 100000
namespace Go.Proofs.YtelckbphbkebkaaGreatDoor
open Go.ChangeShapes Go.WideShapes Go.ChangeAt Go.RowKit Go.Deep

noncomputable def lPq (gz : SzT) (gq gr : QuT) (g : EvT) : List (FuncId × PFn) := [(21, p_true0), (8, p_sz gz), (9, p_sm), (22, p_qu gq), (23, p_qu gr), (10, p_ev g)]
def pqE (gz : SzT) (gq gr : QuT) (g : EvT) (x : NdC) (rl : Nat) (rc : List PV) : Option PV :=
  (gz x 60).bind fun s => bif !decide (2000 < s) then (smO rl rc fun b => bif !b then some (.bool true) else (gq x).bind fun a => (gr x).bind fun b => bif !(a == b) then some (.bool false) else (g x rl rc).bind fun r => (gr x).bind fun b2 => some (.bool (bif !b2 then true else r.2 == 0))) else some (.bool true)
theorem pq_raw (gz : SzT) (gq gr : QuT) (g : EvT) (k1 : Int) (o1 : List UInt8) (j1 a1 n1 c1 : Int) (s1 : List UInt8) (b1 : Bool) (t1 u1 : Int) (z1 : Option Bool) (m1 : Nat) (d1 : List PV) (y1 : Option Bool) (rl : Nat) (rc : List PV) : prun (en (lPq gz gq gr g)) ⟨[], []⟩ 0 false Tryz.f6 [.agg [.int .i64 k1, .str o1, .int .i64 j1, .int .i64 a1, .int .i64 n1, .int .i64 c1, .str s1, .bool b1, .int .i64 t1, .int .i64 u1, .sl z1 11 m1 d1], .sl y1 4 rl rc] = pqE gz gq gr g ⟨k1, o1, j1, ⟨a1, n1, c1, s1⟩, b1, t1, u1, z1, m1, d1⟩ rl rc := by kernel_rfl
theorem ok_lPq : AllOK NGc Wc (lPq (szG 61) (quS 61) (rqS 61) (evGd 61)) := allOK_cons ok_first24 (allOK_cons (ok_sz 61) (allOK_cons ok_sm (allOK_cons (ok_qu 61) (allOK_cons (ok_rqu 61) (allOK_cons (ok_ev 61) allOK_nil)))))
theorem pq_law {D : Nat} {x : NdC} {row : List Val} (hx : wfN D x) (hr : ∀ v ∈ row, inI v.n = true) : pqE (szG 61) (quS 61) (rqS 61) (evGd 61) x row.length (rowC row) = some (.bool true) := by
  obtain ⟨s, h1, _, _, h2⟩ := sz_ok 61 D 60 x hx (by omega) (by omega) (by omega)
  obtain ⟨s', h1', _, _, h2'⟩ := sz_ok2 61 D 60 x hx (by omega) (by omega) (by omega)
  rw [h1] at h1'
  injection h1' with e
  subst e
  unfold pqE
  rw [show szG 61 x 60 = some s from h1, Option.bind_some]
  by_cases hs : 2000 < s
  · rw [decide_eq_true hs]; rfl
  rw [decide_eq_false hs, nt_f]
  unfold smO
  rw [decRow_of, Option.bind_some]
  rcases hm : smS row with _ | _
  · rfl
  dsimp only
  rw [nt_t]
  have hrow : okR row := fun v hv => ⟨hr v hv, by
    unfold smS at hm
    simp only [Bool.and_eq_true, List.all_eq_true] at hm
    have := hm.2 v hv
    unfold smV at this
    simpa using this⟩
  obtain ⟨r, he, _⟩ := ev_some hrow 61 x (h2 (by omega))
  obtain ⟨b, q1, q2⟩ := qu_both 61 x (h2' (by omega))
  rw [q1, Option.bind_some, q2, Option.bind_some, show (b == b) = true by cases b <;> rfl, nt_t, evGd_row, he, Option.bind_some, Option.bind_some]
  cases b
  · rfl
  · rw [quiet_ok 61 row x r q1 he]; rfl
theorem planQuietLaw (W : World) (v0 v1 : Value) {x : NdC} {row : List Val} {D : Nat} (hx : wfN D x) (hr : ∀ v ∈ row, inI v.n = true) (a0 : ArgU W (ndP x) v0) (a1 : ArgU W (.sl none 4 row.length (rowC row)) v1) (hW : Wc W) :
    Calls Tryz.prog 6 #[v0, v1] W fun e W' => e = .returned (.bool true) ∧ Below W.heap.size W W' :=
  law_runA (vs := [v0, v1]) (xs := [ndP x, .sl none 4 row.length (rowC row)]) (fuel := 0) (h := ⟨[], []⟩) wokc ok_lPq Tryz.func6 hW (wc_size hW) (.cons a0 (.cons a1 .nil))
    ((pq_raw (szG 61) (quS 61) (rqS 61) (evGd 61) x.k x.op x.slot x.v.kind x.v.n x.v.scale x.v.s x.nt x.t x.u x.nl x.n x.c none row.length (rowC row)).trans (pq_law hx hr))
end Go.Proofs.YtelckbphbkebkaaGreatDoor
