/-
  PROVED: whatever two values and two types 'refitlaw04.CastFits' is given, it returns true and leaves the memory that was there as it was. CONDITIONS: none beyond the row's own (some variables hold what the program's text lays: tied by the card).
-/
import Derived.Test.YtllpobcecingiaaDoorCrow
import Derived.Test.YtllpobcecingiaaDoorCf
set_option linter.unusedVariables false
set_option linter.unusedSimpArgs false
set_option maxRecDepth 100000
namespace Go.Proofs.YtllpobcecingiaaDoor.fnCastFits
open Go.ChangeShapes Go.WideShapes Go.ChangeAt Go.RowKit

theorem open_val2 {H : Type} {enc : TypeId × Value → H} {W W0 : World} {r : Reach} {b0 base : Nat} {sp : Nat → Bool} {held : Bool} {v : Value} {d : DataW H} {ps : List MemPlace}
    (hval : Value.okWide Tryd.prog W0 r b0 34 v) (hd : DataW.Trod enc Tryd.prog W base sp held 34 v d ps) :
    ∃ a b : Val, v = .agg #[.int .i64 a.kind, .int .i64 a.n, .int .i64 a.scale, .string ⟨a.s.toArray⟩, .int .i64 b.kind, .int .i64 b.n, .int .i64 b.scale, .string ⟨b.s.toArray⟩] ∧ inI a.n = true ∧ inI b.n = true := by
  simp only [Value.okWide, Tryd.underlying34] at hval
  obtain ⟨cs, rfl, hs, _⟩ := hval
  rw [show Tryd.prog.cellsOf 34 = 8 by kernel_rfl] at hs
  obtain ⟨l⟩ := cs
  obtain ⟨fuel, hf⟩ := hd
  obtain ⟨xs, k, _, _, hl, hxl, hfi⟩ := DataW.trod_array Tryd.underlying34 (show DataW.trod enc Tryd.prog W base sp held fuel 34 l = some (d, ps) from hf)
  match l, hs with
  | [v0, v1, v2, v3, v4, v5, v6, v7], _ =>
    have one : ∀ (u0 u1 u2 u3 : Value) (y : DataW H × List MemPlace), DataW.trod enc Tryd.prog W base sp held k 24 [u0, u1, u2, u3] = some y → ∃ x : Val, [u0, u1, u2, u3] = [.int .i64 x.kind, .int .i64 x.n, .int .i64 x.scale, .string ⟨x.s.toArray⟩] ∧ inI x.n = true := by
      intro u0 u1 u2 u3 y hy
      obtain ⟨ys, k', _, _, _, hyl, hyi⟩ := DataW.trod_struct Tryd.underlying24 hy
      match ys, hyl with
      | [y0, y1, y2, y3], _ =>
        have g0 : DataW.trod enc Tryd.prog W base sp held k' 22 [u0] = some y0 := hyi 0 _ rfl
        have g1 : DataW.trod enc Tryd.prog W base sp held k' 3 [u1] = some y1 := hyi 1 _ rfl
        have g2 : DataW.trod enc Tryd.prog W base sp held k' 3 [u2] = some y2 := hyi 2 _ rfl
        have g3 : DataW.trod enc Tryd.prog W base sp held k' 9 [u3] = some y3 := hyi 3 _ rfl
        obtain ⟨a, e0, _, _⟩ := DataW.trod_int Tryd.underlying22 g0
        obtain ⟨b, e1, _, hb⟩ := DataW.trod_int Tryd.underlying3 g1
        obtain ⟨c, e2, _, _⟩ := DataW.trod_int Tryd.underlying3 g2
        obtain ⟨s, e3, _, _⟩ := DataW.trod_string Tryd.underlying9 g3
        obtain rfl := List.head_eq_of_cons_eq e0
        obtain rfl := List.head_eq_of_cons_eq e1
        obtain rfl := List.head_eq_of_cons_eq e2
        obtain rfl := List.head_eq_of_cons_eq e3
        exact ⟨⟨a, b, c, s.data.toList⟩, by simp, inI_iff.2 (bounds_i64 hb)⟩
    have cell4 : Tryd.prog.cellsOf 24 = 4 := by kernel_rfl
    obtain ⟨z0, hz0⟩ : ∃ z, xs[0]? = some z := ⟨_, List.getElem?_eq_getElem (by omega)⟩
    obtain ⟨z1, hz1⟩ : ∃ z, xs[1]? = some z := ⟨_, List.getElem?_eq_getElem (by omega)⟩
    have h0 := (hfi 0 (by decide)).trans hz0
    have h1 := (hfi 1 (by decide)).trans hz1
    rw [cell4] at h0 h1
    obtain ⟨a, ea, ia⟩ := one v0 v1 v2 v3 _ h0
    obtain ⟨b, eb, ib⟩ := one v4 v5 v6 v7 _ h1
    simp only [List.cons.injEq, and_true] at ea eb
    obtain ⟨rfl, rfl, rfl, rfl⟩ := ea
    obtain ⟨rfl, rfl, rfl, rfl⟩ := eb
    exact ⟨a, b, rfl, ia, ib⟩

def wargs : Array Value := #[.agg #[.int .i64 0, .int .i64 0, .int .i64 0, .string ⟨#[]⟩, .int .i64 0, .int .i64 0, .int .i64 0, .string ⟨#[]⟩], .agg #[.int .i64 0, .int .i64 0], .agg #[.int .i64 0, .int .i64 0]]
theorem reads (os : Os) {H : Type} (enc : TypeId × Value → H) : ∃ places, DataW.whole enc Tryd.prog ((laidWorld os).forCall (fun _ _ => 0) ⟨#[], wargs, []⟩).memory Tryd.f5.params.toList Rows.castFitsSpec.vars false wargs.toList 8 = some ([.agg [.agg [.lit (.int .i64 0), .lit (.int .i64 0), .lit (.int .i64 0), .lit (.string [])], .agg [.lit (.int .i64 0), .lit (.int .i64 0), .lit (.int .i64 0), .lit (.string [])]], .agg [.lit (.int .i64 0), .lit (.int .i64 0)], .agg [.lit (.int .i64 0), .lit (.int .i64 0)]], [], places) :=
  ⟨[], by kernel_rfl⟩

set_option maxRecDepth 100000 in
theorem contract (H : Type) (enc : TypeId × Value → H) (W : World) (base : Nat) (args : Array Value) (ds gs : List (DataW H)) (before : List MemPlace)
    (hval : ∀ (j : Nat) t v, Tryd.f5.params[j]? = some t → args[j]? = some v → Value.okWide Tryd.prog W .any base t v)
    (hW : DataW.Whole enc Tryd.prog Tryd.f5.params.toList Rows.castFitsSpec.vars false W args.toList ds gs before) (hL : laidMetH Tryd.prog Rows.castFitsRow.laid W) :
    Calls Tryd.prog 5 args W fun e W' => ∃ v, e = .returned v ∧ Rows.castFitsSpec.post enc Tryd.prog Tryd.f5 false true false false W args v W' := by
  have hW' := hW
  obtain ⟨p, q, hA0, hV, rfl, hfz, hnd⟩ := hW
  have hA : DataW.TrodAll enc Tryd.prog W 0 (fun _ => true) true Tryd.f5.params.toList args.toList ds p := hA0
  rw [Tryd.params5] at hA hval
  obtain ⟨v0, vs0, d0, ds0, p0, q0, hargs, rfl, rfl, h0, r0⟩ := trodAll_cons hA
  obtain ⟨v1, vs1, d1, ds1, p1, q1, rfl, rfl, rfl, h1, r1⟩ := trodAll_cons r0
  obtain ⟨v2, vs2, d2, ds2, p2, q2, rfl, rfl, rfl, h2, r2⟩ := trodAll_cons r1
  obtain ⟨rfl, rfl, rfl⟩ := trodAll_nil r2
  obtain rfl : args = #[v0, v1, v2] := by cases args; simp_all
  obtain ⟨rfl, rfl⟩ := trodVars_none hV
  obtain ⟨x1, y1, rfl, w1, w2⟩ := open_val2 (hval 0 34 v0 rfl rfl) h0
  obtain ⟨a2, b2, rfl⟩ := open_typ (hval 1 26 v1 rfl rfl) h1
  obtain ⟨a3, b3, rfl⟩ := open_typ (hval 2 26 v2 rfl rfl) h2
  clear hA0
  refine (castFitsLaw W x1 y1 a2 b2 a3 b3 w1 w2 (wc_of_laid hL)).mono fun e W' ⟨he, hg⟩ => ?_
  subst he
  exact ⟨_, rfl, law_post (by kernel_rfl) (of_decide_eq_true (by kernel_rfl)) Tryd.underlying4 rfl hW' rfl rfl rfl rfl hg⟩

set_option maxRecDepth 100000 in
theorem lifted (os : Os) (started : os.Started) (H : Type) (enc : TypeId × Value → H) (F : Stop.Interp) :
    ReturnsInHanded {} Tryd.checked os 5 .any ((OpenSpec.ofChange Rows.castFitsSpec).preRow enc Tryd.prog Tryd.f5 Rows.castFitsRow.domain false Rows.castFitsRow.laid) (((OpenSpec.ofChange Rows.castFitsSpec).at F).post enc Tryd.prog Tryd.f5 false true false false) := by
  obtain ⟨places, hx⟩ := reads os enc
  refine returnsInHanded_of_row (C := Tryd.checked) (s := OpenSpec.ofChange Rows.castFitsSpec) own started (by kernel_rfl) Tryd.func5
    (witness_row_at (enc := enc) (C := Tryd.checked) false (laidWorld os) wargs rfl (by kernel_rfl) (by kernel_rfl) (by kernel_rfl)
      (OpenSpec.preRow_of_cond 8 hx (by kernel_rfl) (fun k hk => by cases hk) (by kernel_rfl) (laidWorld_met os wargs))) ?_
  intro W base args ds gs before hval hW _ _ _ hL _ _
  exact contract H enc W base args ds gs before hval hW hL

theorem said : Rows.CastFitsSaid :=
  OpenClaim.holds_of_cond 5 Tryd.f5 rfl rfl rfl rfl rfl rfl rfl ⟨rfl, rfl, rfl, rfl, rfl⟩ rfl rfl rfl rfl rfl (by kernel_rfl) Tryd.func5 (by kernel_rfl)
    (of_decide_eq_true (by kernel_rfl)) (by unfold Func.isWrapper; first | (rw [if_pos (by decide +kernel)]; kernel_rfl) | (rw [if_neg (by decide +kernel)]; exact ⟨rfl, rfl⟩))
    (fun os started H enc _ F => by rw [OpenClaim.pre_eq_preRow]; exact lifted os started H enc F)

theorem plain (f : FuncId) (fn : Func) (hf : Tryd.pinned.checked.prog.funcNamed "refit/refitlaw04.CastFits" = some f) (hfn : Tryd.pinned.checked.prog.funcs[f]? = some fn) :
    true = Tryd.pinned.checked.prog.looks [] ∧ ∀ (j : Nat) t, fn.params[j]? = some t → Tryd.pinned.checked.prog.wantsStandIn t = false := by
  obtain rfl : f = 5 := Option.some.inj ((show Tryd.prog.funcNamed "refit/refitlaw04.CastFits" = some 5 by kernel_rfl).symm.trans hf) |>.symm
  obtain rfl : fn = Tryd.f5 := (Option.some.inj (Tryd.func5.symm.trans hfn)).symm
  refine ⟨by kernel_rfl, fun j t ht => ?_⟩
  rw [Tryd.params5] at ht
  have hm := Array.mem_of_getElem? ht
  simp only [List.mem_toArray, List.mem_cons, List.mem_nil_iff, or_false, or_self] at hm
  rcases hm with rfl | rfl
  · exact (show Tryd.prog.wantsStandIn 34 = false by kernel_rfl)
  · exact (show Tryd.prog.wantsStandIn 26 = false by kernel_rfl)

theorem card : Rows.CastFitsCardSaid :=
  Claim7.holds_tied_plain_at .later [] _ _ _ _ said (fun _ h => by cases h) (by kernel_rfl) (fun _ h => by cases h) castFits_row_tie rfl ⟨rfl, rfl⟩ (by kernel_rfl) rfl plain (by kernel_rfl)
end Go.Proofs.YtllpobcecingiaaDoor.fnCastFits
