/-
  PROVED: whatever 'refitlaw08.TreePlays' is given (any script), it returns true and leaves the memory that was there as it was. CONDITIONS: none beyond the row's own.
-/
import Derived.Test.YtmacjkiamejcnaaWd
import Derived.Test.YtmacjkiamejcnaaWr
set_option linter.unusedVariables false
set_option linter.unusedSimpArgs false
set_option maxRecDepth 100000
namespace Go.Proofs.Ytmacjkiamejcnaa
open Go.ChangeShapes Go.WideShapes Go.ChangeAt Go.RowKit
theorem op_trod {H : Type} {enc : TypeId × Value → H} {w : World} {base : Nat} {sp : Nat → Bool} {held : Bool} {n : Nat} {cs : List Value} {x : DataW H × List MemPlace}
    (h : DataW.trod enc Try.prog w base sp held n 73 cs = some x) : ∃ p : OpC, RelU w (ocs p) cs := by
  obtain ⟨xs, k, _, _, hl, hxl, hf⟩ := DataW.trod_struct Try.underlying73 h
  rw [show Try.prog.cellsOf 73 = 3 by kernel_rfl] at hl
  match cs, hl with
  | [v0, v1, v2], _ =>
    match xs, hxl with
    | [y0, y1, y2], _ =>
      have g0 : DataW.trod enc Try.prog w base sp held k 3 [v0] = some y0 := hf 0 _ rfl
      have g1 : DataW.trod enc Try.prog w base sp held k 9 [v1] = some y1 := hf 1 _ rfl
      have g2 : DataW.trod enc Try.prog w base sp held k 3 [v2] = some y2 := hf 2 _ rfl
      obtain ⟨a, e0, _, _⟩ := DataW.trod_int Try.underlying3 g0
      obtain ⟨s, e1, _, _⟩ := DataW.trod_string Try.underlying9 g1
      obtain ⟨b, e2, _, _⟩ := DataW.trod_int Try.underlying3 g2
      obtain rfl := List.head_eq_of_cons_eq e0
      obtain rfl := List.head_eq_of_cons_eq e1
      obtain rfl := List.head_eq_of_cons_eq e2
      exact ⟨(a, s.data.toList, b), .of fun M => ⟨_, _, rfl, rfl, rfl, _, _, rfl, rfl, by simp [RelD], _, _, rfl, rfl, rfl, rfl⟩⟩
theorem open_ops {H : Type} {enc : TypeId × Value → H} {W W0 : World} {r : Reach} {b0 base : Nat} {sp : Nat → Bool} {held : Bool} {v : Value} {d : DataW H} {ps : List MemPlace}
    (hval : Value.okWide Try.prog W0 r b0 71 v) (hd : DataW.Trod enc Try.prog W base sp held 71 v d ps) : ∃ l : List OpC, ArgU W (.sl none 3 l.length (l.flatMap ocs)) v := by
  obtain ⟨A, n, c, rfl⟩ := okWide_slice Try.underlying71 hval
  obtain ⟨fuel, hf⟩ := hd
  obtain ⟨A', c', l, e, wl, B, hB⟩ := open_slR (f := ocs) (Pa := fun _ => True) (size := 3) (by omega) Try.underlying71 (by kernel_rfl) (fun _ => rfl) (fun n cs' y hn h => by
    obtain ⟨p, hp⟩ := op_trod h
    exact ⟨p, trivial, hp⟩) hf
  simp [Value.cells] at e
  obtain ⟨rfl, rfl, rfl⟩ := e
  exact ⟨l, B, hB⟩
end Go.Proofs.Ytmacjkiamejcnaa
namespace Go.Proofs.Ytmacjkiamejcnaa.fnTreePlays
open Go.ChangeShapes Go.WideShapes Go.ChangeAt Go.RowKit

def wargs : Array Value := #[.slice none 0 0]
theorem reads (os : Os) {H : Type} (enc : TypeId × Value → H) : ∃ places, DataW.whole enc Try.prog ((laidWorld os).forCall (fun _ _ => 0) ⟨#[], wargs, []⟩).memory Try.f7.params.toList Rows.treePlaysSpec.vars false wargs.toList 8 = some ([.nil], [], places) :=
  ⟨[], by kernel_rfl⟩

set_option maxRecDepth 100000 in
theorem contract (H : Type) (enc : TypeId × Value → H) (W : World) (base : Nat) (args : Array Value) (ds gs : List (DataW H)) (before : List MemPlace)
    (hval : ∀ (j : Nat) t v, Try.f7.params[j]? = some t → args[j]? = some v → Value.okWide Try.prog W .any base t v)
    (hW : DataW.Whole enc Try.prog Try.f7.params.toList Rows.treePlaysSpec.vars false W args.toList ds gs before) :
    Calls Try.prog 7 args W fun e W' => ∃ v, e = .returned v ∧ Rows.treePlaysSpec.post enc Try.prog Try.f7 false true false false W args v W' := by
  have hW' := hW
  obtain ⟨p, q, hA0, hV, rfl, hfz, hnd⟩ := hW
  have hA : DataW.TrodAll enc Try.prog W 0 (fun _ => true) true Try.f7.params.toList args.toList ds p := hA0
  rw [Try.params7] at hA hval
  obtain ⟨v0, vs0, d0, ds0, p0, q0, hargs, rfl, rfl, h0, r0⟩ := trodAll_cons hA
  obtain ⟨rfl, rfl, rfl⟩ := trodAll_nil r0
  obtain rfl : args = #[v0] := by cases args; simp_all
  obtain ⟨rfl, rfl⟩ := trodVars_none hV
  obtain ⟨l, A0⟩ := open_ops (hval 0 71 v0 rfl rfl) h0
  clear hA0
  refine (law_runE (vs := [v0]) ok_enL rfl (fun _ => rfl) Try.func7 (xs := [.sl none 3 l.length (l.flatMap ocs)]) (.cons A0 .nil) (pl_true l none)).mono fun e W' ⟨he, hg⟩ => ?_
  subst he
  exact ⟨_, rfl, law_post (by kernel_rfl) (of_decide_eq_true (by kernel_rfl)) Try.underlying4 rfl hW' rfl rfl rfl rfl hg⟩

set_option maxRecDepth 100000 in
theorem lifted (os : Os) (started : os.Started) (H : Type) (enc : TypeId × Value → H) (F : Stop.Interp) :
    ReturnsInHanded {} Try.checked os 7 .any ((OpenSpec.ofChange Rows.treePlaysSpec).preRow enc Try.prog Try.f7 Rows.treePlaysRow.domain false Rows.treePlaysRow.laid) (((OpenSpec.ofChange Rows.treePlaysSpec).at F).post enc Try.prog Try.f7 false true false false) := by
  obtain ⟨places, hx⟩ := reads os enc
  refine returnsInHanded_of_row (C := Try.checked) (s := OpenSpec.ofChange Rows.treePlaysSpec) own started (by kernel_rfl) Try.func7
    (witness_row_at (enc := enc) (C := Try.checked) false (laidWorld os) wargs rfl (by kernel_rfl) (by kernel_rfl) (by kernel_rfl)
      (OpenSpec.preRow_of_cond 8 hx (by kernel_rfl) (fun k hk => by cases hk) (by kernel_rfl) (laidWorld_met os wargs))) ?_
  intro W base args ds gs before hval hW _ _ _ hL _ _
  exact contract H enc W base args ds gs before hval hW

theorem said : Rows.TreePlaysSaid :=
  OpenClaim.holds_of_cond 7 Try.f7 rfl rfl rfl rfl rfl rfl rfl ⟨rfl, rfl, rfl, rfl, rfl⟩ rfl rfl rfl rfl rfl (by kernel_rfl) Try.func7 (by kernel_rfl)
    (of_decide_eq_true (by kernel_rfl)) (by unfold Func.isWrapper; first | (rw [if_pos (by decide +kernel)]; kernel_rfl) | (rw [if_neg (by decide +kernel)]; exact ⟨rfl, rfl⟩))
    (fun os started H enc _ F => by rw [OpenClaim.pre_eq_preRow]; exact lifted os started H enc F)
end Go.Proofs.Ytmacjkiamejcnaa.fnTreePlays
