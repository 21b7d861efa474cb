/-
  Arguments that come in: nodes, rows.
-/
import Derived.Test.YtelckbphbkebkaaGreatDoorOp
import Derived.Test.YtelckbphbkebkaaGreatDoorVk
import Derived.Test.YtelckbphbkebkaaGreatDoorCrow
set_option linter.unusedVariables false
set_option linter.unusedSimpArgs false
set_option maxRecDepth 100000
namespace Go.Proofs.YtelckbphbkebkaaGreatDoor
open Go.ChangeShapes Go.WideShapes Go.ChangeAt Go.RowKit Go.Deep

theorem val_trod {H : Type} {enc : TypeId × Value → H} {w : World} {base : Nat} {sp : Nat → Bool} {held : Bool} {n : Nat} {cs : List Value} {x : DataW H × List MemPlace}
    (h : DataW.trod enc Tryz.prog w base sp held n 25 cs = some x) : ∃ v : Val, inI v.n = true ∧ cs = [.int .i64 v.kind, .int .i64 v.n, .int .i64 v.scale, .string ⟨v.s.toArray⟩] := by
  obtain ⟨xs, k, _, _, hl, hxl, hf⟩ := DataW.trod_struct Tryz.underlying25 h
  rw [show Tryz.prog.cellsOf 25 = 4 by kernel_rfl] at hl
  match cs, hl with
  | [v0, v1, v2, v3], _ =>
    match xs, hxl with
    | [y0, y1, y2, y3], _ =>
      have g0 : DataW.trod enc Tryz.prog w base sp held k 23 [v0] = some y0 := hf 0 _ rfl
      have g1 : DataW.trod enc Tryz.prog w base sp held k 3 [v1] = some y1 := hf 1 _ rfl
      have g2 : DataW.trod enc Tryz.prog w base sp held k 3 [v2] = some y2 := hf 2 _ rfl
      have g3 : DataW.trod enc Tryz.prog w base sp held k 9 [v3] = some y3 := hf 3 _ rfl
      obtain ⟨a, e0, _, _⟩ := DataW.trod_int Tryz.underlying23 g0
      obtain ⟨b, e1, _, hb⟩ := DataW.trod_int Tryz.underlying3 g1
      obtain ⟨c, e2, _, _⟩ := DataW.trod_int Tryz.underlying3 g2
      obtain ⟨s, e3, _, _⟩ := DataW.trod_string Tryz.underlying9 g3
      obtain rfl := List.head_eq_of_cons_eq e0
      obtain rfl := List.head_eq_of_cons_eq e1
      obtain rfl := List.head_eq_of_cons_eq e2
      obtain rfl := List.head_eq_of_cons_eq e3
      exact ⟨⟨a, b, c, s.data.toList⟩, inI_iff.2 (bounds_i64 hb), by simp⟩
theorem typ_trod {H : Type} {enc : TypeId × Value → H} {w : World} {base : Nat} {sp : Nat → Bool} {held : Bool} {n : Nat} {cs : List Value} {x : DataW H × List MemPlace}
    (h : DataW.trod enc Tryz.prog w base sp held n 27 cs = some x) : ∃ a b : Int, cs = [.int .i64 a, .int .i64 b] := by
  obtain ⟨xs, k, _, _, hl, hxl, hf⟩ := DataW.trod_struct Tryz.underlying27 h
  rw [show Tryz.prog.cellsOf 27 = 2 by kernel_rfl] at hl
  match cs, hl with
  | [v0, v1], _ =>
    match xs, hxl with
    | [y0, y1], _ =>
      have g0 : DataW.trod enc Tryz.prog w base sp held k 23 [v0] = some y0 := hf 0 _ rfl
      have g1 : DataW.trod enc Tryz.prog w base sp held k 3 [v1] = some y1 := hf 1 _ rfl
      obtain ⟨a, e0, _, _⟩ := DataW.trod_int Tryz.underlying23 g0
      obtain ⟨b, e1, _, hb⟩ := DataW.trod_int Tryz.underlying3 g1
      obtain rfl := List.head_eq_of_cons_eq e0
      obtain rfl := List.head_eq_of_cons_eq e1
      exact ⟨a, b, rfl⟩
theorem rel_vqs (M : Mem) (v : Val) : RelL M (vqs v) [.int .i64 v.kind, .int .i64 v.n, .int .i64 v.scale, .string ⟨v.s.toArray⟩] := by
  simp only [vqs, RelL, RelD]
  exact ⟨_, _, rfl, rfl, rfl, _, _, rfl, rfl, rfl, _, _, rfl, rfl, rfl, _, _, rfl, rfl, rfl, rfl⟩
theorem node_trod {H : Type} {enc : TypeId × Value → H} {w : World} {base : Nat} {sp : Nat → Bool} {held : Bool} : ∀ (F fuel : Nat) (cs : List Value) (y : DataW H × List MemPlace), fuel ≤ F →
    DataW.trod enc Tryz.prog w base sp held fuel 30 cs = some y → ∃ x : NdC, wfN F x ∧ RelU w x.cs cs
  | 0, fuel, cs, y, hF, h => by
    obtain ⟨xs, k, hk, _⟩ := DataW.trod_struct Tryz.underlying30 h
    omega
  | F + 1, fuel, cs, y, hF, h => by
    obtain ⟨xs, k, hk, _, hl, hxl, hf⟩ := DataW.trod_struct Tryz.underlying30 h
    rw [show Tryz.prog.cellsOf 30 = 11 by kernel_rfl] at hl
    match cs, hl with
    | [v0, v1, v2, v3, v4, v5, v6, v7, v8, v9, v10], _ =>
      match xs, hxl with
      | [y0, y1, y2, y3, y4, y5, y6], _ =>
        have g0 : DataW.trod enc Tryz.prog w base sp held k 22 [v0] = some y0 := hf 0 _ rfl
        have g1 : DataW.trod enc Tryz.prog w base sp held k 9 [v1] = some y1 := hf 1 _ rfl
        have g2 : DataW.trod enc Tryz.prog w base sp held k 3 [v2] = some y2 := hf 2 _ rfl
        have g3 : DataW.trod enc Tryz.prog w base sp held k 25 [v3, v4, v5, v6] = some y3 := (hf 3 _ rfl)
        have g4 : DataW.trod enc Tryz.prog w base sp held k 4 [v7] = some y4 := hf 4 _ rfl
        have g5 : DataW.trod enc Tryz.prog w base sp held k 27 [v8, v9] = some y5 := hf 5 _ rfl
        have g6 : DataW.trod enc Tryz.prog w base sp held k 28 [v10] = some y6 := hf 6 _ rfl
        obtain ⟨k1, e0, _, _⟩ := DataW.trod_int Tryz.underlying22 g0
        obtain ⟨o1, e1, _, _⟩ := DataW.trod_string Tryz.underlying9 g1
        obtain ⟨j1, e2, _, _⟩ := DataW.trod_int Tryz.underlying3 g2
        obtain ⟨v, iv, e3⟩ := val_trod g3
        obtain ⟨b1, e4, _⟩ := DataW.trod_bool Tryz.underlying4 g4
        obtain ⟨t1, u1, e5⟩ := typ_trod g5
        obtain ⟨A, c, l, e6, wl, B, hB⟩ := open_slR (f := NdC.cs) (Pa := wfN F) (size := 11) (by omega) Tryz.underlying28 (by kernel_rfl) NdC.cs_len (fun n cs' y hn h => node_trod F n cs' y (by omega) h) g6
        simp only [List.cons.injEq, and_true] at e0 e1 e2 e3 e4 e5 e6
        obtain ⟨rfl, rfl, rfl, rfl⟩ := e3
        obtain ⟨rfl, rfl⟩ := e5
        subst e0 e1 e2 e4 e6
        refine ⟨⟨k1, o1.data.toList, j1, v, b1, t1, u1, none, l.length, ndC l⟩, ⟨iv, l, rfl, rfl, wl⟩, B, fun U hU => ?_⟩
        have := hB U hU
        simp only [NdC.cs, RelL]
        refine ⟨_, _, rfl, rfl, rfl, _, _, rfl, rfl, ?_, _, _, rfl, rfl, rfl, _, _, rfl, rfl, rfl, _, _, rfl, rfl, rfl, _, _, rfl, rfl, rfl, _, _, rfl, rfl, rfl, _, _, rfl, rfl, rfl, _, _, rfl, rfl, rfl, _, _, rfl, rfl, rfl, _, _, rfl, rfl, this, rfl⟩
        simp [RelD]
/-- an argument that comes in -/
def ArgU (w : World) (p : PV) (v : Value) : Prop := ∃ B : Nat, ∀ U : Nat → Nat, (∀ b, B ≤ U b) → RelD (memU w U) p v
def ArgsU (w : World) (ps : List PV) (vs : List Value) : Prop := ∃ B : Nat, ∀ U : Nat → Nat, (∀ b, B ≤ U b) → RelT (memU w U) ps vs
theorem ArgsU.nil {w : World} : ArgsU w [] [] := ⟨0, fun _ _ => rfl⟩
theorem ArgsU.cons {w : World} {p : PV} {v : Value} {ps : List PV} {vs : List Value} (h : ArgU w p v) (k : ArgsU w ps vs) : ArgsU w (p :: ps) (v :: vs) := by
  obtain ⟨A, h⟩ := h
  obtain ⟨B, k⟩ := k
  exact ⟨max A B, fun U hU => ⟨_, _, rfl, h U fun b => Nat.le_trans (Nat.le_max_left _ _) (hU b), k U fun b => Nat.le_trans (Nat.le_max_right _ _) (hU b)⟩⟩
theorem open_node {H : Type} {enc : TypeId × Value → H} {W W0 : World} {r : Reach} {b0 base : Nat} {sp : Nat → Bool} {held : Bool} {v : Value} {d : DataW H} {ps : List MemPlace}
    (hval : Value.okWide Tryz.prog W0 r b0 30 v) (hd : DataW.Trod enc Tryz.prog W base sp held 30 v d ps) : ∃ x D, wfN D x ∧ ArgU W (ndP x) v := by
  simp only [Value.okWide, Tryz.underlying30] at hval
  obtain ⟨cs, rfl, hs, _⟩ := hval
  obtain ⟨l⟩ := cs
  obtain ⟨fuel, hf⟩ := hd
  obtain ⟨x, hx, B, hB⟩ := node_trod fuel fuel l _ (Nat.le_refl _) hf
  exact ⟨x, fuel, hx, B, fun U hU => ⟨l, rfl, hB U hU⟩⟩
theorem open_rowA {H : Type} {enc : TypeId × Value → H} {W W0 : World} {r : Reach} {b0 base : Nat} {sp : Nat → Bool} {held : Bool} {v : Value} {d : DataW H} {ps : List MemPlace}
    (hval : Value.okWide Tryz.prog W0 r b0 31 v) (hd : DataW.Trod enc Tryz.prog W base sp held 31 v d ps) : ∃ l : List Val, (∀ x ∈ l, inI x.n = true) ∧ ArgU W (.sl none 4 l.length (rowC l)) v := by
  obtain ⟨A, n, c, rfl⟩ := okWide_slice Tryz.underlying31 hval
  obtain ⟨fuel, hf⟩ := hd
  obtain ⟨A', c', l, e, wl, B, hB⟩ := open_slR (f := vqs) (Pa := fun v => inI v.n = true) (size := 4) (by omega) Tryz.underlying31 (by kernel_rfl) vqs_len (fun n cs' y hn h => by
    obtain ⟨v, hv, rfl⟩ := val_trod h
    exact ⟨v, hv, .of fun M => rel_vqs M v⟩) hf
  simp [Value.cells] at e
  obtain ⟨rfl, rfl, rfl⟩ := e
  exact ⟨l, wl, B, hB⟩
theorem law_runA {NG : Nat} {W : World → Prop} (hW : WOK NG W) {l : List (FuncId × PFn)} (hl : AllOK NG W l) {f : FuncId} {fn : Func} (hf : Tryz.prog.funcs[f]? = some fn) {h : Hints} {fuel : Nat} {w : World} {xs : List PV} {vs : List Value}
    (hw : W w) (hng : NG ≤ w.heap.size) (hr : ArgsU w xs vs) (hrun : prun (en l) h fuel false fn xs = some (.bool true)) :
    Calls Tryz.prog f vs.toArray w fun e w' => e = .returned (.bool true) ∧ Below w.heap.size w w' := by
  obtain ⟨B, hB⟩ := hr
  exact law_runU hW hl hf (U := fun _ => B) hw hng (hB _ fun _ => Nat.le_refl _) hrun
theorem evalLogicLaw (W : World) (v0 v1 v2 : Value) {x y : NdC} {row : List Val} {D D' : Nat} (hx : wfN D x) (hy : wfN D' y) (hr : ∀ v ∈ row, inI v.n = true) (a0 : ArgU W (ndP x) v0) (a1 : ArgU W (ndP y) v1) (a2 : ArgU W (.sl none 4 row.length (rowC row)) v2) (hW : Wc W) :
    Calls Tryz.prog 3 #[v0, v1, v2] W fun e W' => e = .returned (.bool true) ∧ Below W.heap.size W W' :=
  law_runA (vs := [v0, v1, v2]) (xs := [ndP x, ndP y, .sl none 4 row.length (rowC row)]) (fuel := 0) (h := ⟨[], []⟩) wokc (ok_lEl 51 60) Tryz.func3 hW (wc_size hW) (.cons a0 (.cons a1 (.cons a2 .nil)))
    ((el_raw (szG 51) (evGd 60) x.k x.op x.slot x.v.kind x.v.n x.v.scale x.v.s x.nt x.t x.u x.nl x.n x.c y.k y.op y.slot y.v.kind y.v.n y.v.scale y.v.s y.nt y.t y.u y.nl y.n y.c none row.length (rowC row)).trans (el_law hx hy hr))
end Go.Proofs.YtelckbphbkebkaaGreatDoor
