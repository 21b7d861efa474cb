/-
  A slice of values that comes in.
-/
import Derived.Test.YtclhnfalebiieaaDoorRow
import Derived.Test.YtclhnfalebiieaaDoorLawCode
import Derived.Deep.Slices
set_option linter.unusedVariables false
set_option linter.unusedSimpArgs false
set_option maxRecDepth 100000
namespace Go.Proofs.YtclhnfalebiieaaDoor
open Go.ChangeShapes Go.WideShapes Go.ChangeAt Go.RowKit Go.Deep

instance : Inhabited Val := ⟨vnull⟩
theorem cellsVal : Tryd.prog.cellsOf 29 = 4 := by kernel_rfl
theorem cellsInt : Tryd.prog.cellsOf 3 = 1 := by kernel_rfl
theorem cellsKind : Tryd.prog.cellsOf 27 = 1 := by kernel_rfl
theorem cellsString : Tryd.prog.cellsOf 9 = 1 := by kernel_rfl

/-- one value -/
theorem val_of_trod {H : Type} {enc : TypeId × Value → H} {W : World} {base : Nat} {sp : Nat → Bool} {held : Bool} {n : Nat} {cs : List Value} {x : DataW H × List MemPlace}
    (h : DataW.trod enc Tryd.prog W base sp held n 29 cs = some x) : ∃ v : Val, cs = v.cells ∧ v.in64 := by
  obtain ⟨xs, k, _, _, hl, hxl, hf⟩ := DataW.trod_struct Tryd.underlying29 h
  rw [cellsVal] at hl
  match cs, hl with
  | [v0, v1, v2, v3], _ =>
    match xs, hxl with
    | [y0, y1, y2, y3], _ =>
      have g0 : DataW.trod enc Tryd.prog W base sp held k 27 [v0] = some y0 := hf 0 _ rfl
      have g1 : DataW.trod enc Tryd.prog W base sp held k 3 [v1] = some y1 := hf 1 _ rfl
      have g2 : DataW.trod enc Tryd.prog W base sp held k 3 [v2] = some y2 := hf 2 _ rfl
      have g3 : DataW.trod enc Tryd.prog W base sp held k 9 [v3] = some y3 := hf 3 _ rfl
      obtain ⟨a, e0, _, _⟩ := DataW.trod_int Tryd.underlying27 g0
      obtain ⟨b, e1, _, hb⟩ := DataW.trod_int Tryd.underlying3 g1
      obtain ⟨c, e2, _, _⟩ := DataW.trod_int Tryd.underlying3 g2
      obtain ⟨s, e3, _, _⟩ := DataW.trod_string Tryd.underlying9 g3
      obtain rfl := List.head_eq_of_cons_eq e0
      obtain rfl := List.head_eq_of_cons_eq e1
      obtain rfl := List.head_eq_of_cons_eq e2
      obtain rfl := List.head_eq_of_cons_eq e3
      exact ⟨⟨a, b, c, s.data.toList⟩, by simp [Val.cells], bounds_i64 hb⟩

theorem open_vals {H : Type} {enc : TypeId × Value → H} {W W0 : World} {r : Reach} {b0 base : Nat} {held : Bool} {v : Value} {d : DataW H} {ps : List MemPlace}
    (hval : Value.okWide Tryd.prog W0 r b0 22 v) (hd : DataW.Trod enc Tryd.prog W base (fun _ => true) held 22 v d ps) :
    ∃ A n c l, v = .slice A n c ∧ Sl W 4 A n c (vcs l) ∧ ∀ x ∈ l, x.in64 := by
  obtain ⟨A, n, c, rfl⟩ := okWide_slice Tryd.underlying22 hval
  obtain ⟨fuel, hf⟩ := hd
  rcases open_slice Tryd.underlying22 hf with ⟨h, hx⟩ | ⟨a, len, cap, m, k, D, Pl, hcs, hb, hlc, hcm, hm, hx, hcell⟩
  · simp [Value.cells] at h
    obtain ⟨rfl, rfl, rfl⟩ := h
    exact ⟨none, 0, 0, [], rfl, Sl.zero _ _ _ _ (by decide), by simp⟩
  · simp [Value.cells] at hcs
    obtain ⟨rfl, rfl, rfl⟩ := hcs
    simp only [if_true] at hm
    have each : ∀ i, i < n → ∃ x : Val, (∀ j, j < 4 → W.cell? (a.add (i * 4 + j)) = x.cells[j]?) ∧ x.in64 := by
      intro i hi
      obtain ⟨cs', h1, h2⟩ := hcell i (by omega)
      rw [cellsVal] at h1
      obtain ⟨x, rfl, hx⟩ := val_of_trod h2
      obtain ⟨_, _, h3⟩ := World.cells?_some h1
      exact ⟨x, fun j hj => by rw [← h3 j hj, add_add], hx⟩
    obtain ⟨X, hX⟩ := choose_lt each
    refine ⟨some a, n, c, (List.range n).map X, rfl, ⟨by rw [vcs_length]; simp, hlc, hcm, fun hn => ?_⟩, fun x hx => ?_⟩
    · have h00 := (hX 0 hn).1 0 (by omega)
      obtain ⟨b, off, spot⟩ := a
      have hspot : spot = none := by
        have := World.cell?_spot (v := .int .i64 (X 0).kind) h00
        simpa [Addr.add] using this
      subst hspot
      refine ⟨b, off, rfl, block_lt_of_cell (a := (⟨b, off, none⟩ : Addr).add 0) h00, fun j u hu => ?_⟩
      have hjl : j < n * 4 := by
        have := (List.getElem?_eq_some_iff.1 hu).1
        rw [vcs_length] at this
        simpa using this
      have hk : ((List.range n).map X)[j / 4]? = some (X (j / 4)) := by
        rw [List.getElem?_map, List.getElem?_range (by omega)]; rfl
      have hg := vcs_get hk (j % 4) (by omega)
      rw [show j / 4 * 4 + j % 4 = j from by omega, hu] at hg
      have h1 := (hX (j / 4) (by omega)).1 (j % 4) (by omega)
      rw [← hg, show j / 4 * 4 + j % 4 = j from by omega, add_plain] at h1
      exact h1
    · obtain ⟨i, hi, rfl⟩ := List.mem_map.1 hx
      exact (hX i (by simpa using hi)).2
end Go.Proofs.YtclhnfalebiieaaDoor
