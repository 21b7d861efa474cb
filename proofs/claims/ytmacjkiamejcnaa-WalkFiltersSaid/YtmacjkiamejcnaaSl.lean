/-
  Slices that are written in place: what a call that writes into one block leaves.
-/
import Derived.Test.YtmacjkiamejcnaaPGw
import Derived.Laws.IdiomCopy
set_option linter.unusedVariables false
set_option linter.unusedSimpArgs false
set_option maxRecDepth 100000
namespace Go.Proofs.Ytmacjkiamejcnaa
open Go.RowKit Go.Lib

/-- all but block b is as it was; b has its size, its type, its frozen range -/
structure Upd (b : Nat) (w w' : World) : Prop where
  os : w'.os = w.os
  tape : w'.tape = w.tape
  output : w'.output = w.output
  size : w'.heap.size = w.heap.size
  block : ∀ k, k ≠ b → w'.heap[k]? = w.heap[k]?
  row : ∀ cur e fz, w.heap[b]? = some (.cells cur e fz) → ∃ cur', w'.heap[b]? = some (.cells cur' e fz) ∧ cur'.size = cur.size
theorem Upd.refl (b : Nat) (w : World) : Upd b w w := ⟨rfl, rfl, rfl, rfl, fun _ _ => rfl, fun cur _ _ h => ⟨cur, h, rfl⟩⟩
theorem Upd.trans {b : Nat} {u v w : World} (h : Upd b u v) (k : Upd b v w) : Upd b u w := ⟨k.os.trans h.os, k.tape.trans h.tape, k.output.trans h.output, k.size.trans h.size, fun x hx => (k.block x hx).trans (h.block x hx), fun cur e fz q => by
  obtain ⟨c1, h1, h2⟩ := h.row cur e fz q
  obtain ⟨c2, k1, k2⟩ := k.row c1 e fz h1
  exact ⟨c2, k1, k2.trans h2⟩⟩
theorem Upd.drew {b : Nat} {u v : World} (h : Upd b u v) : Upd b u v.drew := ⟨h.os, h.tape, h.output, h.size, h.block, h.row⟩
theorem Upd.setCell (b o : Nat) (v : Value) (w : World) : Upd b w (w.setCell ⟨b, o, none⟩ v) where
  os := rfl
  tape := rfl
  output := rfl
  size := by simp [World.setCell]
  block := fun k hk => by simp [World.setCell, Array.getElem?_modify, Ne.symm hk]
  row := fun cur e fz h => ⟨cur.setIfInBounds o v, by simp [World.setCell, Array.getElem?_modify, h], by simp⟩
theorem Upd.setCells (b : Nat) : ∀ (vs : List Value) (o : Nat) (w : World), Upd b w (w.setCells b o vs)
  | [], _, w => Upd.refl b w
  | v :: r, o, w => (Upd.setCell b o v w).trans (Upd.setCells b r (o + 1) _)
theorem Upd.step {b : Nat} {u v : World} (h : Upd b u v) (o : Nat) (vs : List Value) : Upd b u (v.setCells b o vs) := h.trans (Upd.setCells b vs o v)
theorem Upd.move {M : Mem} {b : Nat} {w' : World} (h : Upd b M.w w') (h0 : M.U b = 0) : Move M ⟨w', M.U, M.y⟩ (some b) where
  os := h.os
  tape := h.tape
  output := h.output
  size := Nat.le_of_eq h.size.symm
  block := fun k _ hk => ⟨h.block k (fun e => hk (by rw [e])), rfl⟩
  le := ⟨fun k o u h1 h2 => by
    by_cases e : k = b
    · subst e; rw [h0] at h2; omega
    · exact ⟨(World.cell?_of_block (w := M.w) (a := ⟨k, o, none⟩) (h.block k e)).trans h1, h2⟩, rfl, fun k n ⟨arr, e, h1, h2⟩ => by
    by_cases q : k = b
    · subst q
      obtain ⟨c, k1, k2⟩ := h.row _ _ _ h1
      exact ⟨c, e, k1, by omega⟩
    · exact ⟨arr, e, (h.block k q).trans h1, h2⟩⟩
/-- a row by its cells -/
theorem rowP_cells {w : World} {b : Nat} {e : TypeId} {cur : Array Value} {arr : List Value} (h : w.heap[b]? = some (.cells cur e (0, 0))) (hc : ∀ j u, arr[j]? = some u → w.cell? ⟨b, j, none⟩ = some u) : RowP w b e arr := by
  refine ⟨cur.toList.drop arr.length, ?_⟩
  rw [h]
  congr 2
  have hg : ∀ j u, arr[j]? = some u → cur[j]? = some u := fun j u hu => by
    have := hc j u hu
    rwa [cell_of_row _ _ _ cur e (0, 0) h] at this
  apply Array.ext_getElem?
  intro j
  have e2 : (arr ++ cur.toList.drop arr.length).toArray[j]? = (arr ++ cur.toList.drop arr.length)[j]? := List.getElem?_toArray
  rw [e2]
  rcases hj : arr[j]? with _ | u
  · have hl : arr.length ≤ j := List.getElem?_eq_none_iff.1 hj
    rw [List.getElem?_append_right hl, List.getElem?_drop, show arr.length + (j - arr.length) = j by omega, Array.getElem?_toList]
  · rw [List.getElem?_append_left (List.getElem?_eq_some_iff.1 hj).1, hj]
    exact hg j u hj
theorem rowP_fz {w : World} {b : Nat} {e : TypeId} {arr : List Value} (h : RowP w b e arr) (o : Nat) : w.frozen? ⟨b, o, none⟩ = false := by
  obtain ⟨tl, h⟩ := h
  simp [World.frozen?, h]
theorem sized_some {w : World} {b k : Nat} (h : Sized w b k) {o : Nat} (ho : o < k) : (w.cell? ⟨b, o, none⟩).isSome = true := by
  obtain ⟨arr, e, h1, h2⟩ := h
  rw [cell_of_row _ _ _ arr e (0, 0) h1, Array.getElem?_eq_getElem (by omega)]
  rfl
theorem sized_fz {w : World} {b k : Nat} (h : Sized w b k) (o : Nat) : w.frozen? ⟨b, o, none⟩ = false := by
  obtain ⟨arr, e, h1, h2⟩ := h
  simp [World.frozen?, h1]
theorem Upd.sized {b : Nat} {w w' : World} (h : Upd b w w') {k : Nat} (hs : Sized w b k) : Sized w' b k := by
  obtain ⟨arr, e, h1, h2⟩ := hs
  obtain ⟨c, k1, k2⟩ := h.row _ _ _ h1
  exact ⟨c, e, k1, by omega⟩
theorem Upd.rowP {b : Nat} {w w' : World} (h : Upd b w w') {e : TypeId} {arr arr' : List Value} (hr : RowP w b e arr) (hc : ∀ j u, arr'[j]? = some u → w'.cell? ⟨b, j, none⟩ = some u) : RowP w' b e arr' := by
  obtain ⟨tl, hr⟩ := hr
  obtain ⟨c, k1, k2⟩ := h.row _ _ _ hr
  exact rowP_cells k1 hc
theorem relT0 {M : Mem} {vs : List Value} (h : RelT M [] vs) : vs = [] := by simpa only [RelT] using h
theorem del_row {w : World} {b : Nat} {e : TypeId} {arr : List Value} (hr : RowP w b e arr) {n i j : Nat} (hl : arr.length = n) (hij : i < j) (hj : j ≤ n) (rest : List Value) : RowP ((w.drew.setCells b (0 + i * 1) (arr.drop j)).setCells b (0 + (i + (n - j))) rest) b e (arr.take i ++ arr.drop j) := by
  have hU : Upd b w ((w.drew.setCells b (0 + i * 1) (arr.drop j)).setCells b (0 + (i + (n - j))) rest) := ((Upd.refl b w).drew.step _ _).step _ _
  refine hU.rowP hr fun t u hu => ?_
  have hlt : t < i + (n - j) := by
    have := (List.getElem?_eq_some_iff.1 hu).1
    simp only [List.length_append, List.length_take, List.length_drop] at this
    omega
  rw [World.cell?_setCells_out b _ _ _ _ (fun _ _ => .inl (by show t < _; omega))]
  by_cases ht : t < i
  · rw [World.cell?_setCells_out b _ _ _ _ (fun _ _ => .inl (by show t < _; omega))]
    rw [List.getElem?_append_left (by simp; omega), List.getElem?_take, if_pos ht] at hu
    exact hr.cell hu
  · obtain ⟨q, rfl⟩ : ∃ q, t = i + q := ⟨t - i, by omega⟩
    rw [List.getElem?_append_right (by simp; omega)] at hu
    simp only [List.length_take, show min i arr.length = i by omega, Nat.add_sub_cancel_left] at hu
    obtain ⟨hq, hu⟩ := List.getElem?_eq_some_iff.1 hu
    have := World.cell?_setCells_in b (arr.drop j) (0 + i * 1) w.drew (fun x hx => by
      have hx' : i + x < arr.length := by simp at hx; omega
      rw [show 0 + i * 1 + x = i + x by omega]
      rw [show w.drew.cell? ⟨b, i + x, none⟩ = w.cell? ⟨b, i + x, none⟩ from rfl, hr.cell (List.getElem?_eq_getElem hx')]; rfl) q hq
    rw [show i + q = 0 + i * 1 + q by omega, this, hu]
end Go.Proofs.Ytmacjkiamejcnaa
