/-
  unicode/utf8.ValidString by the shelf's contract, laid at this translation; the two tables out of what the row lists.
-/
import Derived.Test.YtelckbphbkebkaaGreatDoorBase
import Derived.Test.YtelckbphbkebkaaGreatDoorProg
import Derived.Shelf.Unicode.ValidAny
import Derived.Lib.LaidU8
set_option linter.unusedVariables false
set_option linter.unusedSimpArgs false
namespace Go.Proofs.YtelckbphbkebkaaGreatDoor
open Go.RowKit Go.Shelf

def u8ren : Ren :=
  { f := fun x => if x = 196 then 82 else if x = 259 then 117 else 0
    t := fun x => if x = 0 then 0 else if x = 3 then 3 else if x = 4 then 4 else if x = 5 then 5 else if x = 9 then 9 else if x = 12 then 12 else if x = 46 then 140 else if x = 53 then 189 else if x = 119 then 167 else if x = 138 then 169 else if x = 139 then 170 else 0
    g := fun x => if x = 3 then 0 else if x = 4 then 1 else 0 }

set_option maxRecDepth 100000 in
theorem laysValid : Lays.n196 Tryz.prog u8ren := {
  mixed := by kernel_rfl
  f196 := by kernel_rfl
  f259 := by kernel_rfl
  t0 := by kernel_rfl
  a0 := fun _ => by kernel_rfl
  z0 := fun _ => by kernel_rfl
  v0 := fun _ => by kernel_rfl
  t3 := by kernel_rfl
  a3 := fun _ => by kernel_rfl
  z3 := fun _ => by kernel_rfl
  v3 := fun _ => by kernel_rfl
  t4 := by kernel_rfl
  a4 := fun _ => by kernel_rfl
  z4 := fun _ => by kernel_rfl
  v4 := fun _ => by kernel_rfl
  t5 := by kernel_rfl
  a5 := fun _ => by kernel_rfl
  z5 := fun _ => by kernel_rfl
  v5 := fun _ => by kernel_rfl
  t9 := by kernel_rfl
  a9 := fun _ => by kernel_rfl
  z9 := fun _ => by kernel_rfl
  v9 := fun _ => by kernel_rfl
  t12 := by kernel_rfl
  a12 := fun _ => by kernel_rfl
  z12 := fun _ => by kernel_rfl
  v12 := fun _ => by kernel_rfl
  t46 := by kernel_rfl
  a46 := fun _ => by kernel_rfl
  z46 := fun _ => by kernel_rfl
  v46 := fun _ => by kernel_rfl
  t53 := by kernel_rfl
  a53 := fun _ => by kernel_rfl
  z53 := fun _ => by kernel_rfl
  v53 := fun _ => by kernel_rfl
  t119 := by kernel_rfl
  a119 := fun _ => by kernel_rfl
  z119 := fun _ => by kernel_rfl
  t138 := by kernel_rfl
  a138 := fun _ => by kernel_rfl
  z138 := fun _ => by kernel_rfl
  v138 := fun _ => by kernel_rfl
  t139 := by kernel_rfl
  a139 := fun _ => by kernel_rfl
  z139 := fun _ => by kernel_rfl
  v139 := fun _ => by kernel_rfl
  g3 := by kernel_rfl
  g4 := by kernel_rfl }

/-- the tables lie as their text lays them -/
def Tabs (w : World) : Prop := Lib.Utf8Tabs 0 1 w
theorem Tabs.below {w w' : World} (h : Tabs w) (hb : Below w.heap.size w w') : Tabs w' := Utf8Tabs_below h hb
theorem valid_any (l : List UInt8) (w : World) (hl : l.length ≤ 9223372036854775807) (hT : Tabs w) : Calls Tryz.prog 82 #[.string ⟨l.toArray⟩] w (Ret w (.bool (Lib.validD l))) :=
  Any.utf8_ValidString laysValid ⟨l.toArray⟩ w hl hT

theorem gFirst : Tryz.prog.globalNamed "unicode/utf8.first" = some 0 := by kernel_rfl
theorem gAccept : Tryz.prog.globalNamed "unicode/utf8.acceptRanges" = some 1 := by kernel_rfl
theorem gFirstType : (Tryz.prog.globals[0]?).map (·.type) = some 167 := by kernel_rfl
theorem gAcceptType : (Tryz.prog.globals[1]?).map (·.type) = some 170 := by kernel_rfl
theorem cellsU8 : Tryz.prog.cellsOf 5 = 1 := by kernel_rfl
theorem cellsFirst : Tryz.prog.cellsOf 167 = 256 := by kernel_rfl
theorem cellsRange : Tryz.prog.cellsOf 169 = 2 := by kernel_rfl

theorem tabs_of_reads {w : World} (h3 : Lib.VarReads Tryz.prog w "unicode/utf8.first" Lib.firstData) (h4 : Lib.VarReads Tryz.prog w "unicode/utf8.acceptRanges" Lib.acceptData) : Tabs w := by
  have t119 := laysValid.t119
  have t139 := laysValid.t139
  have t138 := laysValid.t138
  have t5 := laysValid.t5
  refine ⟨fun c hc => ?_, fun i hi => ?_⟩
  · obtain ⟨g, t, cs, fuel, p, hg, hty, hvar, hd⟩ := h3
    obtain rfl := Option.some.inj (gFirst.symm.trans hg)
    obtain rfl := Option.some.inj (gFirstType.symm.trans hty)
    have hcs := Lib.cells_of_tab t119 t5 cellsU8 cellsFirst hd
    have := World.var?_cell hg hvar c
    rw [this, ← Array.getElem?_toList, hcs]
    simp [Lib.firstTab, hc]
  · obtain ⟨g, t, cs, fuel, p, hg, hty, hvar, hd⟩ := h4
    obtain rfl := Option.some.inj (gAccept.symm.trans hg)
    obtain rfl := Option.some.inj (gAcceptType.symm.trans hty)
    obtain ⟨fuel', d, q, hdi, he⟩ := Lib.array_elem t139 hd i hi
    simp only [List.getElem?_map, List.getElem?_range hi, Option.map_some, Option.some.injEq] at hdi
    subst hdi
    rw [show u8ren.t 138 = 169 from rfl, cellsRange] at he
    have hcs := Lib.ints_of_struct t138 (fun j f hj => by
      match j, hj with
      | 0, hj => simp at hj; subst hj; exact ⟨t5, rfl, cellsU8⟩
      | 1, hj => simp at hj; subst hj; exact ⟨t5, rfl, cellsU8⟩
      | j + 2, hj => simp at hj) (by rw [show u8ren.t 138 = 169 from rfl, cellsRange]; rfl) he
    have e0 := congrArg (·[0]?) hcs
    have e1 := congrArg (·[1]?) hcs
    simp only [List.getElem?_take, List.getElem?_drop] at e0 e1
    constructor
    · rw [World.var?_cell hg hvar (2 * i), ← Array.getElem?_toList]
      simpa [Nat.mul_comm] using e0
    · rw [World.var?_cell hg hvar (2 * i + 1), ← Array.getElem?_toList]
      simpa [Nat.mul_comm] using e1
end Go.Proofs.YtelckbphbkebkaaGreatDoor
