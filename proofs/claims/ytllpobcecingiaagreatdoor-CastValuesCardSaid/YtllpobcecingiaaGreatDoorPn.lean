/-
  The evaluator's parts hand what they find to what follows, and nothing else.
-/
import Derived.Test.YtllpobcecingiaaGreatDoorPe
set_option linter.unusedVariables false
set_option linter.unusedSimpArgs false
namespace Go.Proofs.YtllpobcecingiaaGreatDoor
open Go.RowKit

section
variable {R : Type}
theorem bif_bind {α : Type} (b : Bool) (x : Option α) (k : α → Option R) : (bif b then x else none).bind k = bif b then x.bind k else none := by cases b <;> rfl
theorem bif_bind' {α : Type} (b : Bool) (x : Option α) (k : α → Option R) : (bif b then none else x).bind k = bif b then none else x.bind k := by cases b <;> rfl
theorem bif_bind2 {α : Type} (b : Bool) (x y : Option α) (k : α → Option R) : (bif b then x else y).bind k = bif b then x.bind k else y.bind k := by cases b <;> rfl
theorem ite_bind {α : Type} (c : Prop) [Decidable c] (x : Option α) (k : α → Option R) : (if c then x else none).bind k = if c then x.bind k else none := by split <;> rfl
theorem ite_bind' {α : Type} (c : Prop) [Decidable c] (x : Option α) (k : α → Option R) : (if c then none else x).bind k = if c then none else x.bind k := by split <;> rfl
theorem pint_nat (op : BinOp) (k : IntKind) (a b : Int) (kk : PV → Option R) : pint op k a b kk = (pint op k a b some).bind kk := by
  cases op <;> simp only [pint, Option.bind_some, Option.bind_none, bif_bind']
theorem pstr_nat (op : BinOp) (a b : List UInt8) (kk : PV → Option R) : pstr op a b kk = (pstr op a b some).bind kk := by
  cases op <;> simp only [pstr, Option.bind_some, Option.bind_none, bif_bind]
theorem pbin_nat (P : Program) (op : BinOp) (t : TypeId) (ox oy : Operand) (x y : PV) (kk : PV → Option R) : pbin P op t ox oy x y kk = (pbin P op t ox oy x y some).bind kk := by
  unfold pbin
  split
  · split
    · simp only [bif_bind', Option.bind_some]
    · simp only [bif_bind', Option.bind_some]
    · rw [ite_bind, ← pint_nat]
  · exact pstr_nat _ _ _ _
  · rw [ite_bind]
    split
    · split <;> rfl
    · rfl
  · split
    · rfl
    · split
      · cases eqP P 20 t _ _ <;> rfl
      · cases eqP P 20 t _ _ <;> rfl
      · rfl
  · split
    · split
      · cases nilCmp P t x _ <;> rfl
      · cases nilCmp P t x _ <;> rfl
      · rfl
    · rfl
theorem pun_nat (op : UnOp) (x : PV) (kk : PV → Option R) : pun op x kk = (pun op x some).bind kk := by
  unfold pun
  split <;> rfl
theorem pconv_nat (P : Program) (s d : TypeId) (x : PV) (kk : PV → Option R) : pconv P s d x kk = (pconv P s d x some).bind kk := by
  unfold pconv
  split
  · rfl
  · rfl
  · split
    · rw [ite_bind, bif_bind]; rfl
    · rfl
  · split
    · rw [ite_bind]
      cases pbytes _ <;> rfl
    · rfl
  · rfl
theorem pbound_nat (x : PV) (m : Nat) (kk : Nat → Option R) : pbound x m kk = (pbound x m some).bind kk := by
  unfold pbound
  split
  · rw [bif_bind]; rfl
  · rfl
theorem pboundO_nat (x : Option PV) (d m : Nat) (kk : Nat → Option R) : pboundO x d m kk = (pboundO x d m some).bind kk := by
  unfold pboundO
  split
  · exact pbound_nat _ _ _
  · rfl
theorem obind_assoc {α β γ : Type} (x : Option α) (f : α → Option β) (g : β → Option γ) : (x.bind f).bind g = x.bind fun a => (f a).bind g := by cases x <;> rfl
theorem pslice_nat (P : Program) (t : TypeId) (x : PV) (lo hi mx : Option PV) (kk : TV → Option R) : pslice P t x lo hi mx kk = (pslice P t x lo hi mx some).bind kk := by
  unfold pslice
  split
  · split
    · rfl
    · rw [pboundO_nat, pboundO_nat (R := TV), obind_assoc]
      congr 1; funext h
      rw [pboundO_nat, pboundO_nat (R := TV), obind_assoc]
      rfl
  · rw [ite_bind]
    split
    · split
      · rw [pbound_nat, pbound_nat (R := TV), obind_assoc]
        congr 1; funext m
        rw [pboundO_nat, pboundO_nat (R := TV), obind_assoc]
        congr 1; funext h
        rw [pboundO_nat, pboundO_nat (R := TV), obind_assoc]
        rfl
      · rw [pboundO_nat, pboundO_nat (R := TV), obind_assoc]
        congr 1; funext h
        rw [pboundO_nat, pboundO_nat (R := TV), obind_assoc]
        rfl
    · rfl
  · rfl
theorem ppart_nat (P : Program) (t : TypeId) (cells : List PV) (off : Nat) (kk : PV → Option R) : ppart P t cells off kk = (ppart P t cells off some).bind kk := by
  unfold ppart
  split
  · rw [ite_bind]; rfl
  · cases cells[off]? <;> rfl
theorem refine1_nat (t : CT) (x : PV) (kk : PV → Option R) : refine1 t x kk = (refine1 t x some).bind kk := by
  cases t <;> simp only [refine1, obind_assoc, Option.bind_some, ite_bind]
end
theorem refineL_nat : ∀ {R : Type} (ts : List CT) (xs : List PV) (kk : List PV → Option R), refineL ts xs kk = (refineL ts xs some).bind kk
  | _, [], _, _ => rfl
  | R, t :: ts, xs, kk => by
    simp only [refineL, obind_assoc]
    congr 1; funext x
    rw [refine1_nat, refine1_nat (R := List PV), obind_assoc]
    congr 1; funext y
    rw [refineL_nat ts xs.tail (fun ys => kk (y :: ys)), refineL_nat ts xs.tail (fun ys => some (y :: ys)), obind_assoc]
    rfl
section
variable {R : Type}
theorem pbuiltin_nat (P : Program) (b : Builtin) (ts : Array TypeId) (xs : List TV) (kk : PAct → Option R) : pbuiltin P b ts xs kk = (pbuiltin P b ts xs some).bind kk := by
  unfold pbuiltin
  split
  · split <;> rfl
  · split <;> rfl
  · split <;> rfl
  · split
    · rw [ite_bind]
      split
      · split
        · rw [ite_bind, bif_bind]; rfl
        · rfl
      · rfl
    · rfl
  · rfl

/-- the same of a function that may be called -/
def PFn.nat (f : PFn) : Prop := ∀ (R : Type) (xs : List PV) (k : PV → Option R), f.F xs k = (f.F xs (R := PV) some).bind k
theorem presolve_nat (en : Env) (hE : ∀ f fn, en.E f = some fn → fn.nat) (st : St) (o : Oper) (kk : PAct → Option R) : presolve en st o kk = (presolve en st o some).bind kk := by
  unfold presolve
  split
  · rfl
  · rfl
  · split
    · split
      · rfl
      · rw [bif_bind2]; rfl
    · rfl
  · rw [pbin_nat, pbin_nat (R := PAct), obind_assoc]; rfl
  · rw [pun_nat, pun_nat (R := PAct), obind_assoc]; rfl
  · rw [pconv_nat, pconv_nat (R := PAct), obind_assoc]; rfl
  · rw [pslice_nat, pslice_nat (R := PAct), obind_assoc]; rfl
  · split
    · rw [ppart_nat, ppart_nat (R := PAct), obind_assoc]; rfl
    · rfl
  · split
    · rw [bif_bind, obind_assoc]; rfl
    · rw [bif_bind, ppart_nat, ppart_nat (R := PAct), obind_assoc]; rfl
    · rfl
  · split
    · rw [ite_bind']; rfl
    · rw [ite_bind']; rfl
    · rfl
  · split
    · rw [ite_bind, bif_bind]; rfl
    · rw [bif_bind]; rfl
    · rw [bif_bind]; rfl
    · rfl
  · split
    · rfl
    · rw [ite_bind]
      split
      · rw [refineL_nat, refineL_nat (R := PAct), obind_assoc]
        congr 1; funext r
        split
        · rfl
        · split <;> rfl
      · rfl
    · rfl
  · split
    · rw [ite_bind]; rfl
    · rfl
  · split <;> rfl
  · split
    · rw [ite_bind]; rfl
    · rfl
  · split <;> rfl
  · split
    · split
      · split
        · split <;> rfl
        · rfl
      · split
        · split <;> rfl
        · rfl
      · rfl
    · rfl
  · split
    · rw [ite_bind]
      split
      · split
        · rw [ite_bind]
          split
          · split
            · split <;> rfl
            · rfl
          · rfl
        · rfl
      · rfl
    · rfl
  · split
    · split
      · rw [ite_bind, bif_bind]; rfl
      · rfl
    · rfl
  · split
    · rw [obind_assoc]
      congr 1; funext v
      rw [ite_bind]; rfl
    · rfl
  · rw [ite_bind', ite_bind]; rfl
  · split
    · exact pbuiltin_nat _ _ _ _ _
    · split
      · split
        · rename_i fn hfn
          rw [ite_bind, hE _ _ hfn R, hE _ _ hfn PAct, obind_assoc]
          congr 1; congr 1; funext v
          split <;> rfl
        · rfl
      · rfl
    · rfl
  · rfl
end

end Go.Proofs.YtllpobcecingiaaGreatDoor
