/-
  Pure values for Go values, and what it means that a Go value reads as one in a memory; no statement of the seat.
-/
import Derived.WalkKit
import Derived.WalkLawsBesides
import Derived.WalkSpells
import Derived.Still
import Derived.Laws.OwnMore
import Derived.Laws.MakeOwn
set_option linter.unusedVariables false
set_option linter.unusedSimpArgs false
namespace Go.Proofs.YtllpobcecingiaaGreatDoor
open Go.RowKit

/-- a pure value: what a Go value reads as -/
inductive PV where
  | undef
  | bool (b : Bool)
  | int (k : IntKind) (n : Int)
  | str (s : List UInt8)
  | sl (nl : Option Bool) (sz n : Nat) (cells : List PV)
  | agg (cells : List PV)
  | tuple (vs : List PV)
  | nilptr
  | nptr
  | nilIface
  | iface (t : TypeId) (v : PV)
  | nilFunc
  | ptr (b off : Nat)
  | eptr (cells : List PV)
  | clo (f : FuncId) (caps : List PV)
  deriving Inhabited

/-- a world, and how many cells of each block are never changed any more -/
structure Mem where
  w : World
  U : Nat → Nat

def CellsAt (M : Mem) (b o : Nat) (vs : List Value) : Prop := ∀ j u, vs[j]? = some u → M.w.cell? ⟨b, o + j, none⟩ = some u ∧ o + j < M.U b

mutual
def RelD (M : Mem) : PV → Value → Prop
  | .undef, _ => True
  | .bool b, v => v = .bool b
  | .int k n, v => v = .int k n
  | .str s, v => v = .string ⟨s.toArray⟩
  | .sl nl sz n cells, v => ∃ A c vs, v = .slice A n c ∧ n ≤ c ∧ c ≤ maxLen ∧ (∀ b, nl = some b → A.isNone = b) ∧ (A = none → c = 0) ∧ cells.length = n * sz ∧ RelL M cells vs ∧
      (vs = [] ∨ ∃ b o, A = some ⟨b, o, none⟩ ∧ CellsAt M b o vs)
  | .agg cells, v => ∃ vs, v = .agg vs.toArray ∧ RelL M cells vs
  | .tuple xs, v => ∃ vs, v = .tuple vs.toArray ∧ RelT M xs vs
  | .nilptr, v => v = .pointer none
  | .nptr, v => ∃ a, v = .pointer (some a)
  | .nilIface, v => v = .nilIface
  | .iface t x, v => ∃ u, v = .iface t u ∧ RelD M x u
  | .nilFunc, v => v = .nilFunc
  | .ptr _ _, _ => False
  | .eptr _, _ => False
  | .clo f caps, v => caps = [] ∧ v = .func (.func f) #[] #[]
def RelL (M : Mem) : List PV → List Value → Prop
  | [], vs => vs = []
  | x :: xs, vs => ∃ u us, vs = u :: us ∧ u.oneCell' = true ∧ RelD M x u ∧ RelL M xs us
def RelT (M : Mem) : List PV → List Value → Prop
  | [], vs => vs = []
  | x :: xs, vs => ∃ u us, vs = u :: us ∧ RelD M x u ∧ RelT M xs us
end

/-- what is protected stays -/
def Mem.le (M M' : Mem) : Prop := ∀ b o u, M.w.cell? ⟨b, o, none⟩ = some u → o < M.U b → M'.w.cell? ⟨b, o, none⟩ = some u ∧ o < M'.U b

theorem Mem.le_refl (M : Mem) : M.le M := fun _ _ _ h k => ⟨h, k⟩
theorem Mem.le_trans {A B C : Mem} (h : A.le B) (k : B.le C) : A.le C := fun b o u h1 h2 => let ⟨h3, h4⟩ := h b o u h1 h2; k b o u h3 h4
theorem CellsAt.mono {M M' : Mem} (hm : M.le M') {b o : Nat} {vs : List Value} (h : CellsAt M b o vs) : CellsAt M' b o vs :=
  fun j u hu => hm _ _ _ (h j u hu).1 (h j u hu).2

mutual
theorem RelD.mono {M M' : Mem} (hm : M.le M') : ∀ (x : PV) (v : Value), RelD M x v → RelD M' x v
  | .undef, _, _ => trivial
  | .bool _, _, h => h
  | .int _ _, _, h => h
  | .str _, _, h => h
  | .sl nl sz n cells, v, h => by
    simp only [RelD] at h ⊢
    obtain ⟨A, c, vs, h1, h2, h3, h4, h5, h6, h7, h8⟩ := h
    exact ⟨A, c, vs, h1, h2, h3, h4, h5, h6, RelL.mono hm cells vs h7, h8.imp id fun ⟨b, o, e, k⟩ => ⟨b, o, e, k.mono hm⟩⟩
  | .agg cells, v, h => by
    simp only [RelD] at h ⊢
    obtain ⟨vs, h1, h2⟩ := h
    exact ⟨vs, h1, RelL.mono hm cells vs h2⟩
  | .tuple cells, v, h => by
    simp only [RelD] at h ⊢
    obtain ⟨vs, h1, h2⟩ := h
    exact ⟨vs, h1, RelT.mono hm cells vs h2⟩
  | .nilptr, _, h => h
  | .nptr, _, h => h
  | .nilIface, _, h => h
  | .iface t x, v, h => by
    simp only [RelD] at h ⊢
    obtain ⟨u, h1, h2⟩ := h
    exact ⟨u, h1, RelD.mono hm x u h2⟩
  | .nilFunc, _, h => h
  | .ptr _ _, _, h => h.elim
  | .eptr _, _, h => h.elim
  | .clo _ _, _, h => h
theorem RelL.mono {M M' : Mem} (hm : M.le M') : ∀ (xs : List PV) (vs : List Value), RelL M xs vs → RelL M' xs vs
  | [], _, h => h
  | x :: xs, vs, h => by
    simp only [RelL] at h ⊢
    obtain ⟨u, us, h1, h2, h3, h4⟩ := h
    exact ⟨u, us, h1, h2, RelD.mono hm x u h3, RelL.mono hm xs us h4⟩
theorem RelT.mono {M M' : Mem} (hm : M.le M') : ∀ (xs : List PV) (vs : List Value), RelT M xs vs → RelT M' xs vs
  | [], _, h => h
  | x :: xs, vs, h => by
    simp only [RelT] at h ⊢
    obtain ⟨u, us, h1, h3, h4⟩ := h
    exact ⟨u, us, h1, RelD.mono hm x u h3, RelT.mono hm xs us h4⟩
end

theorem RelL.length {M : Mem} : ∀ {xs : List PV} {vs : List Value}, RelL M xs vs → xs.length = vs.length
  | [], vs, h => by simp only [RelL] at h; subst h; rfl
  | x :: xs, vs, h => by
    simp only [RelL] at h
    obtain ⟨u, us, rfl, _, _, h⟩ := h
    simp [RelL.length h]
theorem RelL.get {M : Mem} : ∀ {xs : List PV} {vs : List Value}, RelL M xs vs → ∀ {j : Nat} {x : PV}, xs[j]? = some x → ∃ u, vs[j]? = some u ∧ u.oneCell' = true ∧ RelD M x u
  | [], vs, h, j, x, hx => by simp at hx
  | y :: xs, vs, h, j, x, hx => by
    simp only [RelL] at h
    obtain ⟨u, us, rfl, h1, h2, h⟩ := h
    cases j with
    | zero => simp at hx; subst hx; exact ⟨u, rfl, h1, h2⟩
    | succ j => obtain ⟨v, g⟩ := h.get (j := j) (by simpa using hx); exact ⟨v, by simpa using g⟩
theorem RelL.append {M : Mem} : ∀ {xs ys : List PV} {vs us : List Value}, RelL M xs vs → RelL M ys us → RelL M (xs ++ ys) (vs ++ us)
  | [], ys, vs, us, h, k => by simp only [RelL] at h; subst h; exact k
  | x :: xs, ys, vs, us, h, k => by
    simp only [RelL] at h
    obtain ⟨u, ws, rfl, h1, h2, h⟩ := h
    exact ⟨u, ws ++ us, rfl, h1, h2, h.append k⟩
theorem RelL.drop {M : Mem} : ∀ {xs : List PV} {vs : List Value} (k : Nat), RelL M xs vs → RelL M (xs.drop k) (vs.drop k)
  | xs, vs, 0, h => h
  | [], vs, k + 1, h => by simp only [RelL] at h; subst h; rfl
  | x :: xs, vs, k + 1, h => by
    simp only [RelL] at h
    obtain ⟨u, us, rfl, _, _, h⟩ := h
    exact h.drop k
theorem RelL.take {M : Mem} : ∀ {xs : List PV} {vs : List Value} (k : Nat), RelL M xs vs → RelL M (xs.take k) (vs.take k)
  | xs, vs, 0, h => rfl
  | [], vs, k + 1, h => by simp only [RelL] at h; subst h; rfl
  | x :: xs, vs, k + 1, h => by
    simp only [RelL] at h
    obtain ⟨u, us, rfl, h1, h2, h⟩ := h
    exact ⟨u, us.take k, rfl, h1, h2, h.take k⟩
theorem RelL.one {M : Mem} : ∀ {xs : List PV} {vs : List Value}, RelL M xs vs → ∀ u ∈ vs, u.oneCell' = true
  | [], vs, h => by simp only [RelL] at h; subst h; simp
  | x :: xs, vs, h => by
    simp only [RelL] at h
    obtain ⟨u, us, rfl, h1, _, h⟩ := h
    intro v hv
    cases hv with
    | head => exact h1
    | tail _ hv => exact h.one v hv
theorem RelL.replicate {M : Mem} {x : PV} {u : Value} (h1 : u.oneCell' = true) (h2 : RelD M x u) : ∀ n, RelL M (List.replicate n x) (List.replicate n u)
  | 0 => rfl
  | n + 1 => ⟨u, List.replicate n u, rfl, h1, h2, RelL.replicate h1 h2 n⟩
theorem RelT.get {M : Mem} : ∀ {xs : List PV} {vs : List Value}, RelT M xs vs → ∀ {j : Nat} {x : PV}, xs[j]? = some x → ∃ u, vs[j]? = some u ∧ RelD M x u
  | [], vs, h, j, x, hx => by simp at hx
  | y :: xs, vs, h, j, x, hx => by
    simp only [RelT] at h
    obtain ⟨u, us, rfl, h2, h⟩ := h
    cases j with
    | zero => simp at hx; subst hx; exact ⟨u, rfl, h2⟩
    | succ j => obtain ⟨v, g⟩ := h.get (j := j) (by simpa using hx); exact ⟨v, by simpa using g⟩
theorem RelT.length {M : Mem} : ∀ {xs : List PV} {vs : List Value}, RelT M xs vs → xs.length = vs.length
  | [], vs, h => by simp only [RelT] at h; subst h; rfl
  | x :: xs, vs, h => by
    simp only [RelT] at h
    obtain ⟨u, us, rfl, _, h⟩ := h
    simp [RelT.length h]
theorem RelL.set {M : Mem} {x : PV} {u : Value} (h1 : u.oneCell' = true) (h2 : RelD M x u) : ∀ {xs : List PV} {vs : List Value} (k : Nat), RelL M xs vs → RelL M (xs.set k x) (vs.set k u)
  | [], vs, k, h => by simp only [RelL] at h; subst h; rfl
  | y :: xs, vs, 0, h => by
    simp only [RelL] at h
    obtain ⟨v, us, rfl, _, _, h⟩ := h
    exact ⟨u, us, rfl, h1, h2, h⟩
  | y :: xs, vs, k + 1, h => by
    simp only [RelL] at h
    obtain ⟨v, us, rfl, h3, h4, h⟩ := h
    exact ⟨v, us.set k u, rfl, h3, h4, h.set h1 h2 k⟩
theorem CellsAt.drop {M : Mem} {b o : Nat} {vs : List Value} (h : CellsAt M b o vs) (k : Nat) : CellsAt M b (o + k) (vs.drop k) := by
  intro j u hu
  rw [List.getElem?_drop] at hu
  have := h _ _ hu
  rwa [← Nat.add_assoc] at this
theorem CellsAt.take {M : Mem} {b o : Nat} {vs : List Value} (h : CellsAt M b o vs) (k : Nat) : CellsAt M b o (vs.take k) := by
  intro j u hu
  rw [List.getElem?_take] at hu
  split at hu
  · exact h _ _ hu
  · cases hu

/-! ## what slots hold: also pointers to boxes of the call's own, to protected places, and closures -/
def RelC (M : Mem) (β : Nat → Option Nat) : PV → Value → Prop
  | .ptr id off, v => ∃ b, β id = some b ∧ v = .pointer (some ⟨b, off, none⟩)
  | x, v => RelD M x v
def RelCs (M : Mem) (β : Nat → Option Nat) : List PV → List Value → Prop
  | [], vs => vs = []
  | x :: xs, vs => ∃ u us, vs = u :: us ∧ RelC M β x u ∧ RelCs M β xs us
def RelS (M : Mem) (β : Nat → Option Nat) : PV → Value → Prop
  | .ptr id off, v => ∃ b, β id = some b ∧ v = .pointer (some ⟨b, off, none⟩)
  | .eptr cs, v => ∃ b o vs, v = .pointer (some ⟨b, o, none⟩) ∧ RelL M cs vs ∧ CellsAt M b o vs
  | .clo f caps, v => ∃ vs, v = .func (.func f) #[] vs.toArray ∧ RelCs M β caps vs
  | x, v => RelD M x v

/-- no pointer to a box, no place, no closure -/
def PV.data : PV → Bool
  | .ptr _ _ => false
  | .eptr _ => false
  | .clo _ [] => true
  | .clo _ (_ :: _) => false
  | _ => true
theorem RelS.data {M : Mem} {β : Nat → Option Nat} {x : PV} {v : Value} (h : RelS M β x v) (hd : x.data = true) : RelD M x v := by
  cases x with
  | clo f caps =>
    cases caps with
    | nil =>
      obtain ⟨vs, rfl, h2⟩ := (show ∃ vs : List Value, v = .func (.func f) #[] vs.toArray ∧ RelCs M β [] vs from h)
      obtain rfl : vs = [] := h2
      exact ⟨rfl, rfl⟩
    | cons c cs => simp [PV.data] at hd
  | _ => simp_all [PV.data, RelS]
theorem RelS.of_data {M : Mem} {β : Nat → Option Nat} {x : PV} {v : Value} (h : RelD M x v) : RelS M β x v := by
  cases x with
  | clo f caps =>
    simp only [RelD] at h
    obtain ⟨rfl, rfl⟩ := h
    exact ⟨[], rfl, rfl⟩
  | ptr b o => simp [RelD] at h
  | eptr cs => simp [RelD] at h
  | _ => simp_all [RelS]
theorem RelC.mono {M M' : Mem} {β β' : Nat → Option Nat} (hm : M.le M') (hb : ∀ id b, β id = some b → β' id = some b) {x : PV} {v : Value} (h : RelC M β x v) : RelC M' β' x v := by
  cases x <;> first
    | (obtain ⟨b, h1, h2⟩ := h; exact ⟨b, hb _ _ h1, h2⟩)
    | exact RelD.mono hm _ _ h
theorem RelCs.mono {M M' : Mem} {β β' : Nat → Option Nat} (hm : M.le M') (hb : ∀ id b, β id = some b → β' id = some b) : ∀ {xs : List PV} {vs : List Value}, RelCs M β xs vs → RelCs M' β' xs vs
  | [], _, h => h
  | x :: xs, vs, h => by
    obtain ⟨u, us, h1, h2, h3⟩ := h
    exact ⟨u, us, h1, h2.mono hm hb, h3.mono hm hb⟩
theorem RelS.mono {M M' : Mem} {β β' : Nat → Option Nat} (hm : M.le M') (hb : ∀ id b, β id = some b → β' id = some b) {x : PV} {v : Value} (h : RelS M β x v) : RelS M' β' x v := by
  cases x <;> first
    | (obtain ⟨b, h1, h2⟩ := h; exact ⟨b, hb _ _ h1, h2⟩)
    | (obtain ⟨b, o, vs, h1, h2, h3⟩ := h; exact ⟨b, o, vs, h1, RelL.mono hm _ _ h2, h3.mono hm⟩)
    | (obtain ⟨vs, h1, h2⟩ := (show ∃ vs : List Value, v = .func (.func _) #[] vs.toArray ∧ RelCs M β _ vs from h); exact ⟨vs, h1, h2.mono hm hb⟩)
    | exact RelD.mono hm _ _ h

end Go.Proofs.YtllpobcecingiaaGreatDoor
