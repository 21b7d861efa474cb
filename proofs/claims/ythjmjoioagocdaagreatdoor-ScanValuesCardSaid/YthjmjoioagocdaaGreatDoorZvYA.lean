/-
  Lemmas, part Y1: what the claim needs of the texts of wip/tpl.
-/
import Derived.ProofKit
import Derived.ChangeArms
import Derived.Deep.Slices
import Derived.Test.YthjmjoioagocdaaGreatDoorZvTA
import Derived.Test.YthjmjoioagocdaaGreatDoorZvKA
section
set_option linter.unusedVariables false
set_option linter.unusedSimpArgs false
set_option maxRecDepth 100000
namespace Go.Proofs.YthjmjoioagocdaaGreatDoor
open Go.ChangeShapes Go.WideShapes Go.ChangeAt Go.RowKit Go.Deep
def memU (w : World) (U : Nat → Nat) : Mem := ⟨w, U, ⟨0, fun _ _ => none⟩⟩
theorem law_runU {NG : Nat} {W : World → Prop} (hW : WOK NG W) {l : List (FuncId × PFn)} (hl : AllOK NG W l) {f : FuncId} {fn : Func} (hf : Tryz.prog.funcs[f]? = some fn) {h : Hints} {fuel : Nat} {w : World} {U : Nat → Nat} {xs : List PV} {vs : List Value}
    (hw : W w) (hng : NG ≤ w.heap.size) (hr : RelT (memU w U) xs vs) (hrun : prun (en l) h fuel false fn xs = some (.bool true)) :
    Calls Tryz.prog f vs.toArray w fun e w' => e = .returned (.bool true) ∧ Below w.heap.size w w' := by
  refine (run_ok (env_ok hW hl) rfl hf (M := memU w U) hw hng (fun g cs hg => by cases hg) hr hrun).mono ?_
  rintro e w' ⟨v, rfl, U', hm, hv, _⟩
  simp only [RelD] at hv
  subst hv
  exact ⟨rfl, hm.os, hm.tape, hm.output, hm.size, fun b hb => (hm.block b hb (by simp [memU])).1⟩
/-- cells that hold what is written, once the used room is large enough -/
def RelU (w : World) (ps : List PV) (cs : List Value) : Prop := ∃ B : Nat, ∀ U : Nat → Nat, (∀ b, B ≤ U b) → RelL (memU w U) ps cs
theorem RelU.of {w : World} {ps : List PV} {cs : List Value} (h : ∀ M, RelL M ps cs) : RelU w ps cs := ⟨0, fun U _ => h _⟩
theorem RelU.append {w : World} {ps qs : List PV} {cs ds : List Value} (h : RelU w ps cs) (k : RelU w qs ds) : RelU w (ps ++ qs) (cs ++ ds) := by
  obtain ⟨A, h⟩ := h
  obtain ⟨B, k⟩ := k
  exact ⟨max A B, fun U hU => (h U fun b => Nat.le_trans (Nat.le_max_left _ _) (hU b)).append (k U fun b => Nat.le_trans (Nat.le_max_right _ _) (hU b))⟩
theorem rows_rel {w : World} {base size : Nat} {a : Addr} {α : Type} {f : α → List PV} {Pa : α → Prop} : ∀ (k i : Nat), (∀ j, i ≤ j → j < i + k → ∃ cs', w.cells? base (a.add (j * size)) size = some cs' ∧ ∃ x, Pa x ∧ RelU w (f x) cs') →
    ∃ (l : List α) (vs : List Value), l.length = k ∧ (∀ x ∈ l, Pa x) ∧ vs.length = k * size ∧ RelU w (l.flatMap f) vs ∧ ∀ j u, vs[j]? = some u → w.cell? (a.add (i * size + j)) = some u
  | 0, i, _ => ⟨[], [], rfl, by simp, by simp, .of fun _ => rfl, by simp⟩
  | k + 1, i, h => by
    obtain ⟨cs, h1, x, px, hx⟩ := h i (Nat.le_refl _) (by omega)
    obtain ⟨l, vs, e1, e2, e3, e4, e5⟩ := rows_rel k (i + 1) (fun j h1 h2 => h j (by omega) (by omega))
    obtain ⟨_, hl, hg⟩ := World.cells?_some h1
    refine ⟨x :: l, cs ++ vs, by simp [e1], ?_, by rw [List.length_append, hl, e3, Nat.add_mul]; omega, ?_, fun j u hu => ?_⟩
    · intro y hy
      rcases List.mem_cons.1 hy with rfl | hy
      · exact px
      · exact e2 y hy
    · rw [List.flatMap_cons]
      exact hx.append e4
    · by_cases hj : j < size
      · rw [List.getElem?_append_left (by omega)] at hu
        have := hg j hj
        rw [hu, add_add] at this
        exact this
      · rw [List.getElem?_append_right (by omega), hl] at hu
        have := e5 _ u hu
        rw [Nat.add_mul, show i * size + 1 * size + (j - size) = i * size + j by omega] at this
        exact this
/-- a slice, its elements opened -/
theorem open_slR {H : Type} {enc : TypeId × Value → H} {P : Program} {w : World} {base : Nat} {sp : Nat → Bool} {held : Bool} {t e : TypeId} {fuel : Nat} {cs : List Value} {x : DataW H × List MemPlace} {α : Type} {f : α → List PV} {Pa : α → Prop} {size : Nat}
    (hs0 : 0 < size) (ht : P.underlying t = some (.slice e)) (hsz : P.cellsOf e = size) (hf : ∀ x, (f x).length = size)
    (he : ∀ n cs' y, n < fuel → DataW.trod enc P w base sp held n e cs' = some y → ∃ x, Pa x ∧ RelU w (f x) cs') (h : DataW.trod enc P w base sp held fuel t cs = some x) :
    ∃ A c, ∃ l : List α, cs = [.slice A l.length c] ∧ (∀ x ∈ l, Pa x) ∧ ∃ B : Nat, ∀ U : Nat → Nat, (∀ b, B ≤ U b) → RelD (memU w U) (.sl none size l.length (l.flatMap f)) (.slice A l.length c) := by
  have flen : ∀ l : List α, (l.flatMap f).length = l.length * size := by
    intro l
    induction l with
    | nil => simp
    | cons y l ih => rw [List.flatMap_cons, List.length_append, hf, ih, List.length_cons, Nat.add_mul]; omega
  rcases DataW.trod_slice ht h with ⟨rfl, _⟩ | ⟨a, len, cap, elems, rest, n, rfl, rfl, rfl, hb, hlc, hcm, hel0, hel, _⟩
  · refine ⟨none, 0, [], rfl, by simp, 0, fun U _ => ?_⟩
    simp only [RelD]
    exact ⟨none, 0, [], rfl, Nat.le_refl _, Nat.zero_le _, fun b hb => (by cases hb), fun _ => rfl, by simp, rfl, Or.inl rfl⟩
  · rw [hsz] at hel
    obtain ⟨l, vs, e1, e2, e3, ⟨B, e4⟩, e5⟩ := rows_rel (w := w) (base := base) (size := size) (a := a) (f := f) (Pa := Pa) len 0 (fun j _ hj => by
      have := hel j (by omega)
      rw [List.getElem?_eq_getElem (by omega)] at this
      obtain ⟨cs', h1, h2⟩ := Option.bind_eq_some_iff.1 this
      obtain ⟨x, px, hx⟩ := he n cs' _ (by omega) h2
      exact ⟨cs', h1, x, px, hx⟩)
    subst e1
    obtain ⟨b, off, spot⟩ := a
    refine ⟨_, cap, l, rfl, e2, max B (off + l.length * size), fun U hU => ?_⟩
    simp only [RelD]
    refine ⟨_, cap, vs, rfl, hlc, hcm, fun b hb => (by cases hb), fun h => (by cases h), flen l, e4 U fun b => Nat.le_trans (Nat.le_max_left _ _) (hU b), ?_⟩
    by_cases h0 : vs = []
    · exact Or.inl h0
    · have hp : 0 < vs.length := List.length_pos_iff.2 h0
      have h00 := e5 0 vs[0] (List.getElem?_eq_getElem hp)
      have hspot : spot = none := by
        have := World.cell?_spot (v := vs[0]) h00
        simpa [Addr.add] using this
      subst hspot
      refine Or.inr ⟨b, off, rfl, fun j u hu => ?_⟩
      have hj := (List.getElem?_eq_some_iff.1 hu).1
      have := e5 j u hu
      rw [Nat.zero_mul, Nat.zero_add, add_plain] at this
      refine ⟨this, ?_⟩
      have := hU b
      have := Nat.le_max_right B (off + l.length * size)
      show off + j < U b
      omega
end Go.Proofs.YthjmjoioagocdaaGreatDoor
end
section
set_option linter.unusedVariables false
set_option linter.unusedSimpArgs false
set_option maxRecDepth 100000
namespace Go.Proofs.YthjmjoioagocdaaGreatDoor.TS
open Go.RowKit
theorem gFoA_vok {cs : List PV} {q : Ky} {l : List (Ky × PV)} (h : gFoA cs q = some l) : ∀ p ∈ l, vok p.2 = true := by
  unfold gFoA gFo at h
  obtain ⟨t, ht, h⟩ := bind_some_inv h
  obtain ⟨hg, h⟩ := bif_inv h
  injection h with h
  subst h
  exact fun p hp => (dec_inv ht).2 p (List.mem_filter.1 hp).1
theorem iWalk_ptr {R : Type} (g : List PV → Ky → Option (List (Ky × PV))) (q : Ky) (cs : List PV) (o : Out) (y : YFn) (k : List (List PV) → Out → PV → Option R) : (iWalk g).F [[.ptr 2 0], [.str q], [.eptr cs]] o [.yld, .ptr 0 0, .ptr 1 0] y k = callW g cs q y [[.ptr 2 0], [.str q], [.eptr cs]] o fun bs o b => k bs o (.tuple []) := rfl
/-- what the pairs of a root from a key on are -/
def gRf (x : PV) (s : Ky) : Option (List (Ky × PV)) := match x with | .nilptr => some [] | .eptr cs => gFoA cs s | _ => none
structure RfOK (x : PV) (s : Ky) (l : List (Ky × PV)) : Prop where
  isR : IsR x
  vok : ∀ p ∈ l, Go.Proofs.YthjmjoioagocdaaGreatDoor.TS.vok p.2 = true
  walk : ∀ {R : Type} (o : Out) (y : YFn) (k : List (List PV) → Out → PV → Option R), (iWalk gFoA).F [[.ptr 2 0], [.str s], [x]] o [.yld, .ptr 0 0, .ptr 1 0] y k = walkY y l [[.ptr 2 0], [.str s], [x]] o fun bs o b => k bs o (.tuple [])
theorem gRf_ok {x : PV} {s : Ky} {l : List (Ky × PV)} (h : gRf x s = some l) : RfOK x s l := by
  unfold gRf at h
  split at h
  · injection h with h
    subst h
    exact ⟨.inl rfl, (fun p hp => by cases hp), fun o y k => rfl⟩
  · rename_i cs
    refine ⟨.inr ⟨cs, rfl⟩, gFoA_vok h, fun o y k => ?_⟩
    rw [iWalk_ptr]
    unfold callW
    rw [shp_of (.inr ⟨cs, rfl⟩), cond_true, h, Option.bind_some]
  · cases h
/-- goes on: ahead of the end -/
def btT (t : Ky) (p : Ky × PV) : Bool := !(bif t != [] then !Op.bytesLess p.1 t else false)
/-- the code at a path -/
def subC : List Nat → Code → Code
  | 0 :: p, .seq a _ => subC p a
  | _ :: p, .seq _ b => subC p b
  | 0 :: p, .cond _ a _ => subC p a
  | _ :: p, .cond _ _ b => subC p b
  | _ :: p, .block _ a => subC p a
  | _ :: p, .loop a => subC p a
  | _, c => c
def rfA : Code → Code
  | .rangeFunc _ _ a _ => a
  | _ => .skip
def rfB : Code → Code
  | .rangeFunc _ _ _ b => b
  | _ => .skip
/-- a round of a loop over a function -/
def rfRun (en : Env) (h : Hints) (fu : Nat) (c : Code) (ids : List Nat) {S : Type} (st : St) (k : Option Jump → St → Option S) : Option S :=
  pcode en h fu (rfA c) (fun _ => none) 0 st (fun st => pcode en h fu (rfB c) (fun st => k (some .ret) st) 0 st (fun st => k none st) (ids.map fun id => (id, fun st => k (some (.exit id)) st))) []
/-- what follows a loop over a function -/
def rangeEnd {R : Type} (n : Nat) (ids : List Nat) (ρ : List TV) (kj : Option Jump → St → Option R) (bs : List (List PV)) (o : Out) : Option R :=
  match o with
  | .fr bx j o' =>
    if bs.length = ids.length then
      match mapO (mapO (renP (fun j => ids[j]?) false 4)) bs with
      | some bs => kj j ⟨ρ, setBoxes (zipN ids bs) (bxOf n bx), o'⟩
      | none => none
    else none
  | .nil => none
def jumpK {R : Type} (id : Nat) (kn kr : St → Option R) (j : Option Jump) (st : St) : Option R :=
  match j with
  | none => kn st
  | some .ret => kr st
  | some (.exit i) => match ([(id, kn)] : List (Nat × (St → Option R))).lookup i with
    | some k => k st
    | none => none
/-- a round of a loop over a function has ended -/
def rEnd {S : Type} (n nb : Nat) (ids : List Nat) (bx : List (Option (List TV))) (o : Out) (j : Option Jump) (G : List (List PV) → Out → Bool → Option S) : Option S :=
  rpin (lentIds n nb) ⟨List.replicate n (.tuple [], 0), bx, o⟩ fun bx' =>
    match lentBs (bxOf n bx') ids with
    | some bs' => match j with
      | none => G bs' (.fr bx' none o) true
      | some j => G bs' (.fr bx' (some j) o) false
    | none => none
/-- 'yield' for one thing after the other, as long as it goes on -/
def walkG {R : Type} (shp : List (List PV) → Bool) (y : YFn) : List (List PV) → List (List PV) → Out → (List (List PV) → Out → Bool → Option R) → Option R
  | [], bs, o, k => k bs o true
  | p :: r, bs, o, k => yF y bs o p fun bs' o' b => bif shp bs' then (bif b then walkG shp y r bs' o' k else k bs' o' false) else none
theorem walkG_nat {R S : Type} (shp : List (List PV) → Bool) (y : YFn) : ∀ (l : List (List PV)) (bs : List (List PV)) (o : Out) (f : List (List PV) → Out → Bool → Option R) (k : R → Option S), walkG shp y l bs o (fun b o v => (f b o v).bind k) = (walkG shp y l bs o f).bind k
  | [], bs, o, f, k => rfl
  | p :: l, bs, o, f, k => by
    simp only [walkG]
    rw [← yF_nat]
    congr 1
    funext bs' o' b
    cases shp bs' with
    | false => rfl
    | true => cases b with
      | false => rfl
      | true => exact walkG_nat shp y l bs' o' f k
/-- the boxes that a walk between two keys has been lent: the tree's variable, the keys', the tree -/
def shp4 (f t : Ky) : List (List PV) → Bool
  | [[.ptr 3 0], [.str f'], [.str t'], [.nilptr]] => f' == f && t' == t
  | [[.ptr 3 0], [.str f'], [.str t'], [.eptr _]] => f' == f && t' == t
  | _ => false
theorem shp4_inv {f t : Ky} {bs : List (List PV)} (h : shp4 f t bs = true) : ∃ x, bs = [[.ptr 3 0], [.str f], [.str t], [x]] ∧ IsR x := by
  unfold shp4 at h
  split at h
  · simp only [Bool.and_eq_true, beq_iff_eq] at h
    obtain ⟨rfl, rfl⟩ := h
    exact ⟨_, rfl, .inl rfl⟩
  · simp only [Bool.and_eq_true, beq_iff_eq] at h
    obtain ⟨rfl, rfl⟩ := h
    exact ⟨_, rfl, .inr ⟨_, rfl⟩⟩
  · cases h
section
variable {R : Type} (gf : List PV → Ky → Option (List (Ky × PV))) (y : YFn)
noncomputable def fBt : Func := Tryz.f88
noncomputable def lhFr : List (FuncId × HFn) := [(89, hFrom 114)]
noncomputable def liFr : List (FuncId × IFn) := [(114, iWalk gf)]
noncomputable def enBt : Env := { enH [] lhFr (liFr gf) with Y := some (4, y) }
def btρ (f : Ky) : List TV := [(.yld, 0), (.ptr 26 0, 0), (.ptr 27 0, 0), (.ptr 28 0, 0), (.ptr 31 0, 0), (.tuple [], 0), (.tuple [], 0), (.ptr 29 0, 0), (.str f, 0), (.clo 114 [.ptr 32 0, .ptr 30 0], 0)] ++ List.replicate 16 (.tuple [], 0)
def btBx (f t : Ky) (x : PV) : List (Option (List TV)) := [some [(.ptr 29 0, 0)], some [(.str f, 0)], some [(.str t, 0)], some [(x, 0)], some [(.str f, 0)], some [(.yld, 0)], some [(.ptr 29 0, 0)]]
noncomputable def btY (f : Ky) : YFn := rangeY [32, 30, 29] #[10, 11] (btρ f) (fun {S} st k => rfRun (S := S) (enBt gf y) h0 0 (subC [1, 1, 0] (fBt.body.getD .skip)) [0] st k)
noncomputable def btKr (kk : List (List PV) → Out → PV → Option R) (st : St) : Option R := pfinH (enH [] lhFr (liFr gf)) 4 fBt st fun bs o v => if bs.length = 4 then kk bs o v else none
noncomputable def btE (kk : List (List PV) → Out → PV → Option R) (f : Ky) : List (List PV) → Out → Option R := rangeEnd 26 [32, 30, 29] (btρ f) (jumpK 0 (btKr gf kk) (btKr gf kk))
theorem bt_raw (kk : List (List PV) → Out → PV → Option R) (f t : Ky) {x : PV} (hx : IsR x) (o : Out) :
    prunI (enH [] lhFr (liFr gf)) h0 0 fBt [[.ptr 3 0], [.str f], [.str t], [x]] o [.yld, .ptr 0 0, .ptr 1 0, .ptr 2 0] y kk =
      (iWalk gf).F [[.ptr 2 0], [.str f], [x]] (.fr (btBx f t x) none o) [.yld, .ptr 0 0, .ptr 1 0] (btY gf y f) fun bs o _ => btE gf kk f bs o := by
  rcases hx with rfl | ⟨cx, rfl⟩ <;> kernel_rfl
theorem bt_rawN (kk : List (List PV) → Out → PV → Option R) (f t : Ky) (o : Out) :
    prunI (enH [] lhFr (liFr gf)) h0 0 fBt [[.nilptr], [.str f], [.str t]] o [.yld, .ptr 0 0, .ptr 1 0, .ptr 2 0] y kk = kk [[.nilptr], [.str f], [.str t]] o (.tuple []) := by kernel_rfl
theorem bt_step (f t : Ky) {x : PV} (hx : IsR x) (o : Out) (k v : Ky) (G : List (List PV) → Out → Bool → Option R) :
    (btY gf y f).F [[.ptr 2 0], [.str f], [x]] (.fr (btBx f t x) none o) [.str k, .str v] G =
      bif !(bif t != [] then !Op.bytesLess k t else false) then
        viaB false 26 4 (bxOf 26 (btBx f t x)) o [.str k, .str v] (fun bs o xs G => y.F bs o xs G) fun bx o b => bif !b then rEnd 26 7 [32, 30, 29] bx o (some .ret) G else rEnd 26 7 [32, 30, 29] bx o none G
      else G [[.ptr 2 0], [.str f], [x]] (.fr (btBx f t x) (some .ret) o) false := by
  rcases hx with rfl | ⟨cx, rfl⟩ <;> kernel_rfl
theorem bt_round (f t : Ky) {x : PV} (hx : IsR x) (o : Out) (j : Option Jump) (G : List (List PV) → Out → Bool → Option R) : rEnd 26 7 [32, 30, 29] (bxOf 26 (btBx f t x)) o j G = G [[.ptr 2 0], [.str f], [x]] (.fr (btBx f t x) j o) j.isNone := by
  cases j <;> rcases hx with rfl | ⟨cx, rfl⟩ <;> kernel_rfl
theorem bt_end (kk : List (List PV) → Out → PV → Option R) (f t : Ky) {x : PV} (hx : IsR x) (o : Out) :
    btE gf kk f [[.ptr 2 0], [.str f], [x]] (.fr (btBx f t x) none o) = kk [[.ptr 3 0], [.str f], [.str t], [x]] o (.tuple []) := by
  rcases hx with rfl | ⟨cx, rfl⟩ <;> kernel_rfl
theorem bt_endR (kk : List (List PV) → Out → PV → Option R) (f t : Ky) {x : PV} (hx : IsR x) (o : Out) :
    btE gf kk f [[.ptr 2 0], [.str f], [x]] (.fr (btBx f t x) (some .ret) o) = kk [[.ptr 3 0], [.str f], [.str t], [x]] o (.tuple []) := by
  rcases hx with rfl | ⟨cx, rfl⟩ <;> kernel_rfl
theorem bt_via (f t : Ky) {x x' : PV} (hx : IsR x) (hx' : IsR x') {o o' : Out} {b' : Bool} (k v : Ky) (hc : ∀ (S : Type) (G : List (List PV) → Out → Bool → Option S), y.F [[.ptr 3 0], [.str f], [.str t], [x]] o [.str k, .str v] G = G [[.ptr 3 0], [.str f], [.str t], [x']] o' b')
    (G : List (Option (List TV)) → Out → Bool → Option R) : viaB false 26 4 (bxOf 26 (btBx f t x)) o [.str k, .str v] (fun bs o xs G => y.F bs o xs G) G = G (bxOf 26 (btBx f t x')) o' b' := by
  have h1 : lentBs (bxOf 26 (btBx f t x)) (lentIds 26 4) = some [[.ptr 3 0], [.str f], [.str t], [x]] := by rcases hx with rfl | ⟨cs, rfl⟩ <;> rfl
  have h2 : mapO (renP (posOf (lentIds 26 4) 0) false 4) [PV.str k, .str v] = some [.str k, .str v] := rfl
  have h3 : mapO (mapO (renP (fun j => (lentIds 26 4)[j]?) false 4)) [[.ptr 3 0], [.str f], [.str t], [x']] = some [[.ptr 29 0], [.str f], [.str t], [x']] := by rcases hx' with rfl | ⟨cs, rfl⟩ <;> rfl
  have h4 : setBoxes (zipN (lentIds 26 4) [[.ptr 29 0], [.str f], [.str t], [x']]) (bxOf 26 (btBx f t x)) = bxOf 26 (btBx f t x') := rfl
  have h5 : renP (fun j => (lentIds 26 4)[j]?) false 4 (.bool b') = some (.bool b') := rfl
  have hl : (lentIds 26 4).length = 4 := rfl
  unfold viaB
  simp only [h1, h2]
  rw [hc]
  simp only [h3, h5, h4, hl, List.length_cons, List.length_nil, if_true]
end
def kvP (p : Ky × PV) : List PV := [.str p.1, p.2]
theorem bt_walk {R : Type} {y : YFn} (hy : y.nat) (kk : List (List PV) → Out → PV → Option R) (f t : Ky) {r : R} : ∀ (L : List (Ky × PV)) (x : PV) (o : Out), IsR x → (∀ p ∈ L, vok p.2 = true) →
    walkG (shp4 f t) y ((L.takeWhile (btT t)).map kvP) [[.ptr 3 0], [.str f], [.str t], [x]] o (fun bs o _ => kk bs o (.tuple [])) = some r →
    walkY (btY gFoA y f) L [[.ptr 2 0], [.str f], [x]] (.fr (btBx f t x) none o) (fun bs o _ => btE gFoA kk f bs o) = some r
  | [], x, o, hx, hv, h => (bt_end gFoA kk f t hx o).trans h
  | p :: L, x, o, hx, hv, h => by
    have hvp := hv p List.mem_cons_self
    have hst := fun G => bt_step (R := List (List PV) × Out × Bool) gFoA y f t hx o p.1 (valP p.2) G
    rw [valP_eq hvp] at hst
    simp only [walkY]
    unfold yF
    rw [hst]
    rw [List.takeWhile_cons] at h
    have hb : btT t p = !(bif t != [] then !Op.bytesLess p.1 t else false) := rfl
    rw [hb] at h
    rcases hq : !(bif t != [] then !Op.bytesLess p.1 t else false) with _ | _
    · rw [hq, if_neg (by simp)] at h
      rw [cond_false, Option.bind_some]
      show (bif shpB [[.ptr 2 0], [.str f], [x]] then (bif false then _ else _) else none) = _
      rw [shp_of hx, cond_true, cond_false]
      exact (bt_endR gFoA kk f t hx o).trans h
    · rw [hq, if_pos rfl, List.map_cons] at h
      simp only [walkG] at h
      obtain ⟨bs', o', b, hF, h⟩ := yF_inv hy h
      obtain ⟨hs, h⟩ := bif_inv h
      obtain ⟨x', rfl, hx'⟩ := shp4_inv hs
      have hF' : ∀ (S : Type) (G : List (List PV) → Out → Bool → Option S), y.F [[.ptr 3 0], [.str f], [.str t], [x]] o [.str p.1, .str (valP p.2)] G = G [[.ptr 3 0], [.str f], [.str t], [x']] o' b := fun S G => by rw [valP_eq hvp]; exact hF S G
      have hvia := fun G => bt_via (R := List (List PV) × Out × Bool) y f t hx hx' p.1 (valP p.2) hF' G
      rw [valP_eq hvp] at hvia
      rw [cond_true, hvia]
      cases b with
      | true =>
        simp only [Bool.not_true, cond_false]
        rw [bt_round f t hx', Option.bind_some]
        show (bif shpB [[.ptr 2 0], [.str f], [x']] then (bif true then _ else _) else none) = _
        rw [shp_of hx', cond_true, cond_true]
        exact bt_walk hy kk f t L x' o' hx' (fun q hq => hv q (List.mem_cons_of_mem _ hq)) h
      | false =>
        simp only [Bool.not_false, cond_true]
        rw [bt_round f t hx', Option.bind_some]
        show (bif shpB [[.ptr 2 0], [.str f], [x']] then (bif false then _ else _) else none) = _
        rw [shp_of hx', cond_true, cond_false]
        exact (bt_endR gFoA kk f t hx' o').trans h
def iBtw : IFn := ⟨fun bs o xs y k => match bs, xs with
  | [[.ptr 3 0], [.str f], [.str t], [x]], [.yld, .ptr 0 0, .ptr 1 0, .ptr 2 0] => (gRf x f).bind fun l => walkG (shp4 f t) y ((l.takeWhile (btT t)).map kvP) [[.ptr 3 0], [.str f], [.str t], [x]] o fun bs o _ => k bs o (.tuple [])
  | [[.nilptr], [.str f], [.str t]], [.yld, .ptr 0 0, .ptr 1 0, .ptr 2 0] => k [[.nilptr], [.str f], [.str t]] o (.tuple [])
  | _, _ => none⟩
theorem iBtw_nat : iBtw.nat := by
  intro R bs o xs y k
  simp only [iBtw]
  split
  · rw [obind_assoc]
    congr 1
    funext l
    exact walkG_nat _ y _ _ o (fun bs o b => some (bs, o, PV.tuple [])) (fun r => k r.1 r.2.1 r.2.2)
  all_goals rfl
theorem ok_lhFr : AllH NGt Wt lhFr := allH_cons ok_from allH_nil
theorem ok_liFr : AllI NGt Wt (liFr gFoA) := allI_cons okFrom1 allI_nil
theorem ok_iBtw : IOK NGt Wt 88 iBtw := by
  refine iok wokt allOK_nil ok_lhFr ok_liFr (h := h0) Tryz.func88 rfl (by decide) ?_ ?_
  · exact iBtw_nat
  · intro bs o xs y r hy h
    simp only [iBtw] at h
    split at h
    · rename_i f t x
      obtain ⟨l, hl, h⟩ := bind_some_inv h
      have hx := gRf_ok hl
      refine ⟨0, (bt_raw gFoA y _ f t hx.isR o).trans ?_⟩
      rw [hx.walk]
      exact bt_walk hy _ f t l x o hx.isR hx.vok h
    · rename_i f t
      exact ⟨0, (bt_rawN gFoA y _ f t o).trans h⟩
    · cases h
end Go.Proofs.YthjmjoioagocdaaGreatDoor.TS
end
section
set_option linter.unusedVariables false
set_option linter.unusedSimpArgs false
set_option maxRecDepth 100000
namespace Go.Proofs.YthjmjoioagocdaaGreatDoor.TS
open Go.RowKit
noncomputable def hE0 (fn : Func) : HFn := evalH [] [] [] h0 9 fn
theorem hE0_ok {f : FuncId} {fn : Func} (hf : Tryz.prog.funcs[f]? = some fn) (hb : fn.body.isSome = true) (hname : fn.name ≠ "runtime.NumGoroutine") : HOK NGt Wt f (hE0 fn) := evalH_ok wokt allOK_nil allH_nil allI_nil hf hb hname
noncomputable def hBet : HFn := evalH [] [(65, hE0 Tryz.f65)] [] h0 9 Tryz.f35
theorem ok_hBet : HOK NGt Wt 35 hBet := evalH_ok wokt allOK_nil (allH_cons (hE0_ok Tryz.func65 rfl (by decide)) allH_nil) allI_nil Tryz.func35 rfl (by decide)
/-- a row's number: of a key -/
def tRow (g : Ky → Option (Int × Int × Bool)) : PFn := ⟨fun xs k => match xs with | [.str s] => (g s).bind fun a => k (.tuple [.int .i64 a.1, .int .i64 a.2.1, .bool a.2.2]) | _ => none, false⟩
/-- a row as cells: its number, its slice of cells; and the error -/
abbrev RowC := Int × Option Bool × Nat × List PV
def rowP (r : RowC) : PV := .agg [.int .i64 r.1, .sl r.2.1 5 r.2.2.1 r.2.2.2]
def tRowOf (g : Int → Ky → Option (RowC × Int)) : PFn := ⟨fun xs k => match xs with | [.int .i64 i, .str s] => (g i s).bind fun a => k (.tuple [rowP a.1, .int .i64 a.2]) | _ => none, false⟩
theorem tRow_nat (g : Ky → Option (Int × Int × Bool)) : (tRow g).nat := by
  intro R xs k
  simp only [tRow]
  split
  · rw [obind_assoc]; rfl
  · rfl
theorem tRowOf_nat (g : Int → Ky → Option (RowC × Int)) : (tRowOf g).nat := by
  intro R xs k
  simp only [tRowOf]
  split
  · rw [obind_assoc]; rfl
  · rfl
section
variable {R : Type} (gr : Ky → Option (Int × Int × Bool)) (go : Int → Ky → Option (RowC × Int)) (y : YFn)
noncomputable def fRw : Func := Tryz.f34
noncomputable def lRw : List (FuncId × PFn) := [(37, tRow gr), (38, tRowOf go)]
noncomputable def lhRw : List (FuncId × HFn) := [(36, hE0 Tryz.f36), (35, hBet)]
noncomputable def liBt : List (FuncId × IFn) := [(88, iBtw)]
noncomputable def enRw0 : Env := enH (lRw gr go) lhRw liBt
noncomputable def enRw : Env := { enRw0 gr go with Y := some (4, y) }
def rwρ (f t : Ky) : List TV := [(.yld, 0), (.ptr 34 0, 0), (.ptr 35 0, 0), (.ptr 36 0, 0), (.ptr 40 0, 0), (.tuple [], 0), (.tuple [], 0), (.tuple [], 0), (.tuple [], 0), (.tuple [], 0), (.ptr 37 0, 0), (.ptr 41 0, 0), (.str f, 0), (.str t, 0), (.clo 88 [.ptr 42 0, .ptr 38 0, .ptr 39 0], 0)] ++ List.replicate 19 (.tuple [], 0)
def rwBx (f t : Ky) (x xc : PV) : List (Option (List TV)) := [some [(.ptr 37 0, 0)], some [(.str f, 0)], some [(.str t, 0)], some [(x, 0)], some [(.str f, 0)], some [(.str t, 0)], some [(.yld, 0)], some [(xc, 0)], some [(.ptr 41 0, 0)]]
noncomputable def rwY (f t : Ky) : YFn := rangeY [42, 38, 39, 41] #[15, 16] (rwρ f t) (fun {S} st k => rfRun (S := S) (enRw gr go y) h0 0 (subC [1, 1, 0] (fRw.body.getD .skip)) [0] st k)
noncomputable def rwKr (kk : List (List PV) → Out → PV → Option R) (st : St) : Option R := pfinH (enRw0 gr go) 4 fRw st fun bs o v => if bs.length = 4 then kk bs o v else none
noncomputable def rwE (kk : List (List PV) → Out → PV → Option R) (f t : Ky) : List (List PV) → Out → Option R := rangeEnd 34 [42, 38, 39, 41] (rwρ f t) (jumpK 0 (rwKr gr go kk) (rwKr gr go kk))
theorem rw_raw (kk : List (List PV) → Out → PV → Option R) (f t : Ky) {x : PV} (hx : IsR x) (o : Out) :
    prunI (enRw0 gr go) h0 0 fRw [[.ptr 3 0], [.str f], [.str t], [x]] o [.yld, .ptr 0 0, .ptr 1 0, .ptr 2 0] y kk =
      bif !Op.bytesLess f t then kk [[.ptr 3 0], [.str f], [.str t], [x]] o (.tuple [])
      else iBtw.F [[.ptr 3 0], [.str f], [.str t], [x]] (.fr (rwBx f t x x) none o) [.yld, .ptr 0 0, .ptr 1 0, .ptr 2 0] (rwY gr go y f t) fun bs o _ => rwE gr go kk f t bs o := by
  rcases hx with rfl | ⟨cx, rfl⟩ <;> kernel_rfl
theorem rw_step (f t : Ky) {x xc : PV} (hx : IsR x) (hc : IsR xc) (o : Out) (k v : Ky) (G : List (List PV) → Out → Bool → Option R) :
    (rwY gr go y f t).F [[.ptr 3 0], [.str f], [.str t], [xc]] (.fr (rwBx f t x xc) none o) [.str k, .str v] G =
      (gr k).bind fun a => bif a.2.2 then (go a.2.1 v).bind fun c =>
        viaB false 34 4 (bxOf 34 (rwBx f t x xc)) o [rowP c.1, .int .i64 c.2] (fun bs o xs G => y.F bs o xs G) fun bx o b => bif !b then rEnd 34 9 [42, 38, 39, 41] bx o (some .ret) G else rEnd 34 9 [42, 38, 39, 41] bx o none G
      else G [[.ptr 3 0], [.str f], [.str t], [xc]] (.fr (rwBx f t x xc) none o) true := by
  rcases hx with rfl | ⟨cx, rfl⟩ <;> rcases hc with rfl | ⟨cc, rfl⟩ <;> kernel_rfl
theorem rw_round (f t : Ky) {x xc : PV} (hx : IsR x) (hc : IsR xc) (o : Out) (j : Option Jump) (G : List (List PV) → Out → Bool → Option R) : rEnd 34 9 [42, 38, 39, 41] (bxOf 34 (rwBx f t x xc)) o j G = G [[.ptr 3 0], [.str f], [.str t], [xc]] (.fr (rwBx f t x xc) j o) j.isNone := by
  cases j <;> rcases hx with rfl | ⟨cx, rfl⟩ <;> rcases hc with rfl | ⟨cc, rfl⟩ <;> kernel_rfl
theorem rw_end (kk : List (List PV) → Out → PV → Option R) (f t : Ky) {x xc : PV} (hx : IsR x) (hc : IsR xc) (o : Out) :
    rwE gr go kk f t [[.ptr 3 0], [.str f], [.str t], [xc]] (.fr (rwBx f t x xc) none o) = kk [[.ptr 3 0], [.str f], [.str t], [x]] o (.tuple []) := by
  rcases hx with rfl | ⟨cx, rfl⟩ <;> rcases hc with rfl | ⟨cc, rfl⟩ <;> kernel_rfl
theorem rw_endR (kk : List (List PV) → Out → PV → Option R) (f t : Ky) {x xc : PV} (hx : IsR x) (hc : IsR xc) (o : Out) :
    rwE gr go kk f t [[.ptr 3 0], [.str f], [.str t], [xc]] (.fr (rwBx f t x xc) (some .ret) o) = kk [[.ptr 3 0], [.str f], [.str t], [x]] o (.tuple []) := by
  rcases hx with rfl | ⟨cx, rfl⟩ <;> rcases hc with rfl | ⟨cc, rfl⟩ <;> kernel_rfl
theorem rw_via (f t : Ky) {x x' xc : PV} (hx : IsR x) (hc : IsR xc) (hx' : IsR x') {o o' : Out} {b' : Bool} (c : RowC) (e : Int) (hF : ∀ (S : Type) (G : List (List PV) → Out → Bool → Option S), y.F [[.ptr 3 0], [.str f], [.str t], [x]] o [rowP c, .int .i64 e] G = G [[.ptr 3 0], [.str f], [.str t], [x']] o' b')
    (G : List (Option (List TV)) → Out → Bool → Option R) : viaB false 34 4 (bxOf 34 (rwBx f t x xc)) o [rowP c, .int .i64 e] (fun bs o xs G => y.F bs o xs G) G = G (bxOf 34 (rwBx f t x' xc)) o' b' := by
  have h1 : lentBs (bxOf 34 (rwBx f t x xc)) (lentIds 34 4) = some [[.ptr 3 0], [.str f], [.str t], [x]] := by rcases hx with rfl | ⟨cs, rfl⟩ <;> rfl
  have h2 : mapO (renP (posOf (lentIds 34 4) 0) false 4) [rowP c, .int .i64 e] = some [rowP c, .int .i64 e] := rfl
  have h3 : mapO (mapO (renP (fun j => (lentIds 34 4)[j]?) false 4)) [[.ptr 3 0], [.str f], [.str t], [x']] = some [[.ptr 37 0], [.str f], [.str t], [x']] := by rcases hx' with rfl | ⟨cs, rfl⟩ <;> rfl
  have h4 : setBoxes (zipN (lentIds 34 4) [[.ptr 37 0], [.str f], [.str t], [x']]) (bxOf 34 (rwBx f t x xc)) = bxOf 34 (rwBx f t x' xc) := rfl
  have h5 : renP (fun j => (lentIds 34 4)[j]?) false 4 (.bool b') = some (.bool b') := rfl
  have hl : (lentIds 34 4).length = 4 := rfl
  unfold viaB
  simp only [h1, h2]
  rw [hF]
  simp only [h3, h5, h4, hl, List.length_cons, List.length_nil, if_true]
end
/-- the rows of pairs, and their errors -/
def rowsL (gr : Ky → Option (Int × Int × Bool)) (go : Int → Ky → Option (RowC × Int)) : List (Ky × PV) → Option (List (RowC × Int))
  | [] => some []
  | p :: L => (gr p.1).bind fun a => bif a.2.2 then (go a.2.1 (valP p.2)).bind fun c => (rowsL gr go L).map fun l => c :: l else rowsL gr go L
def reP (c : RowC × Int) : List PV := [rowP c.1, .int .i64 c.2]
theorem rw_walk {R : Type} {y : YFn} (hy : y.nat) (gr : Ky → Option (Int × Int × Bool)) (go : Int → Ky → Option (RowC × Int)) (kk : List (List PV) → Out → PV → Option R) (f t : Ky) {xc : PV} (hc : IsR xc) {r : R} : ∀ (L : List (Ky × PV)) (ys : List (RowC × Int)) (x : PV) (o : Out), IsR x → (∀ p ∈ L, vok p.2 = true) → rowsL gr go L = some ys →
    walkG (shp4 f t) y (ys.map reP) [[.ptr 3 0], [.str f], [.str t], [x]] o (fun bs o _ => kk bs o (.tuple [])) = some r →
    walkG (shp4 f t) (rwY gr go y f t) (L.map kvP) [[.ptr 3 0], [.str f], [.str t], [xc]] (.fr (rwBx f t x xc) none o) (fun bs o _ => rwE gr go kk f t bs o) = some r
  | [], ys, x, o, hx, hv, hl, h => by
    injection hl with hl
    subst hl
    exact (rw_end gr go kk f t hx hc o).trans h
  | p :: L, ys, x, o, hx, hv, hl, h => by
    have hvp := hv p List.mem_cons_self
    have hvL := fun q hq => hv q (List.mem_cons_of_mem _ hq)
    have hst := fun G => rw_step (R := List (List PV) × Out × Bool) gr go y f t hx hc o p.1 (valP p.2) G
    rw [valP_eq hvp] at hst
    have hsx : shp4 f t [[.ptr 3 0], [.str f], [.str t], [xc]] = true := by rcases hc with rfl | ⟨cs, rfl⟩ <;> simp [shp4]
    rw [List.map_cons]
    simp only [walkG]
    unfold yF kvP
    rw [hst]
    simp only [rowsL] at hl
    obtain ⟨a, ha, hl⟩ := bind_some_inv hl
    rw [ha, Option.bind_some]
    rcases hok : a.2.2 with _ | _ <;> rw [hok] at hl
    · rw [cond_false] at hl ⊢
      rw [Option.bind_some]
      show (bif shp4 f t [[.ptr 3 0], [.str f], [.str t], [xc]] then (bif true then _ else _) else none) = _
      rw [hsx, cond_true, cond_true]
      exact rw_walk hy gr go kk f t hc L ys x o hx hvL hl h
    · rw [cond_true] at hl ⊢
      obtain ⟨c, hgo, hl⟩ := bind_some_inv hl
      obtain ⟨ys', hl', rfl⟩ := Option.map_eq_some_iff.1 hl
      rw [hgo, Option.bind_some]
      rw [List.map_cons] at h
      simp only [walkG] at h
      obtain ⟨bs', o', b, hF, h⟩ := yF_inv hy h
      obtain ⟨hs, h⟩ := bif_inv h
      obtain ⟨x', rfl, hx'⟩ := shp4_inv hs
      rw [rw_via y f t hx hc hx' c.1 c.2 hF]
      cases b with
      | true =>
        simp only [Bool.not_true, cond_false]
        rw [rw_round f t hx' hc, Option.bind_some]
        show (bif shp4 f t [[.ptr 3 0], [.str f], [.str t], [xc]] then (bif true then _ else _) else none) = _
        rw [hsx, cond_true, cond_true]
        exact rw_walk hy gr go kk f t hc L ys' x' o' hx' hvL hl' h
      | false =>
        simp only [Bool.not_false, cond_true]
        rw [rw_round f t hx' hc, Option.bind_some]
        show (bif shp4 f t [[.ptr 3 0], [.str f], [.str t], [xc]] then (bif false then _ else _) else none) = _
        rw [hsx, cond_true, cond_false]
        exact (rw_endR gr go kk f t hx' hc o').trans h
/-- the rows between two keys of a root -/
def rowsB (gr : Ky → Option (Int × Int × Bool)) (go : Int → Ky → Option (RowC × Int)) (f t : Ky) (x : PV) : Option (List (RowC × Int)) :=
  bif !Op.bytesLess f t then some [] else (gRf x f).bind fun l => rowsL gr go (l.takeWhile (btT t))
def iRows (gr : Ky → Option (Int × Int × Bool)) (go : Int → Ky → Option (RowC × Int)) : IFn := ⟨fun bs o xs y k => match bs, xs with
  | [[.ptr 3 0], [.str f], [.str t], [x]], [.yld, .ptr 0 0, .ptr 1 0, .ptr 2 0] => (gRf x f).bind fun _ => (rowsB gr go f t x).bind fun ys => walkG (shp4 f t) y (ys.map reP) [[.ptr 3 0], [.str f], [.str t], [x]] o fun bs o _ => k bs o (.tuple [])
  | _, _ => none⟩
theorem iRows_nat (gr : Ky → Option (Int × Int × Bool)) (go : Int → Ky → Option (RowC × Int)) : (iRows gr go).nat := by
  intro R bs o xs y k
  simp only [iRows]
  split
  · rw [obind_assoc]
    congr 1
    funext l
    rw [obind_assoc]
    congr 1
    funext ys
    exact walkG_nat _ y _ _ o (fun bs o b => some (bs, o, PV.tuple [])) (fun r => k r.1 r.2.1 r.2.2)
  · rfl
theorem ok_lhRw : AllH NGt Wt lhRw := allH_cons (hE0_ok Tryz.func36 rfl (by decide)) (allH_cons ok_hBet allH_nil)
theorem ok_liBt : AllI NGt Wt liBt := allI_cons ok_iBtw allI_nil
theorem ok_iRows {gr : Ky → Option (Int × Int × Bool)} {go : Int → Ky → Option (RowC × Int)} (h1 : FOK NGt Wt 37 (tRow gr)) (h2 : FOK NGt Wt 38 (tRowOf go)) : IOK NGt Wt 34 (iRows gr go) := by
  refine iok wokt (allOK_cons h1 (allOK_cons h2 allOK_nil)) ok_lhRw ok_liBt (h := h0) Tryz.func34 rfl (by decide) (iRows_nat gr go) ?_
  intro bs o xs y r hy h
  simp only [iRows] at h
  split at h
  · rename_i f t x
    obtain ⟨l, hl, h⟩ := bind_some_inv h
    obtain ⟨ys, hys, h⟩ := bind_some_inv h
    have hx := gRf_ok hl
    refine ⟨0, (rw_raw gr go y _ f t hx.isR o).trans ?_⟩
    unfold rowsB at hys
    rcases hb : Op.bytesLess f t with _ | _ <;> rw [hb] at hys
    · simp only [Bool.not_false, cond_true] at hys ⊢
      injection hys with hys
      subst hys
      exact h
    · simp only [Bool.not_true, cond_false] at hys ⊢
      rw [hl, Option.bind_some] at hys
      simp only [iBtw]
      rw [hl, Option.bind_some]
      exact rw_walk hy gr go _ f t hx.isR _ ys x o hx.isR (fun p hp => hx.vok p (List.takeWhile_prefix _ |>.subset hp)) hys h
  · cases h
end Go.Proofs.YthjmjoioagocdaaGreatDoor.TS
end
section
set_option linter.unusedVariables false
set_option linter.unusedSimpArgs false
set_option maxRecDepth 100000
namespace Go.Proofs.YthjmjoioagocdaaGreatDoor.TS
open Go.RowKit
/-- an entry: the table, the index, the values, the row's number, whether it is one -/
abbrev EntC := Int × Int × (Option Bool × Nat × List PV) × Int × Bool
def tParse (g : Ky → Option EntC) : PFn := ⟨fun xs k => match xs with | [.str s] => (g s).bind fun a => k (.tuple [.int .i64 a.1, .int .i64 a.2.1, .sl a.2.2.1.1 4 a.2.2.1.2.1 a.2.2.1.2.2, .int .i64 a.2.2.2.1, .bool a.2.2.2.2]) | _ => none, false⟩
def tKey (g : Int → Int → Option Ky) : PFn := ⟨fun xs k => match xs with | [.int .i64 a, .int .i64 b] => (g a b).bind fun s => k (.str s) | _ => none, false⟩
theorem tParse_nat (g : Ky → Option EntC) : (tParse g).nat := by
  intro R xs k
  simp only [tParse]
  split
  · rw [obind_assoc]; rfl
  · rfl
theorem tKey_nat (g : Int → Int → Option Ky) : (tKey g).nat := by
  intro R xs k
  simp only [tKey]
  split
  · rw [obind_assoc]; rfl
  · rfl
def getR (gg : List PV → Ky → Option (Ky × Bool)) (x : PV) (s : Ky) : Option (Ky × Bool) := match x with | .nilptr => some ([], false) | .eptr cs => gg cs s | _ => none
def noRow (i : Int) : RowC := (i, some true, 0, [])
def shp5 (f t : Ky) (tb : Int) : List (List PV) → Bool
  | [[.ptr 4 0], [.str f'], [.str t'], [.int .i64 tb'], [.nilptr]] => f' == f && t' == t && tb' == tb
  | [[.ptr 4 0], [.str f'], [.str t'], [.int .i64 tb'], [.eptr _]] => f' == f && t' == t && tb' == tb
  | _ => false
theorem shp5_inv {f t : Ky} {tb : Int} {bs : List (List PV)} (h : shp5 f t tb bs = true) : ∃ x, bs = [[.ptr 4 0], [.str f], [.str t], [.int .i64 tb], [x]] ∧ IsR x := by
  unfold shp5 at h
  split at h
  · simp only [Bool.and_eq_true, beq_iff_eq] at h
    obtain ⟨⟨rfl, rfl⟩, rfl⟩ := h
    exact ⟨_, rfl, .inl rfl⟩
  · simp only [Bool.and_eq_true, beq_iff_eq] at h
    obtain ⟨⟨rfl, rfl⟩, rfl⟩ := h
    exact ⟨_, rfl, .inr ⟨_, rfl⟩⟩
  · cases h
section
variable {R : Type} (ge : Ky → Option EntC) (gk : Int → Int → Option Ky) (gg : List PV → Ky → Option (Ky × Bool)) (go : Int → Ky → Option (RowC × Int)) (y : YFn)
noncomputable def fEs : Func := Tryz.f55
noncomputable def lEs : List (FuncId × PFn) := [(56, tParse ge), (58, tKey gk), (38, tRowOf go)]
noncomputable def lhEs : List (FuncId × HFn) := [(36, hE0 Tryz.f36), (35, hBet), (57, hGet gg)]
noncomputable def enEs0 : Env := enH (lEs ge gk go) (lhEs gg) liBt
noncomputable def enEs : Env := { enEs0 ge gk gg go with Y := some (5, y) }
def esρ (f t : Ky) : List TV := [(.yld, 0), (.ptr 56 0, 0), (.ptr 57 0, 0), (.ptr 58 0, 0), (.ptr 59 0, 0), (.ptr 63 0, 0), (.ptr 64 0, 0)] ++ List.replicate 8 (.tuple [], 0) ++ [(.ptr 60 0, 0), (.ptr 65 0, 0), (.ptr 65 0, 0), (.str f, 0), (.str t, 0), (.clo 88 [.ptr 66 0, .ptr 61 0, .ptr 62 0], 0)] ++ List.replicate 35 (.tuple [], 0)
def esBx (f t : Ky) (tb : Int) (x xc : PV) : List (Option (List TV)) := [some [(.ptr 60 0, 0)], some [(.str f, 0)], some [(.str t, 0)], some [(.int .i64 tb, 0)], some [(x, 0)], some [(.str f, 0)], some [(.str t, 0)], some [(.yld, 0)], some [(.ptr 65 0, 0)], some [(xc, 0)], some [(.ptr 65 0, 0)]]
noncomputable def esY (f t : Ky) : YFn := rangeY [66, 61, 62, 65] #[21, 22] (esρ f t) (fun {S} st k => rfRun (S := S) (enEs ge gk gg go y) h0 0 (subC [1, 1, 1, 0] (fEs.body.getD .skip)) [0] st k)
noncomputable def esKr (kk : List (List PV) → Out → PV → Option R) (st : St) : Option R := pfinH (enEs0 ge gk gg go) 5 fEs st fun bs o v => if bs.length = 5 then kk bs o v else none
noncomputable def esE (kk : List (List PV) → Out → PV → Option R) (f t : Ky) : List (List PV) → Out → Option R := rangeEnd 56 [66, 61, 62, 65] (esρ f t) (jumpK 0 (esKr ge gk gg go kk) (esKr ge gk gg go kk))
theorem es_raw (kk : List (List PV) → Out → PV → Option R) (f t : Ky) (tb : Int) {x : PV} (hx : IsR x) (o : Out) :
    prunI (enEs0 ge gk gg go) h0 0 fEs [[.ptr 4 0], [.str f], [.str t], [.int .i64 tb], [x]] o [.yld, .ptr 0 0, .ptr 1 0, .ptr 2 0, .ptr 3 0] y kk =
      bif !Op.bytesLess f t then kk [[.ptr 4 0], [.str f], [.str t], [.int .i64 tb], [x]] o (.tuple [])
      else iBtw.F [[.ptr 3 0], [.str f], [.str t], [x]] (.fr (esBx f t tb x x) none o) [.yld, .ptr 0 0, .ptr 1 0, .ptr 2 0] (esY ge gk gg go y f t) fun bs o _ => esE ge gk gg go kk f t bs o := by
  rcases hx with rfl | ⟨cx, rfl⟩ <;> kernel_rfl
theorem es_step (f t : Ky) (tb : Int) {x xc : PV} (hx : IsR x) (hc : IsR xc) (o : Out) (k v : Ky) (G : List (List PV) → Out → Bool → Option R) :
    (esY ge gk gg go y f t).F [[.ptr 3 0], [.str f], [.str t], [xc]] (.fr (esBx f t tb x xc) none o) [.str k, .str v] G =
      (ge k).bind fun a => bif !a.2.2.2.2 then G [[.ptr 3 0], [.str f], [.str t], [xc]] (.fr (esBx f t tb x xc) none o) true else
        (gk tb a.2.2.2.1).bind fun s => (getR gg xc s).bind fun q => bif !q.2 then
          viaB false 56 5 (bxOf 56 (esBx f t tb x xc)) o [rowP (noRow a.2.2.2.1), .int .i64 100] (fun bs o xs G => y.F bs o xs G) fun bx o b => bif !b then rEnd 56 11 [66, 61, 62, 65] bx o (some .ret) G else rEnd 56 11 [66, 61, 62, 65] bx o none G
        else (go a.2.2.2.1 q.1).bind fun c =>
          viaB false 56 5 (bxOf 56 (esBx f t tb x xc)) o [rowP c.1, .int .i64 c.2] (fun bs o xs G => y.F bs o xs G) fun bx o b => bif !b then rEnd 56 11 [66, 61, 62, 65] bx o (some .ret) G else rEnd 56 11 [66, 61, 62, 65] bx o none G := by
  rcases hx with rfl | ⟨cx, rfl⟩ <;> rcases hc with rfl | ⟨cc, rfl⟩ <;> kernel_rfl
theorem es_round (f t : Ky) (tb : Int) {x xc : PV} (hx : IsR x) (hc : IsR xc) (o : Out) (j : Option Jump) (G : List (List PV) → Out → Bool → Option R) : rEnd 56 11 [66, 61, 62, 65] (bxOf 56 (esBx f t tb x xc)) o j G = G [[.ptr 3 0], [.str f], [.str t], [xc]] (.fr (esBx f t tb x xc) j o) j.isNone := by
  cases j <;> rcases hx with rfl | ⟨cx, rfl⟩ <;> rcases hc with rfl | ⟨cc, rfl⟩ <;> kernel_rfl
theorem es_end (kk : List (List PV) → Out → PV → Option R) (f t : Ky) (tb : Int) {x xc : PV} (hx : IsR x) (hc : IsR xc) (o : Out) :
    esE ge gk gg go kk f t [[.ptr 3 0], [.str f], [.str t], [xc]] (.fr (esBx f t tb x xc) none o) = kk [[.ptr 4 0], [.str f], [.str t], [.int .i64 tb], [x]] o (.tuple []) := by
  rcases hx with rfl | ⟨cx, rfl⟩ <;> rcases hc with rfl | ⟨cc, rfl⟩ <;> kernel_rfl
theorem es_endR (kk : List (List PV) → Out → PV → Option R) (f t : Ky) (tb : Int) {x xc : PV} (hx : IsR x) (hc : IsR xc) (o : Out) :
    esE ge gk gg go kk f t [[.ptr 3 0], [.str f], [.str t], [xc]] (.fr (esBx f t tb x xc) (some .ret) o) = kk [[.ptr 4 0], [.str f], [.str t], [.int .i64 tb], [x]] o (.tuple []) := by
  rcases hx with rfl | ⟨cx, rfl⟩ <;> rcases hc with rfl | ⟨cc, rfl⟩ <;> kernel_rfl
theorem es_via (f t : Ky) (tb : Int) {x x' xc : PV} (hx : IsR x) (hc : IsR xc) (hx' : IsR x') {o o' : Out} {b' : Bool} (c : RowC) (e : Int) (hF : ∀ (S : Type) (G : List (List PV) → Out → Bool → Option S), y.F [[.ptr 4 0], [.str f], [.str t], [.int .i64 tb], [x]] o [rowP c, .int .i64 e] G = G [[.ptr 4 0], [.str f], [.str t], [.int .i64 tb], [x']] o' b')
    (G : List (Option (List TV)) → Out → Bool → Option R) : viaB false 56 5 (bxOf 56 (esBx f t tb x xc)) o [rowP c, .int .i64 e] (fun bs o xs G => y.F bs o xs G) G = G (bxOf 56 (esBx f t tb x' xc)) o' b' := by
  have h1 : lentBs (bxOf 56 (esBx f t tb x xc)) (lentIds 56 5) = some [[.ptr 4 0], [.str f], [.str t], [.int .i64 tb], [x]] := by rcases hx with rfl | ⟨cs, rfl⟩ <;> rfl
  have h2 : mapO (renP (posOf (lentIds 56 5) 0) false 4) [rowP c, .int .i64 e] = some [rowP c, .int .i64 e] := rfl
  have h3 : mapO (mapO (renP (fun j => (lentIds 56 5)[j]?) false 4)) [[.ptr 4 0], [.str f], [.str t], [.int .i64 tb], [x']] = some [[.ptr 60 0], [.str f], [.str t], [.int .i64 tb], [x']] := by rcases hx' with rfl | ⟨cs, rfl⟩ <;> rfl
  have h4 : setBoxes (zipN (lentIds 56 5) [[.ptr 60 0], [.str f], [.str t], [.int .i64 tb], [x']]) (bxOf 56 (esBx f t tb x xc)) = bxOf 56 (esBx f t tb x' xc) := rfl
  have h5 : renP (fun j => (lentIds 56 5)[j]?) false 4 (.bool b') = some (.bool b') := rfl
  have hl : (lentIds 56 5).length = 5 := rfl
  unfold viaB
  simp only [h1, h2]
  rw [hF]
  simp only [h3, h5, h4, hl, List.length_cons, List.length_nil, if_true]
end
/-- the rows of entries, and their errors -/
def entRow (gk : Int → Int → Option Ky) (gg : List PV → Ky → Option (Ky × Bool)) (go : Int → Ky → Option (RowC × Int)) (tb : Int) (xc : PV) (i : Int) : Option (RowC × Int) :=
  (gk tb i).bind fun s => (getR gg xc s).bind fun q => bif !q.2 then some (noRow i, 100) else go i q.1
def entsL (ge : Ky → Option EntC) (gk : Int → Int → Option Ky) (gg : List PV → Ky → Option (Ky × Bool)) (go : Int → Ky → Option (RowC × Int)) (tb : Int) (xc : PV) : List (Ky × PV) → Option (List (RowC × Int))
  | [] => some []
  | p :: L => (ge p.1).bind fun a => bif !a.2.2.2.2 then entsL ge gk gg go tb xc L else (entRow gk gg go tb xc a.2.2.2.1).bind fun c => (entsL ge gk gg go tb xc L).map fun l => c :: l
theorem es_walk {R : Type} {y : YFn} (hy : y.nat) (ge : Ky → Option EntC) (gk : Int → Int → Option Ky) (gg : List PV → Ky → Option (Ky × Bool)) (go : Int → Ky → Option (RowC × Int)) (kk : List (List PV) → Out → PV → Option R) (f t : Ky) (tb : Int) {xc : PV} (hc : IsR xc) {r : R} : ∀ (L : List (Ky × PV)) (ys : List (RowC × Int)) (x : PV) (o : Out), IsR x → (∀ p ∈ L, vok p.2 = true) → entsL ge gk gg go tb xc L = some ys →
    walkG (shp5 f t tb) y (ys.map reP) [[.ptr 4 0], [.str f], [.str t], [.int .i64 tb], [x]] o (fun bs o _ => kk bs o (.tuple [])) = some r →
    walkG (shp4 f t) (esY ge gk gg go y f t) (L.map kvP) [[.ptr 3 0], [.str f], [.str t], [xc]] (.fr (esBx f t tb x xc) none o) (fun bs o _ => esE ge gk gg go kk f t bs o) = some r
  | [], ys, x, o, hx, hv, hl, h => by
    injection hl with hl
    subst hl
    exact (es_end ge gk gg go kk f t tb hx hc o).trans h
  | p :: L, ys, x, o, hx, hv, hl, h => by
    have hvp := hv p List.mem_cons_self
    have hvL := fun q hq => hv q (List.mem_cons_of_mem _ hq)
    have hst := fun G => es_step (R := List (List PV) × Out × Bool) ge gk gg go y f t tb hx hc o p.1 (valP p.2) G
    rw [valP_eq hvp] at hst
    have hsx : shp4 f t [[.ptr 3 0], [.str f], [.str t], [xc]] = true := by rcases hc with rfl | ⟨cs, rfl⟩ <;> simp [shp4]
    rw [List.map_cons]
    simp only [walkG]
    unfold yF kvP
    rw [hst]
    simp only [entsL] at hl
    obtain ⟨a, ha, hl⟩ := bind_some_inv hl
    rw [ha, Option.bind_some]
    rcases hok : a.2.2.2.2 with _ | _ <;> rw [hok] at hl
    · simp only [Bool.not_false, cond_true] at hl ⊢
      rw [Option.bind_some]
      show (bif shp4 f t [[.ptr 3 0], [.str f], [.str t], [xc]] then (bif true then _ else _) else none) = _
      rw [hsx, cond_true, cond_true]
      exact es_walk hy ge gk gg go kk f t tb hc L ys x o hx hvL hl h
    · simp only [Bool.not_true, cond_false] at hl ⊢
      obtain ⟨c, hgo, hl⟩ := bind_some_inv hl
      obtain ⟨ys', hl', rfl⟩ := Option.map_eq_some_iff.1 hl
      unfold entRow at hgo
      obtain ⟨s, hs1, hgo⟩ := bind_some_inv hgo
      obtain ⟨q, hq1, hgo⟩ := bind_some_inv hgo
      rw [hs1, Option.bind_some, hq1, Option.bind_some]
      rw [List.map_cons] at h
      simp only [walkG] at h
      obtain ⟨bs', o', b, hF, h⟩ := yF_inv hy h
      obtain ⟨hs, h⟩ := bif_inv h
      obtain ⟨x', rfl, hx'⟩ := shp5_inv hs
      have fin : ((viaB false 56 5 (bxOf 56 (esBx f t tb x xc)) o [rowP c.1, .int .i64 c.2] (fun bs o xs G => y.F bs o xs G) fun bx o b => bif !b then rEnd 56 11 [66, 61, 62, 65] bx o (some .ret) (fun b o v => some (b, o, v)) else rEnd 56 11 [66, 61, 62, 65] bx o none (fun b o v => some (b, o, v))).bind fun r => bif shp4 f t r.1 then (bif r.2.2 then walkG (shp4 f t) (esY ge gk gg go y f t) (L.map kvP) r.1 r.2.1 (fun bs o _ => esE ge gk gg go kk f t bs o) else esE ge gk gg go kk f t r.1 r.2.1) else none) = some r := by
        rw [es_via y f t tb hx hc hx' c.1 c.2 hF]
        cases b with
        | true =>
          simp only [Bool.not_true, cond_false]
          rw [es_round f t tb hx' hc, Option.bind_some]
          show (bif shp4 f t [[.ptr 3 0], [.str f], [.str t], [xc]] then (bif true then _ else _) else none) = _
          rw [hsx, cond_true, cond_true]
          exact es_walk hy ge gk gg go kk f t tb hc L ys' x' o' hx' hvL hl' h
        | false =>
          simp only [Bool.not_false, cond_true]
          rw [es_round f t tb hx' hc, Option.bind_some]
          show (bif shp4 f t [[.ptr 3 0], [.str f], [.str t], [xc]] then (bif false then _ else _) else none) = _
          rw [hsx, cond_true, cond_false]
          exact (es_endR ge gk gg go kk f t tb hx' hc o').trans h
      rcases hq2 : q.2 with _ | _ <;> rw [hq2] at hgo
      · simp only [Bool.not_false, cond_true] at hgo ⊢
        injection hgo with hgo
        subst hgo
        exact fin
      · simp only [Bool.not_true, cond_false] at hgo ⊢
        rw [hgo, Option.bind_some]
        exact fin
def entsB (ge : Ky → Option EntC) (gk : Int → Int → Option Ky) (gg : List PV → Ky → Option (Ky × Bool)) (go : Int → Ky → Option (RowC × Int)) (tb : Int) (f t : Ky) (x : PV) : Option (List (RowC × Int)) :=
  bif !Op.bytesLess f t then some [] else (gRf x f).bind fun l => entsL ge gk gg go tb x (l.takeWhile (btT t))
def iEnts (ge : Ky → Option EntC) (gk : Int → Int → Option Ky) (gg : List PV → Ky → Option (Ky × Bool)) (go : Int → Ky → Option (RowC × Int)) : IFn := ⟨fun bs o xs y k => match bs, xs with
  | [[.ptr 4 0], [.str f], [.str t], [.int .i64 tb], [x]], [.yld, .ptr 0 0, .ptr 1 0, .ptr 2 0, .ptr 3 0] => (gRf x f).bind fun _ => (entsB ge gk gg go tb f t x).bind fun ys => walkG (shp5 f t tb) y (ys.map reP) [[.ptr 4 0], [.str f], [.str t], [.int .i64 tb], [x]] o fun bs o _ => k bs o (.tuple [])
  | _, _ => none⟩
theorem iEnts_nat (ge : Ky → Option EntC) (gk : Int → Int → Option Ky) (gg : List PV → Ky → Option (Ky × Bool)) (go : Int → Ky → Option (RowC × Int)) : (iEnts ge gk gg go).nat := by
  intro R bs o xs y k
  simp only [iEnts]
  split
  · rw [obind_assoc]
    congr 1
    funext l
    rw [obind_assoc]
    congr 1
    funext ys
    exact walkG_nat _ y _ _ o (fun bs o b => some (bs, o, PV.tuple [])) (fun r => k r.1 r.2.1 r.2.2)
  · rfl
theorem ok_iEnts {ge : Ky → Option EntC} {gk : Int → Int → Option Ky} {gg : List PV → Ky → Option (Ky × Bool)} {go : Int → Ky → Option (RowC × Int)} (h1 : FOK NGt Wt 56 (tParse ge)) (h2 : FOK NGt Wt 58 (tKey gk)) (h3 : FOK NGt Wt 38 (tRowOf go))
    (h4 : HOK NGt Wt 57 (hGet gg)) : IOK NGt Wt 55 (iEnts ge gk gg go) := by
  refine iok wokt (allOK_cons h1 (allOK_cons h2 (allOK_cons h3 allOK_nil))) (allH_cons (hE0_ok Tryz.func36 rfl (by decide)) (allH_cons ok_hBet (allH_cons h4 allH_nil))) ok_liBt (h := h0) Tryz.func55 rfl (by decide) (iEnts_nat ge gk gg go) ?_
  intro bs o xs y r hy h
  simp only [iEnts] at h
  split at h
  · rename_i f t tb x
    obtain ⟨l, hl, h⟩ := bind_some_inv h
    obtain ⟨ys, hys, h⟩ := bind_some_inv h
    have hx := gRf_ok hl
    refine ⟨0, (es_raw ge gk gg go y _ f t tb hx.isR o).trans ?_⟩
    unfold entsB at hys
    rcases hb : Op.bytesLess f t with _ | _ <;> rw [hb] at hys
    · simp only [Bool.not_false, cond_true] at hys ⊢
      injection hys with hys
      subst hys
      exact h
    · simp only [Bool.not_true, cond_false] at hys ⊢
      rw [hl, Option.bind_some] at hys
      simp only [iBtw]
      rw [hl, Option.bind_some]
      exact es_walk hy ge gk gg go _ f t tb hx.isR _ ys x o hx.isR (fun p hp => hx.vok p (List.takeWhile_prefix _ |>.subset hp)) hys h
  · cases h
end Go.Proofs.YthjmjoioagocdaaGreatDoor.TS
end
section
set_option linter.unusedVariables false
set_option linter.unusedSimpArgs false
set_option maxRecDepth 100000
namespace Go.Proofs.YthjmjoioagocdaaGreatDoor.TS
open Go.RowKit
def hLs : Hints := ⟨[(4000000, ⟨[(2, false), (3, false)], [2, 3, 21, 22, 23, 24, 25, 26, 27, 28]⟩)], []⟩
/-- room for one more row -/
noncomputable def roomR {S : Type} (lo : Nat) (k : Option S) : Option S := bif decide (lo + 1 ≤ 9223372036854775807) && decide ((lo + 1) * bytesOf Tryz.prog 50 ≤ roomB) then k else none
theorem roomR_t {S : Type} {lo : Nat} (h : lo ≤ 1000000) (k : Option S) : roomR lo k = k := by
  unfold roomR
  rw [show bytesOf Tryz.prog 50 = 32 by kernel_rfl]
  exact cond_t (by rw [decide_eq_true (by omega), decide_eq_true (by unfold roomB; omega)]; rfl)
section
variable {R : Type} (ir ie : IFn)
noncomputable def fLs : Func := Tryz.f10
noncomputable def liLs : List (FuncId × IFn) := [(34, ir), (55, ie)]
noncomputable def enLs : Env := enH [] [] (liLs ir ie)
def nil2 : PV := .sl (some true) 2 0 []
noncomputable def lsKr (nl : Nat) (kk : List (List PV) → PV → Option R) (st : St) : Option R := pfinH (enLs ir ie) nl fLs st fun bs _ v => kk bs v
noncomputable def lsK (nl : Nat) (kk : List (List PV) → PV → Option R) (st : St) : Option R := pcode (enLs ir ie) hLs 0 (subC [1, 1, 1, 1] (fLs.body.getD .skip)) (lsKr ir ie nl kk) 0 st (lsKr ir ie nl kk) []
def cRw : PV := .clo 34 [.ptr 21 0, .ptr 22 0, .ptr 23 0]
def lsρ : List TV := [(cRw, 0), (.tuple [], 0), (.ptr 25 0, 0), (.ptr 26 0, 0), (.ptr 27 0, 0), (.tuple [], 0), (.tuple [], 0), (cRw, 0), (.bool false, 0), (cRw, 0)] ++ List.replicate 11 (.tuple [], 0)
def tagN (x : PV) (n : Nat) : Nat := if x.nilSl then n else 0
def lsBx (f t : Ky) (x out : PV) : List (Option (List TV)) := [some [(.ptr 24 0, 0)], some [(.str f, 0)], some [(.str t, 0)], some [(x, 0)], some [(nil2, 48)], some [(.int .i64 0, 0)], some [(out, 50)]]
def lsBxR (f t : Ky) (x out : PV) (e : Int) : List (Option (List TV)) := [some [(.ptr 24 0, 0)], some [(.str f, 0)], some [(.str t, 0)], some [(x, 0)], some [(out, tagN out 48)], some [(.int .i64 e, 0)], some [(out, tagN out 50)]]
noncomputable def lsY : YFn := rangeY [21, 22, 23, 24] #[10, 11] lsρ (fun {S} st k => rfRun (S := S) (enLs ir ie) hLs 0 (subC [1, 1, 1, 0, 1, 0] (fLs.body.getD .skip)) [0] st k)
noncomputable def lsE (kk : List (List PV) → PV → Option R) : List (List PV) → Out → Option R := rangeEnd 21 [21, 22, 23, 24] lsρ (jumpK 0 (lsK ir ie 4 kk) (lsKr ir ie 4 kk))
theorem ls_raw (kk : List (List PV) → PV → Option R) (f t : Ky) {x : PV} (hx : IsR x) :
    prunH (enLs ir ie) hLs 0 fLs [[.ptr 3 0], [.str f], [.str t], [x]] [.clo 34 [.ptr 0 0, .ptr 1 0, .ptr 2 0]] kk =
      ir.F [[.ptr 3 0], [.str f], [.str t], [x]] (.fr (lsBx f t x nil2) none .nil) [.yld, .ptr 0 0, .ptr 1 0, .ptr 2 0] (lsY ir ie) fun bs o _ => lsE ir ie kk bs o := by
  rcases hx with rfl | ⟨cx, rfl⟩ <;> kernel_rfl
theorem ls_step (f t : Ky) {x : PV} (hx : IsR x) (no : Option Bool) (lo : Nat) (co : List PV) (c : RowC) (e : Int) (G : List (List PV) → Out → Bool → Option R) :
    (lsY ir ie).F [[.ptr 3 0], [.str f], [.str t], [x]] (.fr (lsBx f t x (.sl no 2 lo co)) none .nil) [rowP c, .int .i64 e] G =
      bif e != 0 then G [[.ptr 3 0], [.str f], [.str t], [x]] (.fr (lsBxR f t x (.sl no 2 lo co) e) (some .ret) .nil) false
      else roomR lo (G [[.ptr 3 0], [.str f], [.str t], [x]] (.fr (lsBx f t x (.sl (no.map (· && (1 == 0))) 2 (lo + 1) (co ++ [.int .i64 c.1, .sl c.2.1 5 c.2.2.1 c.2.2.2]))) none .nil) true) := by
  rcases hx with rfl | ⟨cx, rfl⟩ <;> kernel_rfl
theorem ls_end (kk : List (List PV) → PV → Option R) (f t : Ky) {x : PV} (hx : IsR x) (no : Option Bool) (lo : Nat) (co : List PV) :
    lsE ir ie kk [[.ptr 3 0], [.str f], [.str t], [x]] (.fr (lsBx f t x (.sl no 2 lo co)) none .nil) = kk [[.ptr 3 0], [.str f], [.str t], [x]] (.tuple [.sl no 2 lo co, .int .i64 0]) := by
  rcases hx with rfl | ⟨cx, rfl⟩ <;> kernel_rfl
theorem ls_endR (kk : List (List PV) → PV → Option R) (f t : Ky) {x : PV} (hx : IsR x) (no : Option Bool) (lo : Nat) (co : List PV) (e : Int) :
    lsE ir ie kk [[.ptr 3 0], [.str f], [.str t], [x]] (.fr (lsBxR f t x (.sl no 2 lo co) e) (some .ret) .nil) = kk [[.ptr 3 0], [.str f], [.str t], [x]] (.tuple [.sl no 2 lo co, .int .i64 e]) := by
  rcases hx with rfl | ⟨cx, rfl⟩ <;> kernel_rfl
def cEs : PV := .clo 55 [.ptr 21 0, .ptr 22 0, .ptr 23 0, .ptr 24 0]
def leρ : List TV := [(cEs, 0), (.tuple [], 0), (.ptr 26 0, 0), (.ptr 27 0, 0), (.ptr 28 0, 0), (.tuple [], 0), (.tuple [], 0), (cEs, 0), (.bool false, 0), (cEs, 0)] ++ List.replicate 11 (.tuple [], 0)
def leBx (f t : Ky) (tb : Int) (x out : PV) : List (Option (List TV)) := [some [(.ptr 25 0, 0)], some [(.str f, 0)], some [(.str t, 0)], some [(.int .i64 tb, 0)], some [(x, 0)], some [(nil2, 49)], some [(.int .i64 0, 0)], some [(out, 51)]]
def leBxR (f t : Ky) (tb : Int) (x out : PV) (e : Int) : List (Option (List TV)) := [some [(.ptr 25 0, 0)], some [(.str f, 0)], some [(.str t, 0)], some [(.int .i64 tb, 0)], some [(x, 0)], some [(out, tagN out 49)], some [(.int .i64 e, 0)], some [(out, tagN out 51)]]
noncomputable def leY : YFn := rangeY [21, 22, 23, 24, 25] #[10, 11] leρ (fun {S} st k => rfRun (S := S) (enLs ir ie) hLs 0 (subC [1, 1, 1, 0, 1, 0] (fLs.body.getD .skip)) [0] st k)
noncomputable def leE (kk : List (List PV) → PV → Option R) : List (List PV) → Out → Option R := rangeEnd 21 [21, 22, 23, 24, 25] leρ (jumpK 0 (lsK ir ie 5 kk) (lsKr ir ie 5 kk))
theorem le_raw (kk : List (List PV) → PV → Option R) (f t : Ky) (tb : Int) {x : PV} (hx : IsR x) :
    prunH (enLs ir ie) hLs 0 fLs [[.ptr 4 0], [.str f], [.str t], [.int .i64 tb], [x]] [.clo 55 [.ptr 0 0, .ptr 1 0, .ptr 2 0, .ptr 3 0]] kk =
      ie.F [[.ptr 4 0], [.str f], [.str t], [.int .i64 tb], [x]] (.fr (leBx f t tb x nil2) none .nil) [.yld, .ptr 0 0, .ptr 1 0, .ptr 2 0, .ptr 3 0] (leY ir ie) fun bs o _ => leE ir ie kk bs o := by
  rcases hx with rfl | ⟨cx, rfl⟩ <;> kernel_rfl
theorem le_step (f t : Ky) (tb : Int) {x : PV} (hx : IsR x) (no : Option Bool) (lo : Nat) (co : List PV) (c : RowC) (e : Int) (G : List (List PV) → Out → Bool → Option R) :
    (leY ir ie).F [[.ptr 4 0], [.str f], [.str t], [.int .i64 tb], [x]] (.fr (leBx f t tb x (.sl no 2 lo co)) none .nil) [rowP c, .int .i64 e] G =
      bif e != 0 then G [[.ptr 4 0], [.str f], [.str t], [.int .i64 tb], [x]] (.fr (leBxR f t tb x (.sl no 2 lo co) e) (some .ret) .nil) false
      else roomR lo (G [[.ptr 4 0], [.str f], [.str t], [.int .i64 tb], [x]] (.fr (leBx f t tb x (.sl (no.map (· && (1 == 0))) 2 (lo + 1) (co ++ [.int .i64 c.1, .sl c.2.1 5 c.2.2.1 c.2.2.2]))) none .nil) true) := by
  rcases hx with rfl | ⟨cx, rfl⟩ <;> kernel_rfl
theorem le_end (kk : List (List PV) → PV → Option R) (f t : Ky) (tb : Int) {x : PV} (hx : IsR x) (no : Option Bool) (lo : Nat) (co : List PV) :
    leE ir ie kk [[.ptr 4 0], [.str f], [.str t], [.int .i64 tb], [x]] (.fr (leBx f t tb x (.sl no 2 lo co)) none .nil) = kk [[.ptr 4 0], [.str f], [.str t], [.int .i64 tb], [x]] (.tuple [.sl no 2 lo co, .int .i64 0]) := by
  rcases hx with rfl | ⟨cx, rfl⟩ <;> kernel_rfl
theorem le_endR (kk : List (List PV) → PV → Option R) (f t : Ky) (tb : Int) {x : PV} (hx : IsR x) (no : Option Bool) (lo : Nat) (co : List PV) (e : Int) :
    leE ir ie kk [[.ptr 4 0], [.str f], [.str t], [.int .i64 tb], [x]] (.fr (leBxR f t tb x (.sl no 2 lo co) e) (some .ret) .nil) = kk [[.ptr 4 0], [.str f], [.str t], [.int .i64 tb], [x]] (.tuple [.sl no 2 lo co, .int .i64 e]) := by
  rcases hx with rfl | ⟨cx, rfl⟩ <;> kernel_rfl
theorem ls_nil (kk : List (List PV) → PV → Option R) : prunH (enLs ir ie) hLs 0 fLs [] [.nilFunc] kk = kk [] (.tuple [nil2, .int .i64 0]) := by kernel_rfl
end
def rwsC (l : List RowC) : List PV := l.flatMap fun c => [.int .i64 c.1, .sl c.2.1 5 c.2.2.1 c.2.2.2]
def rSl (l : List RowC) : PV := .sl (some l.isEmpty) 2 l.length (rwsC l)
/-- the rows up to the first error, and that -/
def listR : List (RowC × Int) → List RowC × Int
  | [] => ([], 0)
  | c :: l => if c.2 = 0 then (c.1 :: (listR l).1, (listR l).2) else ([], c.2)
theorem rSl_snoc (out : List RowC) (c : RowC) : (PV.sl ((some out.isEmpty).map (· && (1 == 0))) 2 (out.length + 1) (rwsC out ++ [.int .i64 c.1, .sl c.2.1 5 c.2.2.1 c.2.2.2])) = rSl (out ++ [c]) := by
  unfold rSl rwsC
  rw [List.flatMap_append, List.length_append]
  cases out <;> simp
theorem ls_walk {R : Type} (ir ie : IFn) (kk : List (List PV) → PV → Option R) (f t : Ky) {x : PV} (hx : IsR x) : ∀ (ys : List (RowC × Int)) (out : List RowC), out.length + ys.length ≤ 1000000 →
    walkG (shp4 f t) (lsY ir ie) (ys.map reP) [[.ptr 3 0], [.str f], [.str t], [x]] (.fr (lsBx f t x (rSl out)) none .nil) (fun bs o _ => lsE ir ie kk bs o) = kk [[.ptr 3 0], [.str f], [.str t], [x]] (.tuple [rSl (out ++ (listR ys).1), .int .i64 (listR ys).2])
  | [], out, hl => by
    rw [List.map_nil]
    simp only [walkG, listR, List.append_nil]
    exact ls_end ir ie kk f t hx _ _ _
  | c :: ys, out, hl => by
    have hsx : shp4 f t [[.ptr 3 0], [.str f], [.str t], [x]] = true := by rcases hx with rfl | ⟨cs, rfl⟩ <;> simp [shp4]
    have hst := fun G => ls_step (R := List (List PV) × Out × Bool) ir ie f t hx (some out.isEmpty) out.length (rwsC out) c.1 c.2 G
    rw [List.map_cons]
    simp only [walkG]
    unfold yF
    refine (congrArg (fun o => Option.bind o _) (hst _)).trans ?_
    by_cases he : c.2 = 0
    · rw [cond_f (by simpa using he), roomR_t (by simp at hl; omega), rSl_snoc, Option.bind_some]
      show (bif shp4 f t [[.ptr 3 0], [.str f], [.str t], [x]] then (bif true then _ else _) else none) = _
      rw [hsx, cond_true, cond_true]
      refine (ls_walk ir ie kk f t hx ys (out ++ [c.1]) (by simp at hl ⊢; omega)).trans ?_
      simp only [listR, if_pos he, List.append_assoc, List.singleton_append]
    · rw [cond_t (by simpa using he), Option.bind_some]
      show (bif shp4 f t [[.ptr 3 0], [.str f], [.str t], [x]] then (bif false then _ else _) else none) = _
      rw [hsx, cond_true, cond_false]
      simp only [listR, if_neg he, List.append_nil]
      exact ls_endR ir ie kk f t hx _ _ _ _
theorem le_walk {R : Type} (ir ie : IFn) (kk : List (List PV) → PV → Option R) (f t : Ky) (tb : Int) {x : PV} (hx : IsR x) : ∀ (ys : List (RowC × Int)) (out : List RowC), out.length + ys.length ≤ 1000000 →
    walkG (shp5 f t tb) (leY ir ie) (ys.map reP) [[.ptr 4 0], [.str f], [.str t], [.int .i64 tb], [x]] (.fr (leBx f t tb x (rSl out)) none .nil) (fun bs o _ => leE ir ie kk bs o) = kk [[.ptr 4 0], [.str f], [.str t], [.int .i64 tb], [x]] (.tuple [rSl (out ++ (listR ys).1), .int .i64 (listR ys).2])
  | [], out, hl => by
    rw [List.map_nil]
    simp only [walkG, listR, List.append_nil]
    exact le_end ir ie kk f t tb hx _ _ _
  | c :: ys, out, hl => by
    have hsx : shp5 f t tb [[.ptr 4 0], [.str f], [.str t], [.int .i64 tb], [x]] = true := by rcases hx with rfl | ⟨cs, rfl⟩ <;> simp [shp5]
    have hst := fun G => le_step (R := List (List PV) × Out × Bool) ir ie f t tb hx (some out.isEmpty) out.length (rwsC out) c.1 c.2 G
    rw [List.map_cons]
    simp only [walkG]
    unfold yF
    refine (congrArg (fun o => Option.bind o _) (hst _)).trans ?_
    by_cases he : c.2 = 0
    · rw [cond_f (by simpa using he), roomR_t (by simp at hl; omega), rSl_snoc, Option.bind_some]
      show (bif shp5 f t tb [[.ptr 4 0], [.str f], [.str t], [.int .i64 tb], [x]] then (bif true then _ else _) else none) = _
      rw [hsx, cond_true, cond_true]
      refine (le_walk ir ie kk f t tb hx ys (out ++ [c.1]) (by simp at hl ⊢; omega)).trans ?_
      simp only [listR, if_pos he, List.append_assoc, List.singleton_append]
    · rw [cond_t (by simpa using he), Option.bind_some]
      show (bif shp5 f t tb [[.ptr 4 0], [.str f], [.str t], [.int .i64 tb], [x]] then (bif false then _ else _) else none) = _
      rw [hsx, cond_true, cond_false]
      simp only [listR, if_neg he, List.append_nil]
      exact le_endR ir ie kk f t tb hx _ _ _ _
def hListS (gr : Ky → Option (Int × Int × Bool)) (ge : Ky → Option EntC) (gk : Int → Int → Option Ky) (gg : List PV → Ky → Option (Ky × Bool)) (go : Int → Ky → Option (RowC × Int)) : HFn := ⟨fun bs xs k => match bs, xs with
  | [[.ptr 3 0], [.str f], [.str t], [x]], [.clo g [.ptr 0 0, .ptr 1 0, .ptr 2 0]] => bif g == 34 then (gRf x f).bind fun _ => (rowsB gr go f t x).bind fun ys => bif decide (ys.length ≤ 1000000) then k [[.ptr 3 0], [.str f], [.str t], [x]] (.tuple [rSl (listR ys).1, .int .i64 (listR ys).2]) else none else none
  | [[.ptr 4 0], [.str f], [.str t], [.int .i64 tb], [x]], [.clo g [.ptr 0 0, .ptr 1 0, .ptr 2 0, .ptr 3 0]] => bif g == 55 then (gRf x f).bind fun _ => (entsB ge gk gg go tb f t x).bind fun ys => bif decide (ys.length ≤ 1000000) then k [[.ptr 4 0], [.str f], [.str t], [.int .i64 tb], [x]] (.tuple [rSl (listR ys).1, .int .i64 (listR ys).2]) else none else none
  | [], [.nilFunc] => k [] (.tuple [nil2, .int .i64 0])
  | _, _ => none⟩
theorem ok_list {gr : Ky → Option (Int × Int × Bool)} {ge : Ky → Option EntC} {gk : Int → Int → Option Ky} {gg : List PV → Ky → Option (Ky × Bool)} {go : Int → Ky → Option (RowC × Int)} (h1 : FOK NGt Wt 37 (tRow gr)) (h2 : FOK NGt Wt 56 (tParse ge)) (h3 : FOK NGt Wt 58 (tKey gk)) (h4 : FOK NGt Wt 38 (tRowOf go))
    (h5 : HOK NGt Wt 57 (hGet gg)) : HOK NGt Wt 10 (hListS gr ge gk gg go) := by
  have ok_I : AllI NGt Wt (liLs (iRows gr go) (iEnts ge gk gg go)) := allI_cons (ok_iRows h1 h4) (allI_cons (ok_iEnts h2 h3 h4 h5) allI_nil)
  refine hok wokt allOK_nil allH_nil ok_I (h := hLs) Tryz.func10 rfl (by decide) ?_ ?_
  · intro R bs xs k
    simp only [hListS]
    split
    · rw [bif_bind, obind_assoc]; congr 2; funext l; rw [obind_assoc]; congr 1; funext ys; rw [bif_bind]; rfl
    · rw [bif_bind, obind_assoc]; congr 2; funext l; rw [obind_assoc]; congr 1; funext ys; rw [bif_bind]; rfl
    · rfl
    · rfl
  · intro bs xs r h
    simp only [hListS] at h
    split at h
    · rename_i f t x g
      replace h := bif_inv h
      obtain ⟨hg, h⟩ := h
      replace h := bind_some_inv h
      obtain ⟨l, hl, h⟩ := h
      replace h := bind_some_inv h
      obtain ⟨ys, hys, h⟩ := h
      replace h := bif_inv h
      obtain ⟨hn, h⟩ := h
      obtain rfl : g = 34 := by simpa using hg
      simp only [decide_eq_true_eq] at hn
      have hx := gRf_ok hl
      refine ⟨0, (ls_raw _ _ _ f t hx.isR).trans ?_⟩
      simp only [iRows]
      rw [hl, Option.bind_some, hys, Option.bind_some]
      exact (ls_walk _ _ _ f t hx.isR ys [] (by simpa using hn)).trans h
    · rename_i f t tb x g
      replace h := bif_inv h
      obtain ⟨hg, h⟩ := h
      replace h := bind_some_inv h
      obtain ⟨l, hl, h⟩ := h
      replace h := bind_some_inv h
      obtain ⟨ys, hys, h⟩ := h
      replace h := bif_inv h
      obtain ⟨hn, h⟩ := h
      obtain rfl : g = 55 := by simpa using hg
      simp only [decide_eq_true_eq] at hn
      have hx := gRf_ok hl
      refine ⟨0, (le_raw _ _ _ f t tb hx.isR).trans ?_⟩
      simp only [iEnts]
      rw [hl, Option.bind_some, hys, Option.bind_some]
      exact (le_walk _ _ _ f t tb hx.isR ys [] (by simpa using hn)).trans h
    · exact ⟨0, (ls_nil _ _ _).trans h⟩
    · cases h
end Go.Proofs.YthjmjoioagocdaaGreatDoor.TS
end
section
set_option linter.unusedVariables false
set_option linter.unusedSimpArgs false
set_option maxRecDepth 100000
namespace Go.Proofs.YthjmjoioagocdaaGreatDoor
open Go.RowKit
def hIx : Hints := ⟨[], [(0, ⟨[(0, false), (1, false), (7, false), (8, false)], []⟩)]⟩
def cIn : PV := .clo 92 []
def frIx (n0 : Option Bool) (l0 : Nat) (c0 : List PV) (L i : Int) : St := frame 19 [(0, (.sl n0 4 l0 c0, 0)), (1, (cIn, 0)), (7, (.int .i64 L, 0)), (8, (.int .i64 i, 0))] []
theorem in1_raw (a n b : Int) (s : List UInt8) : prun (en []) ⟨[], []⟩ 0 false Tryz.f92 [.agg [.int .i64 a, .int .i64 n, .int .i64 b, .str s]] = some (.bool (a != 2)) := by kernel_rfl
def p_in1 : PFn := ⟨fun xs k => match xs with | [.agg [.int .i64 a, .int .i64 n, .int .i64 b, .str s]] => k (.bool (a != 2)) | _ => none, false⟩
theorem ok_in1 : FOK NGk Tabs 92 p_in1 := by
  refine fok wokk allOK_nil (h := ⟨[], []⟩) Tryz.func92 rfl (by decide) ?_ ?_
  · intro R xs k
    simp only [p_in1]
    split <;> rfl
  · intro xs r h
    simp only [p_in1] at h
    split at h
    · exact ⟨0, (in1_raw _ _ _ _).trans h⟩
    · cases h
noncomputable def lIx : List (FuncId × PFn) := [(92, p_in1)]
noncomputable def ixLoop (fu n : Nat) (st : St) : Option PV := loopF (en lIx) hIx fu false Tryz.f117 [1, 0, 1, 0] 0 n st
theorem ix_raw (fu : Nat) (n0 : Option Bool) (l0 : Nat) (c0 : List PV) : prun (en lIx) hIx fu false Tryz.f117 [.sl n0 4 l0 c0, cIn] = ixLoop fu fu (frIx n0 l0 c0 (l0 : Int) 0) := prunN_eq.trans (by kernel_rfl)
theorem ix_step (fu : Nat) (n0 : Option Bool) (l0 : Nat) (c0 : List PV) (L i : Int) (K : St → Option PV) :
    stepF (en lIx) hIx fu false Tryz.f117 [1, 0, 1, 0] (frIx n0 l0 c0 L i) (fun st => pnorm (hIx.loop.lookup 0) st K) =
    bif decide (i < L) then ixV l0 c0 i fun a _ _ _ => bif a != 2 then some (.int .i64 i) else K (frIx n0 l0 c0 L (IntKind.i64.wrap (i + 1))) else some (.int .i64 (-1)) := by kernel_rfl
/-- the place of the first that is no int -/
def notInt : Nat → List Val → Int
  | _, [] => -1
  | i, v :: l => if v.kind = 2 then notInt (i + 1) l else (i : Int)
theorem ix_loop (fu : Nat) (n0 : Option Bool) (l : List Val) (hl : l.length ≤ 1000000) : ∀ (k i n : Nat), i + k = l.length → k < n → ixLoop fu n (frIx n0 l.length (valsC l) (l.length : Int) (i : Int)) = some (.int .i64 (notInt i (l.drop i)))
  | k, i, 0, _, h => by omega
  | 0, i, n + 1, hi, hn => by
    unfold ixLoop
    rw [loopF_succ, ix_step, cond_f (decide_eq_false (by omega)), List.drop_of_length_le (by omega)]
    rfl
  | k + 1, i, n + 1, hi, hn => by
    have ih := ix_loop fu n0 l hl k (i + 1) n (by omega) (by omega)
    have hc := List.getElem?_eq_getElem (l := l) (i := i) (by omega)
    unfold ixLoop at ih ⊢
    rw [loopF_succ, ix_step, cond_t (decide_eq_true (by omega)), ixV_eq hc, wrapI_of (by omega) (by omega), List.drop_eq_getElem_cons (show i < l.length by omega)]
    simp only [notInt]
    by_cases hx : l[i].kind = 2
    · rw [cond_f (by simpa using hx), if_pos hx]
      exact ih
    · rw [cond_t (by simpa using hx), if_neg hx]
def p_ixf : PFn := ⟨fun xs k => match xs with | [.sl _ 4 n c, .clo g []] => bif g == 92 then (decV n c).bind fun l => bif decide (l.length ≤ 1000000) then k (.int .i64 (notInt 0 l)) else none else none | _ => none, false⟩
theorem ok_ixf : FOK NGk Tabs 117 p_ixf := by
  refine fok wokk (allOK_cons ok_in1 allOK_nil) (h := hIx) Tryz.func117 rfl (by decide) ?_ ?_
  · intro R xs k
    simp only [p_ixf]
    split
    · rename_i nl n c g
      cases g == 92
      · rfl
      · exact bindV_nat
    · rfl
  · intro xs r h
    simp only [p_ixf] at h
    split at h
    · rename_i nl n c g
      rcases hg : g == 92 with _ | _ <;> rw [hg] at h
      · cases h
      obtain rfl : g = 92 := by simpa using hg
      rw [cond_true] at h
      obtain ⟨l, h1, hb, rfl⟩ := bindV_inv h
      obtain ⟨rfl, rfl⟩ := decV_inv h1
      simp only [decide_eq_true_eq] at hb
      exact ⟨l.length + 1, (ix_raw _ nl _ _).trans (ix_loop _ nl l hb l.length 0 _ (by omega) (by omega))⟩
    · cases h
theorem cf_raw (n0 : Option Bool) (l0 : Nat) (c0 : List PV) : prun (en [(117, p_ixf)]) ⟨[], []⟩ 0 false Tryz.f91 [.sl n0 4 l0 c0, cIn] = (decV l0 c0).bind fun l => bif decide (l.length ≤ 1000000) then some (.bool (decide (0 ≤ notInt 0 l))) else none := by kernel_rfl
def p_cf : PFn := ⟨fun xs k => match xs with | [.sl _ 4 n c, .clo g []] => bif g == 92 then (decV n c).bind fun l => bif decide (l.length ≤ 1000000) then k (.bool (decide (0 ≤ notInt 0 l))) else none else none | _ => none, false⟩
theorem ok_cf : FOK NGk Tabs 91 p_cf := by
  refine fok wokk (allOK_cons ok_ixf allOK_nil) (h := ⟨[], []⟩) Tryz.func91 rfl (by decide) ?_ ?_
  · intro R xs k
    simp only [p_cf]
    split
    · rename_i nl n c g
      cases g == 92
      · rfl
      · exact bindV_nat
    · rfl
  · intro xs r h
    simp only [p_cf] at h
    split at h
    · rename_i nl n c g
      rcases hg : g == 92 with _ | _ <;> rw [hg] at h
      · cases h
      obtain rfl : g = 92 := by simpa using hg
      exact ⟨0, (cf_raw nl n c).trans h⟩
    · cases h
def isIntV (v : Val) : Bool := v.kind == 2
theorem notInt_all : ∀ (l : List Val) (i : Nat), (decide (0 ≤ notInt i l)) = !(l.all isIntV)
  | [], i => rfl
  | v :: l, i => by
    rw [List.all_cons]
    by_cases h : v.kind = 2
    · have e : notInt i (v :: l) = notInt (i + 1) l := by simp only [notInt]; exact if_pos h
      rw [e, notInt_all l (i + 1), show isIntV v = true by simp [isIntV, h], Bool.true_and]
    · have e : notInt i (v :: l) = (i : Int) := by simp only [notInt]; exact if_neg h
      rw [e, show isIntV v = false by simp [isIntV, h], Bool.false_and]
      exact decide_eq_true (by omega)
theorem it_raw (n0 : Option Bool) (l0 : Nat) (c0 : List PV) : prun (en [(91, p_cf)]) ⟨[], []⟩ 0 false Tryz.f67 [.sl n0 4 l0 c0] = (decV l0 c0).bind fun l => bif decide (l.length ≤ 1000000) then some (.bool (!decide (0 ≤ notInt 0 l))) else none := by kernel_rfl
def p_ints : PFn := ⟨fun xs k => match xs with | [.sl _ 4 n c] => (decV n c).bind fun l => bif decide (l.length ≤ 1000000) then k (.bool (l.all isIntV)) else none | _ => none, false⟩
theorem ok_ints : FOK NGk Tabs 67 p_ints := by
  refine fok wokk (allOK_cons ok_cf allOK_nil) (h := ⟨[], []⟩) Tryz.func67 rfl (by decide) ?_ ?_
  · intro R xs k
    simp only [p_ints]
    split
    · exact bindV_nat
    · rfl
  · intro xs r h
    simp only [p_ints] at h
    split at h
    · rename_i nl n c
      obtain ⟨l, h1, hb, rfl⟩ := bindV_inv h
      refine ⟨0, (it_raw nl n c).trans ?_⟩
      rw [h1, Option.bind_some, cond_t hb, notInt_all, Bool.not_not]
    · cases h
/-- the values of a key behind its mark -/
def mkV (m : List UInt8) (s : List UInt8) : Option (List Val) := bif s.take 1 == m then getV (s.drop 1) else none
def gtO (o : Option (List Val)) : PV := gtV (o.getD []) o.isSome
def nilV : PV := .tuple [.sl (some true) 4 0 [], .bool false]
def kgO {R : Type} (n : Nat) (c : List PV) (K : PV → Option R) : Option R := (decY n c).bind fun l => bif decide (l.length ≤ 1000000) then K (gtV ((getV l).getD []) (getV l).isSome) else none
theorem mk_raw (s m : List UInt8) : prun (en [(90, p_KeysGet)]) ⟨[], []⟩ 0 false Tryz.f66 [.str s, .str m] =
    bif !decide ((s.length : Int) < 1) then bif decide ((0 : Int) ≤ 1) && decide ((1 : Int) ≤ (s.length : Int)) then bif ((s.take (1 : Int).toNat).drop 0) != m then some nilV else
      bif decide ((0 : Int) ≤ 1) && decide ((1 : Int) ≤ (s.length : Int)) then bif decide (((s.take s.length).drop (1 : Int).toNat).length ≤ 9223372036854775807) then kgO ((s.take s.length).drop (1 : Int).toNat).length (bC ((s.take s.length).drop (1 : Int).toNat)) some else none else none else none else some nilV := by kernel_rfl
def p_marked : PFn := ⟨fun xs k => match xs with | [.str s, .str m] => bif decide (s.length ≤ 1000000) && decide (m.length = 1) then k (gtO (mkV m s)) else none | _ => none, false⟩
theorem ok_marked : FOK NGk Tabs 66 p_marked := by
  refine fok wokk (allOK_cons ok_KeysGet allOK_nil) (h := ⟨[], []⟩) Tryz.func66 rfl (by decide) ?_ ?_
  · intro R xs k
    simp only [p_marked]
    split
    · exact cond_nat
    · rfl
  · intro xs r h
    simp only [p_marked] at h
    split at h
    · rename_i s m
      rcases hb : (decide (s.length ≤ 1000000) && decide (m.length = 1)) with _ | _ <;> rw [hb] at h
      · cases h
      simp only [Bool.and_eq_true, decide_eq_true_eq] at hb
      rw [cond_true] at h
      refine ⟨0, (mk_raw s m).trans ?_⟩
      rw [← h]
      unfold mkV
      by_cases h1 : s.length < 1
      · rw [decide_eq_true (show ((s.length : Int) < 1) by omega)]
        have : s = [] := List.length_eq_zero_iff.1 (by omega)
        subst this
        rw [show (List.take 1 ([] : List UInt8) == m) = false from beq_eq_false_iff_ne.2 (by rintro rfl; simp at hb)]
        rfl
      · rw [decide_eq_false (show ¬ ((s.length : Int) < 1) by omega)]
        simp only [Bool.not_false, cond_true]
        rw [cond_t (show (decide ((0 : Int) ≤ 1) && decide ((1 : Int) ≤ (s.length : Int))) = true by rw [decide_eq_true (by omega), decide_eq_true (by omega)]; rfl)]
        rw [show ((s.take (1 : Int).toNat).drop 0 != m) = !(s.take 1 == m) from rfl]
        rcases s.take 1 == m with _ | _
        · rfl
        · simp only [Bool.not_true, cond_false, cond_true]
          rw [cond_t (show (decide ((0 : Int) ≤ 1) && decide ((1 : Int) ≤ (s.length : Int))) = true by rw [decide_eq_true (by omega), decide_eq_true (by omega)]; rfl), List.take_length, cond_t (decide_eq_true (by simp; omega))]
          unfold kgO
          rw [decY_bC, Option.bind_some, cond_t (decide_eq_true (by simp; omega))]
          rfl
    · cases h
def rowO : Option (List Val) → Int × Int × Bool
  | some [a, b] => if a.kind = 2 ∧ b.kind = 2 then (a.n, b.n, true) else (0, 0, false)
  | _ => (0, 0, false)
def rowK (s : List UInt8) : Int × Int × Bool := rowO (mkV [114] s)
def fldI {R : Type} (n : Nat) (c : List PV) (i : Int) (f : Nat) (K : Int → Option R) : Option R := bif decide (0 ≤ i) && decide (i < (n : Int)) then (((c.drop (i.toNat * 4)).take 4).drop f).head?.bind fun v => (PV.asInt .i64 v).bind K else none
theorem fldI_n {R : Type} {l : List Val} {i : Nat} {x : Val} {K : Int → Option R} (h : l[i]? = some x) : fldI l.length (valsC l) (i : Int) 1 K = K x.n := by
  have := (List.getElem?_eq_some_iff.1 h).1
  unfold fldI
  rw [cond_t (by rw [decide_eq_true (by omega), decide_eq_true (by omega)]; rfl), Int.toNat_natCast, vals_at h]
  rfl
def itO {R : Type} (n : Nat) (c : List PV) (K : Bool → Option R) : Option R := (decV n c).bind fun l => bif decide (l.length ≤ 1000000) then K (l.all isIntV) else none
theorem itO_eq {R : Type} {l : List Val} {K : Bool → Option R} (h : l.length ≤ 1000000) : itO l.length (valsC l) K = K (l.all isIntV) := by
  unfold itO
  rw [decV_vals]
  exact cond_t (decide_eq_true h)
def no3 : PV := .tuple [.int .i64 0, .int .i64 0, .bool false]
def mkO {R : Type} (m s : List UInt8) (K : List Val → Bool → Option R) : Option R := bif decide (s.length ≤ 1000000) && decide (m.length = 1) then K ((mkV m s).getD []) (mkV m s).isSome else none
def rwO (vs : List Val) (ok : Bool) : Option PV :=
  bif !(!ok) then bif !(((vs.length : Nat) : Int) != 2) then itO vs.length (valsC vs) fun b => bif !b then some no3 else fldI vs.length (valsC vs) 0 1 fun x => fldI vs.length (valsC vs) 1 1 fun y => some (.tuple [.int .i64 x, .int .i64 y, .bool true]) else some no3 else some no3
theorem ro_raw (s : List UInt8) : prun (en [(66, p_marked), (67, p_ints)]) ⟨[], []⟩ 0 false Tryz.f37 [.str s] = mkO [114] s rwO := by kernel_rfl
def rowP3 (a : Int × Int × Bool) : PV := .tuple [.int .i64 a.1, .int .i64 a.2.1, .bool a.2.2]
theorem rwO_eq {vs : List Val} {o : Option (List Val)} (hvs : vs = o.getD []) (hl : vs.length ≤ 1000000) : rwO vs o.isSome = some (rowP3 (rowO o)) := by
  unfold rwO
  match o, hvs with
  | none, _ => rfl
  | some [], hvs => subst hvs; rfl
  | some [a], hvs => subst hvs; rfl
  | some (a :: b :: c :: l), hvs =>
    subst hvs
    rw [cond_t (by rfl), cond_f (by simp only [Option.getD_some, List.length_cons, Bool.not_eq_false']; rw [bne_iff_ne]; omega)]
    rfl
  | some [a, b], hvs =>
    subst hvs
    simp only [Option.getD_some] at hl ⊢
    rw [cond_t (by rfl), cond_t (by rfl), itO_eq hl]
    have e0 : ([a, b] : List Val)[0]? = some a := rfl
    have e1 : ([a, b] : List Val)[1]? = some b := rfl
    by_cases h : a.kind = 2 ∧ b.kind = 2
    · simp only [rowO]
      rw [if_pos h, show ([a, b].all isIntV) = true by simp [isIntV, h.1, h.2]]
      rw [Bool.not_true, cond_false]
      refine (fldI_n (i := 0) e0).trans ?_
      exact fldI_n (i := 1) e1
    · simp only [rowO]
      rw [if_neg h, show ([a, b].all isIntV) = false by
        simp only [List.all_cons, List.all_nil, Bool.and_true, isIntV, Bool.and_eq_false_iff, beq_eq_false_iff_ne, ne_eq]
        by_cases ha : a.kind = 2
        · exact .inr fun hb => h ⟨ha, hb⟩
        · exact .inl ha]
      rfl
theorem getV_length : ∀ {l : List UInt8} {vs : List Val}, getV l = some vs → vs.length ≤ l.length := by
  intro l
  induction h : l.length using Nat.strongRecOn generalizing l with
  | ind n ih =>
    intro vs hv
    match l, h with
    | [], h =>
      rw [getV_nil] at hv
      injection hv with hv
      subst hv
      simp
    | b :: l, h =>
      rw [getV_step (by simp)] at hv
      rcases hn : nextV (b :: l) with _ | ⟨x, r⟩
      · rw [hn] at hv; cases hv
      · rw [hn] at hv
        have hr := nextV_len hn
        obtain ⟨ws, hw, rfl⟩ := Option.map_eq_some_iff.1 hv
        have := ih r.length (by omega) rfl hw
        rw [List.length_cons]
        omega
theorem mkV_len {m s : List UInt8} : ((mkV m s).getD []).length ≤ s.length := by
  unfold mkV
  cases s.take 1 == m with
  | false => simp
  | true =>
    rw [cond_true]
    rcases h : getV (s.drop 1) with _ | vs
    · simp
    · have := getV_length h
      simp at this ⊢
      omega
def keyL (t i : Int) : List UInt8 := 114 :: encs [numV t, numV i]
noncomputable def lKy : List (FuncId × PFn) := [(64, p_numV), (49, p_KeysPut)]
theorem ky_raw (t i : Int) : prun (en lKy) ⟨[], []⟩ 0 false Tryz.f58 [.int .i64 t, .int .i64 i] = putO 2 (valsC [numV t, numV i]) fun y => (pbytes (bC y)).bind fun s => catO [114] s (some (.str (114 :: s))) := by kernel_rfl
theorem ok_Key : FOK NGk Tabs 58 (TS.tKey fun t i => some (keyL t i)) := by
  refine fok wokk (allOK_cons ok_numV (allOK_cons ok_KeysPut allOK_nil)) (h := ⟨[], []⟩) Tryz.func58 rfl (by decide) (TS.tKey_nat _) ?_
  intro xs r h
  simp only [TS.tKey] at h
  split at h
  · rename_i t i
    refine ⟨0, (ky_raw t i).trans ?_⟩
    have hle := encs_length [numV t, numV i]
    refine (putO_eq (vs := [numV t, numV i]) (by simp)).trans ?_
    rw [pbytes_bC, Option.bind_some, catO_eq (by simp at hle ⊢; omega)]
    exact h
  · cases h
def tblF (t : Int) : List UInt8 := 114 :: encs [numV t]
theorem rs_raw (t : Int) : prun (en [(64, p_numV), (49, p_KeysPut), (63, p_span)]) ⟨[], []⟩ 0 false Tryz.f33 [.int .i64 t] = putO 1 (valsC [numV t]) fun y => (pbytes (bC y)).bind fun s => catO [114] s (spO (114 :: s) fun a => some (.tuple [.str (114 :: s), .str a])) := by kernel_rfl
def p_Rows : PFn := ⟨fun xs k => match xs with | [.int .i64 t] => k (.tuple [.str (tblF t), .str (aboveL (tblF t))]) | _ => none, false⟩
theorem ok_Rows : FOK NGk Tabs 33 p_Rows := by
  refine fok wokk (allOK_cons ok_numV (allOK_cons ok_KeysPut (allOK_cons ok_span allOK_nil))) (h := ⟨[], []⟩) Tryz.func33 rfl (by decide) ?_ ?_
  · intro R xs k
    simp only [p_Rows]
    split <;> rfl
  · intro xs r h
    simp only [p_Rows] at h
    split at h
    · rename_i t
      refine ⟨0, (rs_raw t).trans ?_⟩
      have hle := encs_length [numV t]
      refine (putO_eq (vs := [numV t]) (by simp)).trans ?_
      rw [pbytes_bC, Option.bind_some, catO_eq (by simp at hle ⊢; omega), spO, cond_t (decide_eq_true (by simp at hle ⊢; omega))]
      exact h
    · cases h
def parO : Option (List Val) → TS.EntC
  | some (a :: b :: c :: l) => if l ≠ [] ∧ a.kind = 2 ∧ b.kind = 2 ∧ ((c :: l).getLastD c).kind = 2 then (a.n, b.n, (some false, l.length, valsC ((c :: l).dropLast)), ((c :: l).getLastD c).n, true) else (0, 0, (some true, 0, []), 0, false)
  | _ => (0, 0, (some true, 0, []), 0, false)
def no5 : PV := .tuple [.int .i64 0, .int .i64 0, .sl (some true) 4 0 [], .int .i64 0, .bool false]
def paR (vs : List Val) : Option PV :=
  fldI vs.length (valsC vs) 0 1 fun x => fldI vs.length (valsC vs) 1 1 fun y =>
    bif decide (0 ≤ IntKind.i64.wrap ((vs.length : Int) - 1)) && decide (IntKind.i64.wrap ((vs.length : Int) - 1) ≤ (vs.length : Int)) then
    bif decide (0 ≤ IntKind.i64.wrap ((vs.length : Int) - 1)) && decide (IntKind.i64.wrap ((vs.length : Int) - 1) ≤ ((IntKind.i64.wrap ((vs.length : Int) - 1)).toNat : Int)) then
    bif decide ((0 : Int) ≤ 2) && decide ((2 : Int) ≤ ((IntKind.i64.wrap ((vs.length : Int) - 1)).toNat : Int)) then
    fldI vs.length (valsC vs) (IntKind.i64.wrap ((vs.length : Int) - 1)) 1 fun z =>
      some (.tuple [.int .i64 x, .int .i64 y, .sl (some vs.isEmpty) 4 ((IntKind.i64.wrap ((vs.length : Int) - 1)).toNat - (2 : Int).toNat) (((valsC vs).take ((IntKind.i64.wrap ((vs.length : Int) - 1)).toNat * 4)).drop ((2 : Int).toNat * 4)), .int .i64 z, .bool true])
    else none else none else none
def paO (vs : List Val) (ok : Bool) : Option PV :=
  bif !(!ok) then bif !decide (((vs.length : Nat) : Int) < 4) then
    ixV vs.length (valsC vs) 0 fun a0 n0 b0 s0 => ixV vs.length (valsC vs) 1 fun a1 n1 b1 s1 => ixV vs.length (valsC vs) (IntKind.i64.wrap ((vs.length : Int) - 1)) fun a2 n2 b2 s2 =>
      itO 3 [.int .i64 a0, .int .i64 n0, .int .i64 b0, .str s0, .int .i64 a1, .int .i64 n1, .int .i64 b1, .str s1, .int .i64 a2, .int .i64 n2, .int .i64 b2, .str s2] fun b => bif !b then some no5 else paR vs
    else some no5 else some no5
theorem pa_raw (s : List UInt8) : prun (en [(66, p_marked), (67, p_ints)]) ⟨[], []⟩ 0 false Tryz.f56 [.str s] = mkO [105] s paO := by kernel_rfl
theorem valsC_take : ∀ (vs : List Val) (n : Nat), (valsC vs).take (n * 4) = valsC (vs.take n)
  | [], n => by simp [valsC]
  | v :: vs, 0 => by simp [valsC]
  | v :: vs, n + 1 => by
    show (V4.cs v ++ valsC vs).take _ = V4.cs v ++ valsC (vs.take n)
    rw [show (n + 1) * 4 = (V4.cs v).length + n * 4 by simp only [V4.cs, List.length_cons, List.length_nil]; omega, List.take_length_add_append, valsC_take vs n]
theorem valsC_drop : ∀ (vs : List Val) (n : Nat), (valsC vs).drop (n * 4) = valsC (vs.drop n)
  | [], n => by simp [valsC]
  | v :: vs, 0 => by simp [valsC]
  | v :: vs, n + 1 => by
    show (V4.cs v ++ valsC vs).drop _ = valsC (vs.drop n)
    rw [show (n + 1) * 4 = (V4.cs v).length + n * 4 by simp only [V4.cs, List.length_cons, List.length_nil]; omega, ← List.drop_drop, List.drop_left, valsC_drop vs n]
def entP5 (a : TS.EntC) : PV := .tuple [.int .i64 a.1, .int .i64 a.2.1, .sl a.2.2.1.1 4 a.2.2.1.2.1 a.2.2.1.2.2, .int .i64 a.2.2.2.1, .bool a.2.2.2.2]
theorem paO_eq {vs : List Val} {o : Option (List Val)} (hvs : vs = o.getD []) (hl : vs.length ≤ 1000000) : paO vs o.isSome = some (entP5 (parO o)) := by
  unfold paO
  match o, hvs with
  | none, _ => rfl
  | some [], hvs => subst hvs; rfl
  | some [a], hvs => subst hvs; rfl
  | some [a, b], hvs => subst hvs; rfl
  | some [a, b, c], hvs => subst hvs; rfl
  | some (a :: b :: c :: d :: l), hvs =>
    subst hvs
    simp only [Option.getD_some] at hl ⊢
    rw [cond_t (by rfl), cond_t (by simp only [Bool.not_eq_true', decide_eq_false_iff_not, List.length_cons]; omega)]
    have hlen : (a :: b :: c :: d :: l).length = l.length + 4 := rfl
    have hp : parO (some (a :: b :: c :: d :: l)) = if d :: l ≠ [] ∧ a.kind = 2 ∧ b.kind = 2 ∧ ((c :: d :: l).getLastD c).kind = 2 then (a.n, b.n, (some false, (d :: l).length, valsC ((c :: d :: l).dropLast)), ((c :: d :: l).getLastD c).n, true) else (0, 0, (some true, 0, []), 0, false) := rfl
    rw [hp]
    generalize hV : (a :: b :: c :: d :: l) = V at hl hlen ⊢
    have e0 : V[0]? = some a := by rw [← hV]; rfl
    have e1 : V[1]? = some b := by rw [← hV]; rfl
    have hw : IntKind.i64.wrap ((V.length : Int) - 1) = ((l.length + 3 : Nat) : Int) := by rw [wrapI_of (by omega) (by omega)]; omega
    have ez : V[l.length + 3]? = some ((c :: d :: l).getLastD c) := by
      rw [← hV]
      show (d :: l)[l.length]? = _
      rw [List.getLastD_cons, List.getLastD_cons, List.getLastD_eq_getLast?, ← List.getLast?_cons, List.getLast?_eq_getElem?]
      rfl
    refine (ixV_eq (i := 0) e0).trans ?_
    refine (ixV_eq (i := 1) e1).trans ?_
    rw [hw]
    refine (ixV_eq ez).trans ?_
    refine (itO_eq (l := [a, b, (c :: d :: l).getLastD c]) (by simp)).trans ?_
    by_cases h : a.kind = 2 ∧ b.kind = 2 ∧ ((c :: d :: l).getLastD c).kind = 2
    · rw [if_pos ⟨by simp, h⟩, show ([a, b, (c :: d :: l).getLastD c].all isIntV) = true by simp only [List.all_cons, List.all_nil, isIntV, h.1, h.2.1, h.2.2]; rfl]
      rw [Bool.not_true, cond_false]
      unfold paR
      refine (fldI_n (i := 0) e0).trans ?_
      refine (fldI_n (i := 1) e1).trans ?_
      rw [hw, cond_t (by rw [decide_eq_true (by omega), decide_eq_true (by omega)]; rfl), cond_t (by rw [decide_eq_true (by omega), decide_eq_true (by omega)]; rfl), cond_t (by rw [decide_eq_true (by omega), decide_eq_true (by omega)]; rfl)]
      refine (fldI_n ez).trans ?_
      rw [Int.toNat_natCast, show ((2 : Int).toNat) = 2 from rfl, valsC_take, valsC_drop]
      have em : (V.take (l.length + 3)).drop 2 = (c :: d :: l).dropLast := by
        rw [← hV, List.dropLast_eq_take]
        rfl
      have ei : V.isEmpty = false := by rw [← hV]; rfl
      rw [em, ei]
      rfl
    · rw [if_neg (fun k => h k.2), show ([a, b, (c :: d :: l).getLastD c].all isIntV) = false by
        rw [Bool.eq_false_iff]
        intro k
        simp only [List.all_cons, List.all_nil, isIntV, Bool.and_true, Bool.and_eq_true, beq_iff_eq] at k
        exact h k]
      rfl
def parK (s : List UInt8) : TS.EntC := parO (mkV [105] s)
theorem ok_Parse : FOK NGk Tabs 56 (TS.tParse fun s => bif decide (s.length ≤ 1000000) then some (parK s) else none) := by
  refine fok wokk (allOK_cons ok_marked (allOK_cons ok_ints allOK_nil)) (h := ⟨[], []⟩) Tryz.func56 rfl (by decide) (TS.tParse_nat _) ?_
  intro xs r h
  simp only [TS.tParse] at h
  split at h
  · rename_i s
    rcases hb : decide (s.length ≤ 1000000) with _ | _ <;> rw [hb] at h
    · cases h
    refine ⟨0, (pa_raw s).trans ?_⟩
    unfold mkO
    rw [hb]
    simp only [decide_eq_true_eq] at hb
    exact (paO_eq rfl (by have := mkV_len (m := [105]) (s := s); omega)).trans h
  · cases h
theorem ok_Row : FOK NGk Tabs 37 (TS.tRow fun s => bif decide (s.length ≤ 1000000) then some (rowK s) else none) := by
  refine fok wokk (allOK_cons ok_marked (allOK_cons ok_ints allOK_nil)) (h := ⟨[], []⟩) Tryz.func37 rfl (by decide) (TS.tRow_nat _) ?_
  intro xs r h
  simp only [TS.tRow] at h
  split at h
  · rename_i s
    rcases hb : decide (s.length ≤ 1000000) with _ | _ <;> rw [hb] at h
    · cases h
    refine ⟨0, (ro_raw s).trans ?_⟩
    unfold mkO
    rw [hb]
    simp only [decide_eq_true_eq] at hb
    exact (rwO_eq rfl (by have := mkV_len (m := [114]) (s := s); omega)).trans h
  · cases h
end Go.Proofs.YthjmjoioagocdaaGreatDoor
end
section
set_option linter.unusedVariables false
set_option linter.unusedSimpArgs false
set_option maxRecDepth 100000
namespace Go.Proofs.YthjmjoioagocdaaGreatDoor.TS
open Go.RowKit
def h00 : Hints := ⟨[], []⟩
noncomputable def hFail : HFn := hE0 Tryz.f118
theorem ok_hFail : HOK NGt Wt 118 hFail := hE0_ok Tryz.func118 rfl (by decide)
noncomputable def hTakeR : HFn := evalH [] [(118, hFail)] [] h0 9 Tryz.f119
theorem ok_hTakeR : HOK NGt Wt 119 hTakeR := evalH_ok wokt allOK_nil (allH_cons ok_hFail allH_nil) allI_nil Tryz.func119 rfl (by decide)
def hNumK : Hints := ⟨[], [(0, ⟨[(3, false), (7, false), (63, false), (64, false), (65, false)], [83]⟩)]⟩
noncomputable def hNumR : HFn := evalH [] [(119, hTakeR), (118, hFail)] [] hNumK 20 Tryz.f95
theorem ok_hNumR : HOK NGt Wt 95 hNumR := evalH_ok wokt allOK_nil (allH_cons ok_hTakeR (allH_cons ok_hFail allH_nil)) allI_nil Tryz.func95 rfl (by decide)
noncomputable def hCountR : HFn := evalH [] [(95, hNumR), (118, hFail)] [] h0 9 Tryz.f94
theorem ok_hCountR : HOK NGt Wt 94 hCountR := evalH_ok wokt allOK_nil (allH_cons ok_hNumR (allH_cons ok_hFail allH_nil)) allI_nil Tryz.func94 rfl (by decide)
noncomputable def hOKR : HFn := hE0 Tryz.f123
theorem ok_hOKR : HOK NGt Wt 123 hOKR := hE0_ok Tryz.func123 rfl (by decide)
noncomputable def hEndR : HFn := evalH [] [(123, hOKR)] [] h0 9 Tryz.f97
theorem ok_hEndR : HOK NGt Wt 97 hEndR := evalH_ok wokt allOK_nil (allH_cons ok_hOKR allH_nil) allI_nil Tryz.func97 rfl (by decide)
noncomputable def hFlagR : HFn := evalH [] [(94, hCountR)] [] h0 9 Tryz.f121
theorem ok_hFlagR : HOK NGt Wt 121 hFlagR := evalH_ok wokt allOK_nil (allH_cons ok_hCountR allH_nil) allI_nil Tryz.func121 rfl (by decide)
noncomputable def hTextR : HFn := evalH [] [(123, hOKR), (95, hNumR), (119, hTakeR)] [] h0 9 Tryz.f122
theorem ok_hTextR : HOK NGt Wt 122 hTextR := evalH_ok wokt allOK_nil (allH_cons ok_hOKR (allH_cons ok_hNumR (allH_cons ok_hTakeR allH_nil))) allI_nil Tryz.func122 rfl (by decide)
noncomputable def v_bool : PFn := evalFn [] h0 9 Tryz.f120
theorem ok_vbool : FOK NGt Wt 120 v_bool := evalFn_ok wokt allOK_nil Tryz.func120 rfl (by decide)
noncomputable def hGetV : HFn := evalH [(120, v_bool)] [(95, hNumR), (121, hFlagR), (122, hTextR)] [] h0 9 Tryz.f96
theorem ok_hGetV : HOK NGt Wt 96 hGetV := evalH_ok wokt (allOK_cons ok_vbool allOK_nil) (allH_cons ok_hNumR (allH_cons ok_hFlagR (allH_cons ok_hTextR allH_nil))) allI_nil Tryz.func96 rfl (by decide)
noncomputable def hReadR : HFn := evalH [(80, p_clone)] [] [] h0 9 Tryz.f93
theorem ok_hReadR : HOK NGt Wt 93 hReadR := evalH_ok wokt (allOK_cons ok_clone allOK_nil) allH_nil allI_nil Tryz.func93 rfl (by decide)
noncomputable def v_rright : PFn := evalFn [(109, p_rightV)] h0 9 Tryz.f124
theorem ok_vrright : FOK NGt Wt 124 v_rright := evalFn_ok wokt (allOK_cons ok_rightV allOK_nil) Tryz.func124 rfl (by decide)
def hRRi : Hints := ⟨[], [(0, ⟨[(0, false), (5, false), (6, false), (7, false)], []⟩)]⟩
noncomputable def v_rowRight : PFn := evalFn [(124, v_rright)] hRRi 60 Tryz.f98
theorem ok_vrowRight : FOK NGt Wt 98 v_rowRight := evalFn_ok wokt (allOK_cons ok_vrright allOK_nil) Tryz.func98 rfl (by decide)
def hPaR : Hints := ⟨[], [(0, ⟨[(4, false), (5, true), (12, false), (13, false)], [8]⟩)]⟩
noncomputable def lhPaR : List (FuncId × HFn) := [(93, hReadR), (94, hCountR), (95, hNumR), (96, hGetV), (97, hEndR)]
noncomputable def v_rowParse : PFn := evalFH [(98, v_rowRight)] lhPaR [] hPaR 60 Tryz.f68
theorem ok_lhPaR : AllH NGt Wt lhPaR := allH_cons ok_hReadR (allH_cons ok_hCountR (allH_cons ok_hNumR (allH_cons ok_hGetV (allH_cons ok_hEndR allH_nil))))
theorem ok_vrowParse : FOK NGt Wt 68 v_rowParse := evalFH_ok wokt (allOK_cons ok_vrowRight allOK_nil) ok_lhPaR allI_nil Tryz.func68 rfl (by decide)
noncomputable def v_rowOf : PFn := evalFn [(68, v_rowParse)] h0 9 Tryz.f38
theorem ok_vrowOf : FOK NGt Wt 38 v_rowOf := evalFn_ok wokt (allOK_cons ok_vrowParse allOK_nil) Tryz.func38 rfl (by decide)
def decRO : PV → Option (RowC × Int)
  | .tuple [.agg [.int .i64 i, .sl nl 5 n c], .int .i64 e] => some ((i, nl, n, c), e)
  | _ => none
theorem decRO_inv {v : PV} {a : RowC × Int} (h : decRO v = some a) : v = .tuple [rowP a.1, .int .i64 a.2] := by
  unfold decRO at h
  split at h
  · injection h with h; subst h; rfl
  · cases h
noncomputable def goC (i : Int) (s : Ky) : Option (RowC × Int) := (v_rowOf.F (R := PV) [.int .i64 i, .str s] some).bind decRO
theorem ok_goC : FOK NGt Wt 38 (tRowOf goC) := by
  refine fok_at ok_vrowOf (tRowOf_nat _) rfl ?_
  intro xs r h
  simp only [tRowOf] at h
  split at h
  · unfold goC at h
    obtain ⟨a, ha, h⟩ := bind_some_inv h
    obtain ⟨v, hv, ha⟩ := bind_some_inv ha
    rw [decRO_inv ha] at hv
    exact hv.trans h
  · cases h
def gRowK (s : Ky) : Option (Int × Int × Bool) := bif decide (s.length ≤ 1000000) then some (rowK s) else none
def gParK (s : Ky) : Option EntC := bif decide (s.length ≤ 1000000) then some (parK s) else none
def gKeyK (t i : Int) : Option Ky := some (keyL t i)
noncomputable def hListC : HFn := hListS gRowK gParK gKeyK gGe goC
theorem ok_hListC : HOK NGt Wt 10 hListC := ok_list ok_Row ok_Parse ok_Key ok_goC ok_get
def hLaK : Hints := ⟨[], [(0, ⟨[(3, false), (7, false), (8, false), (9, false)], [6]⟩)]⟩
noncomputable def lhLa : List (FuncId × HFn) := [(39, hNew), (40, hTPut gPuA)]
theorem ok_lhLa : AllH NGt Wt lhLa := allH_cons ok_new (allH_cons ok_tput allH_nil)
noncomputable def hLaidC : HFn := evalH [] lhLa [] hLaK 60 Tryz.f12
theorem ok_hLaidC : HOK NGt Wt 12 hLaidC := evalH_ok wokt allOK_nil ok_lhLa allI_nil Tryz.func12 rfl (by decide)
noncomputable def v_n29 : PFn := evalFn [] h0 9 Tryz.f29
theorem ok_vn29 : FOK NGt Wt 29 v_n29 := evalFn_ok wokt allOK_nil Tryz.func29 rfl (by decide)
noncomputable def v_n51 : PFn := evalFn [] h0 9 Tryz.f51
theorem ok_vn51 : FOK NGt Wt 51 v_n51 := evalFn_ok wokt allOK_nil Tryz.func51 rfl (by decide)
noncomputable def v_rkey : PFn := evalFn [(51, v_n51), (60, p_RPut)] h0 9 Tryz.f31
theorem ok_vrkey : FOK NGt Wt 31 v_rkey := evalFn_ok wokt (allOK_cons ok_vn51 (allOK_cons ok_RPut allOK_nil)) Tryz.func31 rfl (by decide)
def hNuR : Hints := ⟨[], [(0, ⟨[(0, false), (3, false), (4, false)], []⟩)]⟩
noncomputable def v_rnum : PFn := evalFn [] hNuR 20 Tryz.f61
theorem ok_vrnum : FOK NGt Wt 61 v_rnum := evalFn_ok wokt allOK_nil Tryz.func61 rfl (by decide)
noncomputable def v_rval : PFn := evalFn [(61, v_rnum)] h0 20 Tryz.f62
theorem ok_vrval : FOK NGt Wt 62 v_rval := evalFn_ok wokt (allOK_cons ok_vrnum allOK_nil) Tryz.func62 rfl (by decide)
def hRpu : Hints := ⟨[], [(0, ⟨[(3, false), (10, false), (11, false), (12, false)], []⟩)]⟩
noncomputable def v_rput : PFn := evalFn [(61, v_rnum), (62, v_rval)] hRpu 20 Tryz.f32
theorem ok_vrput : FOK NGt Wt 32 v_rput := evalFn_ok wokt (allOK_cons ok_vrnum (allOK_cons ok_vrval allOK_nil)) Tryz.func32 rfl (by decide)
def hKvP : Hints := ⟨[], [(0, ⟨[(1, false), (2, false), (7, true), (8, false), (11, false), (12, false), (13, false)], []⟩)]⟩
noncomputable def v_kput : PFn := evalFn [] hKvP 60 Tryz.f30
theorem ok_vkput : FOK NGt Wt 30 v_kput := evalFn_ok wokt allOK_nil Tryz.func30 rfl (by decide)
def hEnt : Hints := ⟨[], [(0, ⟨[(5, false), (7, false), (22, false), (23, false), (24, false)], [5]⟩)]⟩
noncomputable def v_rent : PFn := evalFn [(51, v_n51), (46, p_One), (22, p_Values)] hEnt 60 Tryz.f20
theorem ok_vrent : FOK NGt Wt 20 v_rent := evalFn_ok wokt (allOK_cons ok_vn51 (allOK_cons ok_One (allOK_cons (ok_Values ok_refGet) allOK_nil))) Tryz.func20 rfl (by decide)
noncomputable def v_bounds : PFn := evalFn [] h0 9 Tryz.f47
theorem ok_vbounds : FOK NGt Wt 47 v_bounds := evalFn_ok wokt allOK_nil Tryz.func47 rfl (by decide)
noncomputable def lSpn : List (FuncId × PFn) := [(47, v_bounds), (48, p_Span), (49, p_KeysPut), (50, p_Above)]
theorem ok_lSpn : AllOK NGt Wt lSpn := allOK_cons ok_vbounds (allOK_cons ok_Span (allOK_cons ok_KeysPut (allOK_cons ok_Above allOK_nil)))
noncomputable def v_span : PFn := evalFn lSpn h0 9 Tryz.f18
theorem ok_vspan : FOK NGt Wt 18 v_span := evalFn_ok wokt ok_lSpn Tryz.func18 rfl (by decide)
noncomputable def hEnts : HFn := evalH [(18, v_span)] [] [] h0 9 Tryz.f23
theorem ok_hEnts : HOK NGt Wt 23 hEnts := evalH_ok wokt (allOK_cons ok_vspan allOK_nil) allH_nil allI_nil Tryz.func23 rfl (by decide)
noncomputable def hRowsC : HFn := evalH [(33, p_Rows)] [] [] h0 9 Tryz.f11
theorem ok_hRowsC : HOK NGt Wt 11 hRowsC := evalH_ok wokt (allOK_cons ok_Rows allOK_nil) allH_nil allI_nil Tryz.func11 rfl (by decide)
def hF23 : Hints := ⟨[], [(0, ⟨[(1, false), (2, false), (12, false), (13, false), (14, false)], [1]⟩)]⟩
noncomputable def lF23 : List (FuncId × PFn) := [(29, v_n29), (31, v_rkey), (32, v_rput), (30, v_kput), (20, v_rent)]
theorem ok_lF23 : AllOK NGt Wt lF23 := allOK_cons ok_vn29 (allOK_cons ok_vrkey (allOK_cons ok_vrput (allOK_cons ok_vkput (allOK_cons ok_vrent allOK_nil))))
noncomputable def lhF23 : List (FuncId × HFn) := [(12, hLaidC), (11, hRowsC), (23, hEnts), (10, hListC)]
theorem ok_lhF23 : AllH NGt Wt lhF23 := allH_cons ok_hLaidC (allH_cons ok_hRowsC (allH_cons ok_hEnts (allH_cons ok_hListC allH_nil)))
theorem first23_true : prun (enH lF23 lhF23 []) hF23 60 false Tryz.f7 [] = some (.bool true) := by kernel_rfl
def p_first23 : PFn := ⟨fun xs k => match xs with | [] => k (.bool true) | _ => none, false⟩
theorem ok_first23 : FOK NGt Wt 7 p_first23 := by
  refine fokH wokt ok_lF23 ok_lhF23 allI_nil (h := hF23) Tryz.func7 rfl (by decide) ?_ ?_
  · intro R xs k
    simp only [p_first23]
    split <;> rfl
  · intro xs r h
    simp only [p_first23] at h
    split at h
    · exact ⟨60, first23_true.trans h⟩
    · cases h
end Go.Proofs.YthjmjoioagocdaaGreatDoor.TS
end
section
set_option linter.unusedVariables false
set_option linter.unusedSimpArgs false
set_option maxRecDepth 100000
namespace Go.Proofs.YthjmjoioagocdaaGreatDoor
open Go.RowKit
structure Col where
  id : Int
  name : List UInt8
  tk : Int
  ts : Int
  nn : Bool
  d : Val
  st : Int
def colC' (c : Col) : List PV := [.int .i64 c.id, .str c.name, .int .i64 c.tk, .int .i64 c.ts, .bool c.nn, .int .i64 c.d.kind, .int .i64 c.d.n, .int .i64 c.d.scale, .str c.d.s, .int .i64 c.st]
def colG : List PV → Option Col
  | [.int .i64 a, .str s, .int .i64 b, .int .i64 e, .bool n, .int .i64 k, .int .i64 m, .int .i64 sc, .str t, .int .i64 st] => some ⟨a, s, b, e, n, ⟨k, m, sc, t⟩, st⟩
  | _ => none
theorem colG_of (c : Col) : colG (colC' c) = some c := rfl
theorem colG_inv (l : List PV) (c : Col) (h : colG l = some c) : l = colC' c := by
  unfold colG at h
  split at h
  · injection h with h; subst h; rfl
  · cases h
structure Idx where
  id : Int
  name : List UInt8
  nl : Option Bool
  cols : List Int
  u : Bool
  st : Int
def idxC (x : Idx) : List PV := [.int .i64 x.id, .str x.name, .sl x.nl 1 x.cols.length (colC x.cols), .bool x.u, .int .i64 x.st]
def idxG : List PV → Option Idx
  | [.int .i64 a, .str s, .sl nl 1 n c, .bool u, .int .i64 st] => (decG 1 intG n c).map fun l => ⟨a, s, nl, l, u, st⟩
  | _ => none
theorem idxG_of (x : Idx) : idxG (idxC x) = some x := by
  show (decG 1 intG x.cols.length (colC x.cols)).map _ = _
  rw [colC, decG_of (f := fun j => [PV.int .i64 j]) (sz := 1) (fun _ => rfl) (fun _ => rfl)]
  rfl
theorem idxG_inv (l : List PV) (x : Idx) (h : idxG l = some x) : l = idxC x := by
  unfold idxG at h
  split at h
  · obtain ⟨c, h1, rfl⟩ := Option.map_eq_some_iff.1 h
    obtain ⟨rfl, rfl⟩ := decG_inv intG_inv h1
    rfl
  · cases h
structure Tbl where
  id : Int
  name : List UInt8
  nc : Option Bool
  cols : List Col
  ni : Option Bool
  idx : List Idx
def tblC (t : Tbl) : List PV := [.int .i64 t.id, .str t.name, .sl t.nc 10 t.cols.length (t.cols.flatMap colC'), .sl t.ni 5 t.idx.length (t.idx.flatMap idxC)]
def tblG : List PV → Option Tbl
  | [.int .i64 a, .str s, .sl nc 10 n c, .sl ni 5 m d] => (decG 10 colG n c).bind fun cs => (decG 5 idxG m d).map fun xs => ⟨a, s, nc, cs, ni, xs⟩
  | _ => none
theorem colC_len (c : Col) : (colC' c).length = 10 := rfl
theorem idxC_len (x : Idx) : (idxC x).length = 5 := rfl
theorem tblC_len (t : Tbl) : (tblC t).length = 4 := rfl
theorem tblG_of (t : Tbl) : tblG (tblC t) = some t := by
  show (decG 10 colG t.cols.length (t.cols.flatMap colC')).bind (fun cs => (decG 5 idxG t.idx.length (t.idx.flatMap idxC)).map _) = _
  rw [decG_of colC_len colG_of, decG_of idxC_len idxG_of]
  rfl
theorem tblG_inv (l : List PV) (t : Tbl) (h : tblG l = some t) : l = tblC t := by
  unfold tblG at h
  split at h
  · obtain ⟨cs, h1, h⟩ := Option.bind_eq_some_iff.1 h
    obtain ⟨xs, h2, rfl⟩ := Option.map_eq_some_iff.1 h
    obtain ⟨rfl, rfl⟩ := decG_inv colG_inv h1
    obtain ⟨rfl, rfl⟩ := decG_inv idxG_inv h2
    rfl
  · cases h
def tblsC (l : List Tbl) : List PV := l.flatMap tblC
/-- the cells of an element -/
def atE {R : Type} (sz : Nat) (n : Nat) (c : List PV) (i : Int) (K : List PV → Option R) : Option R := bif decide (0 ≤ i) && decide (i < (n : Int)) then K ((c.drop (i.toNat * sz)).take sz) else none
theorem atE_eq {R α : Type} {f : α → List PV} {sz : Nat} (hf : ∀ x, (f x).length = sz) {l : List α} {i : Nat} {x : α} (h : l[i]? = some x) {K : List PV → Option R} : atE sz l.length (l.flatMap f) (i : Int) K = K (f x) := by
  have := (List.getElem?_eq_some_iff.1 h).1
  unfold atE
  rw [cond_t (by rw [decide_eq_true (by omega), decide_eq_true (by omega)]; rfl), Int.toNat_natCast, flat_at hf h]
def f1 {R : Type} (c : List PV) (K : PV → List PV → Option R) : Option R := c.head?.bind fun v => K v c.tail
/-- a table's cells, refined -/
def tblE {R : Type} (c : List PV) (K : Int → List UInt8 → Option Bool → Nat → List PV → Option Bool → Nat → List PV → Option R) : Option R :=
  c.head?.bind fun v => (PV.asInt .i64 v).bind fun a => c.tail.head?.bind fun v => v.asStr.bind fun s => c.tail.tail.head?.bind fun v => (PV.asSl 10 v).bind fun p => c.tail.tail.tail.head?.bind fun v => (PV.asSl 5 v).bind fun q => K a s p.1 p.2.1 p.2.2 q.1 q.2.1 q.2.2
theorem tblE_eq {R : Type} (t : Tbl) (K : Int → List UInt8 → Option Bool → Nat → List PV → Option Bool → Nat → List PV → Option R) : tblE (tblC t) K = K t.id t.name t.nc t.cols.length (t.cols.flatMap colC') t.ni t.idx.length (t.idx.flatMap idxC) := rfl
def colE {R : Type} (c : List PV) (K : Int → List UInt8 → Int → Int → Bool → Int → Int → Int → List UInt8 → Int → Option R) : Option R :=
  c.head?.bind fun v => (PV.asInt .i64 v).bind fun a => c.tail.head?.bind fun v => v.asStr.bind fun s => c.tail.tail.head?.bind fun v => (PV.asInt .i64 v).bind fun tk => c.tail.tail.tail.head?.bind fun v => (PV.asInt .i64 v).bind fun ts =>
  c.tail.tail.tail.tail.head?.bind fun v => v.asBool.bind fun nn => c.tail.tail.tail.tail.tail.head?.bind fun v => (PV.asInt .i64 v).bind fun k => c.tail.tail.tail.tail.tail.tail.head?.bind fun v => (PV.asInt .i64 v).bind fun m => c.tail.tail.tail.tail.tail.tail.tail.head?.bind fun v => (PV.asInt .i64 v).bind fun sc =>
  c.tail.tail.tail.tail.tail.tail.tail.tail.head?.bind fun v => v.asStr.bind fun t => c.tail.tail.tail.tail.tail.tail.tail.tail.tail.head?.bind fun v => (PV.asInt .i64 v).bind fun st => K a s tk ts nn k m sc t st
theorem colE_eq {R : Type} (c : Col) (K : Int → List UInt8 → Int → Int → Bool → Int → Int → Int → List UInt8 → Int → Option R) : colE (colC' c) K = K c.id c.name c.tk c.ts c.nn c.d.kind c.d.n c.d.scale c.d.s c.st := rfl
def idxE {R : Type} (c : List PV) (K : Int → List UInt8 → Option Bool → Nat → List PV → Bool → Int → Option R) : Option R :=
  c.head?.bind fun v => (PV.asInt .i64 v).bind fun a => c.tail.head?.bind fun v => v.asStr.bind fun s => c.tail.tail.head?.bind fun v => (PV.asSl 1 v).bind fun p => c.tail.tail.tail.head?.bind fun v => v.asBool.bind fun u => c.tail.tail.tail.tail.head?.bind fun v => (PV.asInt .i64 v).bind fun st => K a s p.1 p.2.1 p.2.2 u st
theorem idxE_eq {R : Type} (x : Idx) (K : Int → List UInt8 → Option Bool → Nat → List PV → Bool → Int → Option R) : idxE (idxC x) K = K x.id x.name x.nl x.cols.length (colC x.cols) x.u x.st := rfl
def hS12 : Hints := ⟨[], [(4, ⟨[(14, false), (15, false), (16, false), (56, false), (57, false), (58, false)], []⟩), (2, ⟨[(4, false), (14, false), (15, false), (16, false), (37, false), (38, false), (39, false)], [4]⟩), (0, ⟨[(14, false), (15, false), (16, false)], []⟩)]⟩
def frT (n0 : Option Bool) (l0 : Nat) (c0 : List PV) (L i : Int) : St := frame 74 [(14, (.sl n0 4 l0 c0, 0)), (15, (.int .i64 L, 0)), (16, (.int .i64 i, 0))] []
def frTc (n0 : Option Bool) (l0 : Nat) (c0 : List PV) (L i : Int) (a : Int) (s : List UInt8) (nc : Option Bool) (lc : Nat) (cc : List PV) (ni : Option Bool) (li : Nat) (ci : List PV) (M j : Int) : St :=
  frame 74 [(4, (.ptr 4 0, 0)), (14, (.sl n0 4 l0 c0, 0)), (15, (.int .i64 L, 0)), (16, (.int .i64 i, 0)), (37, (.sl nc 10 lc cc, 0)), (38, (.int .i64 M, 0)), (39, (.int .i64 j, 0))] [(4, [(.int .i64 a, 0), (.str s, 0), (.sl nc 10 lc cc, 0), (.sl ni 5 li ci, 0)])]
def frTi (n0 : Option Bool) (l0 : Nat) (c0 : List PV) (L i : Int) (ni : Option Bool) (li : Nat) (ci : List PV) (M j : Int) : St :=
  frame 74 [(14, (.sl n0 4 l0 c0, 0)), (15, (.int .i64 L, 0)), (16, (.int .i64 i, 0)), (56, (.sl ni 5 li ci, 0)), (57, (.int .i64 M, 0)), (58, (.int .i64 j, 0))] []
noncomputable def fS12 : Func := Tryz.f24
noncomputable def s12L (fu n : Nat) (st : St) : Option PV := loopF (en []) hS12 fu false fS12 [1, 1, 0, 1, 0] 0 n st
noncomputable def s12C (fu : Nat) (K : St → Option PV) (n : Nat) (st : St) : Option PV := loopP (en []) hS12 fu false fS12 (fun st => pnorm (hS12.loop.lookup 0) st K) [1, 1, 0, 1, 0, 0, 1, 1, 0, 0, 1, 1, 0, 1, 0] 2 n st
noncomputable def s12I (fu : Nat) (K : St → Option PV) (n : Nat) (st : St) : Option PV := loopP (en []) hS12 fu false fS12 (fun st => pnorm (hS12.loop.lookup 0) st K) [1, 1, 0, 1, 0, 0, 1, 1, 0, 0, 1, 1, 1, 1, 0] 4 n st
theorem s12_raw (fu : Nat) (v w : Int) (n0 : Option Bool) (l0 : Nat) (c0 : List PV) : prun (en []) hS12 fu false fS12 [.agg [.int .i64 v, .int .i64 w, .sl n0 4 l0 c0]] = bif decide (20 < (l0 : Int)) then some (.bool false) else s12L fu fu (frT n0 l0 c0 (l0 : Int) 0) := prunN_eq.trans (by kernel_rfl)
theorem s12_step (fu : Nat) (n0 : Option Bool) (l0 : Nat) (c0 : List PV) (L i : Int) (K : St → Option PV) :
    stepF (en []) hS12 fu false fS12 [1, 1, 0, 1, 0] (frT n0 l0 c0 L i) (fun st => pnorm (hS12.loop.lookup 0) st K) =
    bif decide (i < L) then atE 4 l0 c0 i fun e => tblE e fun a s nc lc cc ni li ci => bif bif bif decide (100 < (s.length : Int)) then true else decide (20 < (lc : Int)) then true else decide (20 < (li : Int)) then some (.bool false)
      else s12C fu K fu (frTc n0 l0 c0 L i a s nc lc cc ni li ci (lc : Int) 0)
    else some (.bool true) := (stepF_eq (by kernel_rfl)).trans (by kernel_rfl)
theorem s12c_step (fu : Nat) (n0 : Option Bool) (l0 : Nat) (c0 : List PV) (L i : Int) (a : Int) (s : List UInt8) (nc : Option Bool) (lc : Nat) (cc : List PV) (ni : Option Bool) (li : Nat) (ci : List PV) (M j : Int) (K K2 : St → Option PV) :
    stepP (en []) hS12 fu false fS12 [1, 1, 0, 1, 0, 0, 1, 1, 0, 0, 1, 1, 0, 1, 0] (fun st => pnorm (hS12.loop.lookup 0) st K) (frTc n0 l0 c0 L i a s nc lc cc ni li ci M j) (fun st => pnorm (hS12.loop.lookup 2) st K2) =
    bif decide (j < M) then atE 10 lc cc j fun e => colE e fun _ s2 _ _ _ _ _ _ t _ => bif bif decide (100 < (s2.length : Int)) then true else decide (300 < (t.length : Int)) then some (.bool false) else K2 (frTc n0 l0 c0 L i a s nc lc cc ni li ci M (IntKind.i64.wrap (j + 1)))
    else s12I fu K fu (frTi n0 l0 c0 L i ni li ci (li : Int) 0) := (stepP_eq (by kernel_rfl)).trans (by kernel_rfl)
theorem s12i_step (fu : Nat) (n0 : Option Bool) (l0 : Nat) (c0 : List PV) (L i : Int) (ni : Option Bool) (li : Nat) (ci : List PV) (M j : Int) (K K2 : St → Option PV) :
    stepP (en []) hS12 fu false fS12 [1, 1, 0, 1, 0, 0, 1, 1, 0, 0, 1, 1, 1, 1, 0] (fun st => pnorm (hS12.loop.lookup 0) st K) (frTi n0 l0 c0 L i ni li ci M j) (fun st => pnorm (hS12.loop.lookup 4) st K2) =
    bif decide (j < M) then atE 5 li ci j fun e => idxE e fun _ s2 _ lx _ _ _ => bif bif decide (100 < (s2.length : Int)) then true else decide (20 < (lx : Int)) then some (.bool false) else K2 (frTi n0 l0 c0 L i ni li ci M (IntKind.i64.wrap (j + 1)))
    else K (frT n0 l0 c0 L (IntKind.i64.wrap (i + 1))) := (stepP_eq (by kernel_rfl)).trans (by kernel_rfl)
def colSm (c : Col) : Bool := !(bif decide (100 < (c.name.length : Int)) then true else decide (300 < (c.d.s.length : Int)))
def idxSm (x : Idx) : Bool := !(bif decide (100 < (x.name.length : Int)) then true else decide (20 < (x.cols.length : Int)))
def tblH (t : Tbl) : Bool := !(bif bif decide (100 < (t.name.length : Int)) then true else decide (20 < (t.cols.length : Int)) then true else decide (20 < (t.idx.length : Int)))
def tblSm (t : Tbl) : Bool := tblH t && (t.cols.all colSm && t.idx.all idxSm)
theorem tblH_len {t : Tbl} (h : tblH t = true) : t.name.length ≤ 100 ∧ t.cols.length ≤ 20 ∧ t.idx.length ≤ 20 := by
  unfold tblH at h
  by_cases h1 : 100 < (t.name.length : Int)
  · rw [decide_eq_true h1] at h; cases h
  · rw [decide_eq_false h1, cond_false] at h
    by_cases h2 : 20 < (t.cols.length : Int)
    · rw [decide_eq_true h2] at h; cases h
    · rw [decide_eq_false h2, cond_false] at h
      by_cases h3 : 20 < (t.idx.length : Int)
      · rw [decide_eq_true h3] at h; cases h
      · omega
theorem s12i_loop (fu : Nat) (K : St → Option PV) (n0 : Option Bool) (l0 : Nat) (c0 : List PV) (L i : Int) (ni : Option Bool) (xs : List Idx) (hl : xs.length ≤ 1000) : ∀ (k j n : Nat), j + k = xs.length → k < n →
    s12I fu K n (frTi n0 l0 c0 L i ni xs.length (xs.flatMap idxC) (xs.length : Int) (j : Int)) = bif (xs.drop j).all idxSm then K (frT n0 l0 c0 L (IntKind.i64.wrap (i + 1))) else some (.bool false)
  | k, j, 0, _, h => by omega
  | 0, j, n + 1, hj, hn => by
    unfold s12I
    rw [loopP_succ, s12i_step, cond_f (decide_eq_false (by omega)), List.drop_of_length_le (by omega)]
    rfl
  | k + 1, j, n + 1, hj, hn => by
    have ih := s12i_loop fu K n0 l0 c0 L i ni xs hl k (j + 1) n (by omega) (by omega)
    have hc := List.getElem?_eq_getElem (l := xs) (i := j) (by omega)
    unfold s12I at ih ⊢
    rw [loopP_succ, s12i_step, cond_t (decide_eq_true (by omega)), atE_eq idxC_len hc, idxE_eq, wrapI_of (x := (j : Int) + 1) (by omega) (by omega), List.drop_eq_getElem_cons (show j < xs.length by omega), List.all_cons]
    unfold idxSm at ih ⊢
    cases (bif decide (100 < (xs[j].name.length : Int)) then true else decide (20 < (xs[j].cols.length : Int)))
    · exact ih
    · rfl
theorem s12c_loop (fu : Nat) (hfu : 1001 < fu) (K : St → Option PV) (n0 : Option Bool) (l0 : Nat) (c0 : List PV) (L i a : Int) (s : List UInt8) (nc : Option Bool) (cs : List Col) (hl : cs.length ≤ 1000) (ni : Option Bool) (xs : List Idx) (hx : xs.length ≤ 1000) : ∀ (k j n : Nat), j + k = cs.length → k < n →
    s12C fu K n (frTc n0 l0 c0 L i a s nc cs.length (cs.flatMap colC') ni xs.length (xs.flatMap idxC) (cs.length : Int) (j : Int)) = bif (cs.drop j).all colSm && xs.all idxSm then K (frT n0 l0 c0 L (IntKind.i64.wrap (i + 1))) else some (.bool false)
  | k, j, 0, _, h => by omega
  | 0, j, n + 1, hj, hn => by
    unfold s12C
    rw [loopP_succ, s12c_step, cond_f (decide_eq_false (by omega)), List.drop_of_length_le (by omega)]
    exact s12i_loop fu _ n0 l0 c0 L i ni xs hx xs.length 0 fu (by omega) (by omega)
  | k + 1, j, n + 1, hj, hn => by
    have ih := s12c_loop fu hfu K n0 l0 c0 L i a s nc cs hl ni xs hx k (j + 1) n (by omega) (by omega)
    have hc := List.getElem?_eq_getElem (l := cs) (i := j) (by omega)
    unfold s12C at ih ⊢
    rw [loopP_succ, s12c_step, cond_t (decide_eq_true (by omega)), atE_eq colC_len hc, colE_eq, wrapI_of (x := (j : Int) + 1) (by omega) (by omega), List.drop_eq_getElem_cons (show j < cs.length by omega), List.all_cons]
    unfold colSm at ih ⊢
    cases (bif decide (100 < (cs[j].name.length : Int)) then true else decide (300 < (cs[j].d.s.length : Int)))
    · exact ih
    · rfl
theorem s12_loop (fu : Nat) (hfu : 1001 < fu) (n0 : Option Bool) (ts : List Tbl) (hl : ts.length ≤ 1000000) : ∀ (k i n : Nat), i + k = ts.length → k < n → s12L fu n (frT n0 ts.length (ts.flatMap tblC) (ts.length : Int) (i : Int)) = some (.bool ((ts.drop i).all tblSm))
  | k, i, 0, _, h => by omega
  | 0, i, n + 1, hi, hn => by
    unfold s12L
    rw [loopF_succ, s12_step, cond_f (decide_eq_false (by omega)), List.drop_of_length_le (by omega)]
    rfl
  | k + 1, i, n + 1, hi, hn => by
    have ih := s12_loop fu hfu n0 ts hl k (i + 1) n (by omega) (by omega)
    have hc := List.getElem?_eq_getElem (l := ts) (i := i) (by omega)
    unfold s12L at ih ⊢
    rw [loopF_succ, s12_step, cond_t (decide_eq_true (by omega)), atE_eq tblC_len hc, tblE_eq, List.drop_eq_getElem_cons (show i < ts.length by omega), List.all_cons]
    have hh : tblSm ts[i] = (tblH ts[i] && (ts[i].cols.all colSm && ts[i].idx.all idxSm)) := rfl
    rw [hh]
    rcases h1 : tblH ts[i] with _ | _
    · have h2 := h1
      unfold tblH at h2
      rw [Bool.not_eq_false'] at h2
      rw [h2]
      rfl
    · obtain ⟨_, g1, g2⟩ := tblH_len h1
      unfold tblH at h1
      rw [Bool.not_eq_true'] at h1
      rw [h1, cond_false]
      refine (s12c_loop fu hfu _ n0 ts.length (ts.flatMap tblC) (ts.length : Int) (i : Int) _ _ _ ts[i].cols (by omega) _ ts[i].idx (by omega) ts[i].cols.length 0 fu (by omega) (by omega)).trans ?_
      rw [List.drop_zero, wrapI_of (by omega) (by omega)]
      cases (ts[i].cols.all colSm && ts[i].idx.all idxSm)
      · rfl
      · exact ih
def s12S (ts : List Tbl) : Bool := decide (ts.length ≤ 20) && ts.all tblSm
def p_S12 : PFn := ⟨fun xs k => match xs with | [.agg [.int .i64 _, .int .i64 _, .sl _ 4 n c]] => (decG 4 tblG n c).bind fun ts => bif decide (0 ≤ ts.length) then k (.bool (s12S ts)) else none | _ => none, false⟩
theorem ok_S12 : FOK NGk Tabs 24 p_S12 := by
  refine fok wokk allOK_nil (h := hS12) Tryz.func24 rfl (by decide) ?_ ?_
  · intro R xs k
    simp only [p_S12]
    split
    · exact bindL_nat
    · rfl
  · intro xs r h
    simp only [p_S12] at h
    split at h
    · rename_i v w nl n c
      obtain ⟨ts, h1, hg, rfl⟩ := bindL_inv h
      obtain ⟨rfl, rfl⟩ := decG_inv tblG_inv h1
      refine ⟨ts.length + 1010, (s12_raw _ v w nl _ _).trans ?_⟩
      unfold s12S
      by_cases h20 : 20 < ts.length
      · rw [cond_t (decide_eq_true (by omega)), decide_eq_false (by omega)]; rfl
      · rw [cond_f (decide_eq_false (by omega)), decide_eq_true (by omega), Bool.true_and]
        exact s12_loop _ (by omega) nl ts (by omega) ts.length 0 _ (by omega) (by omega)
    · cases h
def hPv : Hints := ⟨[], [(0, ⟨[(1, false), (5, true), (9, false), (10, false), (11, false)], []⟩)]⟩
def frPv (n1 : Option Bool) (l1 : Nat) (c1 : List PV) (n5 : Option Bool) (l5 : Nat) (c5 : List PV) (n9 : Option Bool) (l9 : Nat) (c9 : List PV) (L i : Int) : St :=
  frame 27 [(1, (.sl n1 5 l1 c1, 0)), (5, (.sl n5 4 l5 c5, 34)), (9, (.sl n9 10 l9 c9, 0)), (10, (.int .i64 L, 0)), (11, (.int .i64 i, 0))] []
def pvBody (l1 : Nat) (c1 : List PV) (n5 : Option Bool) (l5 : Nat) (c5 : List PV) (l9 : Nat) (c9 : List PV) (L i : Int) (G : Option Bool → Nat → List PV → Int → Option PV) : Option PV :=
  bif decide (i < L) then atE 10 l9 c9 i fun e => colE e fun id _ _ _ _ _ _ _ _ st => bif st == 3 then getC l1 c1 id fun v => roomV l5 1 (G (n5.map (· && false)) (l5 + 1) (c5 ++ V4.cs v) (IntKind.i64.wrap (i + 1))) else G n5 l5 c5 (IntKind.i64.wrap (i + 1)) else some (.sl n5 4 l5 c5)
noncomputable def pvL1 (fu n : Nat) (st : St) : Option PV := loopF (en lVi) hPv fu false Tryz.f27 [1, 1, 0, 1, 0] 0 n st
noncomputable def pvL2 (fu n : Nat) (st : St) : Option PV := loopF (en lVr) hPv fu false Tryz.f28 [1, 1, 0, 1, 0] 0 n st
theorem pv1_raw (fu : Nat) (a : Int) (s : List UInt8) (n9 : Option Bool) (l9 : Nat) (c9 : List PV) (ni : Option Bool) (li : Nat) (ci : List PV) (n1 : Option Bool) (l1 : Nat) (c1 : List PV) :
    prun (en lVi) hPv fu false Tryz.f27 [.agg [.int .i64 a, .str s, .sl n9 10 l9 c9, .sl ni 5 li ci], .sl n1 5 l1 c1] = pvL1 fu fu (frPv n1 l1 c1 (some true) 0 [] n9 l9 c9 (l9 : Int) 0) := prunN_eq.trans (by kernel_rfl)
theorem pv2_raw (fu : Nat) (a : Int) (s : List UInt8) (n9 : Option Bool) (l9 : Nat) (c9 : List PV) (ni : Option Bool) (li : Nat) (ci : List PV) (n1 : Option Bool) (l1 : Nat) (c1 : List PV) :
    prun (en lVr) hPv fu false Tryz.f28 [.agg [.int .i64 a, .str s, .sl n9 10 l9 c9, .sl ni 5 li ci], .sl n1 5 l1 c1] = pvL2 fu fu (frPv n1 l1 c1 (some true) 0 [] n9 l9 c9 (l9 : Int) 0) := prunN_eq.trans (by kernel_rfl)
theorem pv1_step (fu : Nat) (n1 : Option Bool) (l1 : Nat) (c1 : List PV) (n5 : Option Bool) (l5 : Nat) (c5 : List PV) (n9 : Option Bool) (l9 : Nat) (c9 : List PV) (L i : Int) (K : St → Option PV) :
    stepF (en lVi) hPv fu false Tryz.f27 [1, 1, 0, 1, 0] (frPv n1 l1 c1 n5 l5 c5 n9 l9 c9 L i) (fun st => pnorm (hPv.loop.lookup 0) st K) = pvBody l1 c1 n5 l5 c5 l9 c9 L i (fun a b c d => K (frPv n1 l1 c1 a b c n9 l9 c9 L d)) := by kernel_rfl
theorem pv2_step (fu : Nat) (n1 : Option Bool) (l1 : Nat) (c1 : List PV) (n5 : Option Bool) (l5 : Nat) (c5 : List PV) (n9 : Option Bool) (l9 : Nat) (c9 : List PV) (L i : Int) (K : St → Option PV) :
    stepF (en lVr) hPv fu false Tryz.f28 [1, 1, 0, 1, 0] (frPv n1 l1 c1 n5 l5 c5 n9 l9 c9 L i) (fun st => pnorm (hPv.loop.lookup 0) st K) = pvBody l1 c1 n5 l5 c5 l9 c9 L i (fun a b c d => K (frPv n1 l1 c1 a b c n9 l9 c9 L d)) := by kernel_rfl
def pubI (cs : List Col) : List Int := (cs.filter fun c => c.st == 3).map (·.id)
theorem pubI_snoc (cs : List Col) (c : Col) : pubI (cs ++ [c]) = if c.st = 3 then pubI cs ++ [c.id] else pubI cs := by
  unfold pubI
  rw [List.filter_append, List.map_append]
  by_cases h : c.st = 3
  · rw [if_pos h, List.filter_cons_of_pos (by simpa using h)]; rfl
  · rw [if_neg h, List.filter_cons_of_neg (by simpa using h)]; simp
theorem pubI_len (cs : List Col) : (pubI cs).length ≤ cs.length := by
  unfold pubI
  rw [List.length_map]
  exact List.length_filter_le _ _
def slV (vs : List Val) : PV := .sl (some vs.isEmpty) 4 vs.length (valsC vs)
theorem pv_loop (F : Nat → St → Option PV) (n1 : Option Bool) (cels : List Cel) (hcl : cels.length ≤ 1000000) (n9 : Option Bool) (cs : List Col) (hco : cs.length ≤ 1000000)
    (hF : ∀ n n5 l5 c5 (i : Int), F (n + 1) (frPv n1 cels.length (celsC cels) n5 l5 c5 n9 cs.length (cs.flatMap colC') (cs.length : Int) i) = pvBody cels.length (celsC cels) n5 l5 c5 cs.length (cs.flatMap colC') (cs.length : Int) i (fun a b c d => F n (frPv n1 cels.length (celsC cels) a b c n9 cs.length (cs.flatMap colC') (cs.length : Int) d))) :
    ∀ (k i n : Nat) (vs : List Val), vs = valsOf (pubI (cs.take i)) cels → i + k = cs.length → k < n → F n (frPv n1 cels.length (celsC cels) (some vs.isEmpty) vs.length (valsC vs) n9 cs.length (cs.flatMap colC') (cs.length : Int) (i : Int)) = some (slV (valsOf (pubI cs) cels))
  | k, i, 0, vs, hv, _, h => by omega
  | 0, i, n + 1, vs, hv, hi, hn => by
    rw [hF]
    unfold pvBody
    rw [cond_f (decide_eq_false (by omega)), hv, List.take_of_length_le (by omega)]
    rfl
  | k + 1, i, n + 1, vs, hv, hi, hn => by
    have hc := List.getElem?_eq_getElem (l := cs) (i := i) (by omega)
    have hlen : vs.length ≤ i := by
      rw [hv]
      unfold valsOf
      rw [List.length_map]
      refine Nat.le_trans (pubI_len _) ?_
      rw [List.length_take]
      omega
    have et : cs.take (i + 1) = cs.take i ++ [cs[i]] := by rw [List.take_add_one, hc]; rfl
    have ep := pubI_snoc (cs.take i) cs[i]
    rw [← et] at ep
    rw [hF]
    unfold pvBody
    rw [cond_t (decide_eq_true (by omega)), atE_eq colC_len hc, colE_eq, wrapI_of (by omega) (by omega)]
    by_cases h3 : cs[i].st = 3
    · rw [cond_t (by simpa using h3), getC_eq hcl, roomV_eq (by omega), valsC_snoc]
      rw [if_pos h3] at ep
      have ih := pv_loop F n1 cels hcl n9 cs hco hF k (i + 1) n (vs ++ [colV cels cs[i].id]) (by rw [ep, hv]; unfold valsOf; rw [List.map_append]; rfl) (by omega) (by omega)
      have e2 : (vs ++ [colV cels cs[i].id]).isEmpty = false := by cases vs <;> rfl
      rw [e2, List.length_append] at ih
      simp only [Option.map_some, Bool.and_false]
      exact ih
    · rw [cond_f (by simpa using h3)]
      rw [if_neg h3] at ep
      exact pv_loop F n1 cels hcl n9 cs hco hF k (i + 1) n vs (by rw [ep]; exact hv) (by omega) (by omega)
def pubK (n9 : Nat) (c9 : List PV) (n1 : Nat) (c1 : List PV) : Option (List Col × List Cel) := (decG 10 colG n9 c9).bind fun cs => (decG 5 celG n1 c1).bind fun l => if cs.length ≤ 1000000 ∧ l.length ≤ 1000000 then some (cs, l) else none
theorem pubK_inv {n9 : Nat} {c9 : List PV} {n1 : Nat} {c1 : List PV} {p : List Col × List Cel} (h : pubK n9 c9 n1 c1 = some p) : n9 = p.1.length ∧ c9 = p.1.flatMap colC' ∧ n1 = p.2.length ∧ c1 = celsC p.2 ∧ p.1.length ≤ 1000000 ∧ p.2.length ≤ 1000000 := by
  unfold pubK at h
  obtain ⟨cols, h1, h⟩ := Option.bind_eq_some_iff.1 h
  obtain ⟨l, h2, h⟩ := Option.bind_eq_some_iff.1 h
  split at h
  · rename_i hl
    injection h with h
    subst h
    obtain ⟨e1, e2⟩ := decG_inv colG_inv h1
    obtain ⟨e3, e4⟩ := decG_inv celG_inv h2
    exact ⟨e1, e2, e3, e4, hl⟩
  · cases h
theorem pubK_of {cs : List Col} {l : List Cel} (h1 : cs.length ≤ 1000000) (h2 : l.length ≤ 1000000) : pubK cs.length (cs.flatMap colC') l.length (celsC l) = some (cs, l) := by
  unfold pubK
  rw [decG_of colC_len colG_of, celsC, decG_of celC_len celG_of]
  exact if_pos ⟨h1, h2⟩
def p_Pub : PFn := ⟨fun xs k => match xs with | [.agg [.int .i64 _, .str _, .sl _ 10 n9 c9, .sl _ 5 _ _], .sl _ 5 n1 c1] => (pubK n9 c9 n1 c1).bind fun p => k (slV (valsOf (pubI p.1) p.2)) | _ => none, false⟩
theorem p_Pub_nat : p_Pub.nat := by
  intro R xs k
  simp only [p_Pub]
  split
  · cases pubK _ _ _ _ <;> rfl
  · rfl
theorem ok_Pub1 : FOK NGk Tabs 27 p_Pub := by
  refine fok wokk (allOK_cons ok_rowGet allOK_nil) (h := hPv) Tryz.func27 rfl (by decide) p_Pub_nat ?_
  intro xs r h
  simp only [p_Pub] at h
  split at h
  · rename_i a s n9 l9 c9 ni li ci n1 l1 c1
    obtain ⟨p, h1, h2⟩ := Option.bind_eq_some_iff.1 h
    obtain ⟨rfl, rfl, rfl, rfl, g1, g2⟩ := pubK_inv h1
    refine ⟨p.1.length + 1, ((pv1_raw _ a s n9 _ _ ni li ci n1 _ _).trans ?_).trans h2⟩
    exact pv_loop (fun n st => pvL1 (p.1.length + 1) n st) n1 p.2 g2 n9 p.1 g1 (fun n n5 l5 c5 i => by unfold pvL1; rw [loopF_succ, pv1_step]) p.1.length 0 _ [] rfl (by omega) (by omega)
  · cases h
theorem ok_Pub2 : FOK NGk Tabs 28 p_Pub := by
  refine fok wokk (allOK_cons ok_refGet allOK_nil) (h := hPv) Tryz.func28 rfl (by decide) p_Pub_nat ?_
  intro xs r h
  simp only [p_Pub] at h
  split at h
  · rename_i a s n9 l9 c9 ni li ci n1 l1 c1
    obtain ⟨p, h1, h2⟩ := Option.bind_eq_some_iff.1 h
    obtain ⟨rfl, rfl, rfl, rfl, g1, g2⟩ := pubK_inv h1
    refine ⟨p.1.length + 1, ((pv2_raw _ a s n9 _ _ ni li ci n1 _ _).trans ?_).trans h2⟩
    exact pv_loop (fun n st => pvL2 (p.1.length + 1) n st) n1 p.2 g2 n9 p.1 g1 (fun n n5 l5 c5 i => by unfold pvL2; rw [loopF_succ, pv2_step]) p.1.length 0 _ [] rfl (by omega) (by omega)
  · cases h
noncomputable def lSv : List (FuncId × PFn) := [(7, TS.p_first23), (24, p_S12), (25, p_Small), (27, p_Pub), (28, p_Pub), (26, p_Same)]
theorem ok_lSv : AllOK NGk Tabs lSv := allOK_cons TS.ok_first23 (allOK_cons ok_S12 (allOK_cons ok_Small (allOK_cons ok_Pub1 (allOK_cons ok_Pub2 (allOK_cons ok_Same allOK_nil)))))
def hSv : Hints := ⟨[], [(0, ⟨[(1, false), (20, false), (21, false), (22, false)], []⟩)]⟩
noncomputable def fSv : Func := Tryz.f6
def frSv (n1 : Option Bool) (l1 : Nat) (c1 : List PV) (n0 : Option Bool) (l0 : Nat) (c0 : List PV) (L i : Int) : St := frame 35 [(1, (.sl n1 5 l1 c1, 0)), (20, (.sl n0 4 l0 c0, 0)), (21, (.int .i64 L, 0)), (22, (.int .i64 i, 0))] []
noncomputable def svL (fu n : Nat) (st : St) : Option PV := loopF (en lSv) hSv fu false fSv [1, 1, 1, 0, 1, 0] 0 n st
def s12O {R : Type} (n : Nat) (c : List PV) (K : Bool → Option R) : Option R := (decG 4 tblG n c).bind fun ts => bif decide (0 ≤ ts.length) then K (s12S ts) else none
def sameV {R : Type} (n : Nat) (c : List PV) (m : Nat) (d : List PV) (K : Bool → Option R) : Option R := (decV n c).bind fun vs => (decV m d).bind fun us => bif decide (vs.length ≤ 2000000) then K (decide (vs = us)) else none
theorem sv_raw (fu : Nat) (v w : Int) (n0 : Option Bool) (l0 : Nat) (c0 : List PV) (n1 : Option Bool) (l1 : Nat) (c1 : List PV) :
    prun (en lSv) hSv fu false fSv [.agg [.int .i64 v, .int .i64 w, .sl n0 4 l0 c0], .sl n1 5 l1 c1] = s12O l0 c0 fun a => bif !(!a) then smO 1 [.int .i64 0, .sl n1 5 l1 c1] fun b => bif !b then some (.bool true) else svL fu fu (frSv n1 l1 c1 n0 l0 c0 (l0 : Int) 0) else some (.bool true) := prunN_eq.trans (by kernel_rfl)
theorem sv_step (fu : Nat) (n1 : Option Bool) (l1 : Nat) (c1 : List PV) (n0 : Option Bool) (l0 : Nat) (c0 : List PV) (L i : Int) (K : St → Option PV) :
    stepF (en lSv) hSv fu false fSv [1, 1, 1, 0, 1, 0] (frSv n1 l1 c1 n0 l0 c0 L i) (fun st => pnorm (hSv.loop.lookup 0) st K) =
    bif decide (i < L) then atE 4 l0 c0 i fun e => tblE e fun a s nc lc cc ni li ci => (pubK lc cc l1 c1).bind fun p => (pubK lc cc l1 c1).bind fun q => sameV (valsOf (pubI p.1) p.2).length (valsC (valsOf (pubI p.1) p.2)) (valsOf (pubI q.1) q.2).length (valsC (valsOf (pubI q.1) q.2)) fun b => bif !b then some (.bool false) else K (frSv n1 l1 c1 n0 l0 c0 L (IntKind.i64.wrap (i + 1)))
    else some (.bool true) := (stepF_eq (by kernel_rfl)).trans (by kernel_rfl)
theorem sv_loop (fu : Nat) (n1 : Option Bool) (l : List Cel) (hl : l.length ≤ 20) (n0 : Option Bool) (ts : List Tbl) (ht : ts.length ≤ 20) (hs : ∀ t ∈ ts, tblSm t = true) : ∀ (k i n : Nat), i + k = ts.length → k < n → svL fu n (frSv n1 l.length (celsC l) n0 ts.length (ts.flatMap tblC) (ts.length : Int) (i : Int)) = some (.bool true)
  | k, i, 0, _, h => by omega
  | 0, i, n + 1, hi, hn => by
    unfold svL
    rw [loopF_succ, sv_step, cond_f (decide_eq_false (by omega))]
  | k + 1, i, n + 1, hi, hn => by
    have ih := sv_loop fu n1 l hl n0 ts ht hs k (i + 1) n (by omega) (by omega)
    have hc := List.getElem?_eq_getElem (l := ts) (i := i) (by omega)
    have hsm := hs ts[i] (List.getElem_mem _)
    unfold tblSm at hsm
    simp only [Bool.and_eq_true] at hsm
    obtain ⟨_, g1, g2⟩ := tblH_len hsm.1
    have gl : (valsOf (pubI ts[i].cols) l).length ≤ 20 := by unfold valsOf; rw [List.length_map]; exact Nat.le_trans (pubI_len _) g1
    unfold svL at ih ⊢
    rw [loopF_succ, sv_step, cond_t (decide_eq_true (by omega)), atE_eq tblC_len hc, tblE_eq, wrapI_of (by omega) (by omega), pubK_of (by omega) (by omega)]
    simp only [Option.bind_some]
    unfold sameV
    rw [decV_vals, Option.bind_some, Option.bind_some, cond_t (decide_eq_true (by omega)), decide_eq_true rfl]
    exact ih
theorem sv_true (v w : Int) (n0 : Option Bool) (ts : List Tbl) (n1 : Option Bool) (l : List Cel) : ∃ fu, prun (en lSv) hSv fu false fSv [.agg [.int .i64 v, .int .i64 w, .sl n0 4 ts.length (ts.flatMap tblC)], .sl n1 5 l.length (celsC l)] = some (.bool true) := by
  refine ⟨ts.length + 1, ?_⟩
  rw [sv_raw]
  unfold s12O
  rw [decG_of tblC_len tblG_of, Option.bind_some, cond_t (decide_eq_true (Nat.zero_le _))]
  rcases h1 : s12S ts with _ | _
  · rfl
  · simp only [Bool.not_true, Bool.not_false, cond_true]
    unfold s12S at h1
    simp only [Bool.and_eq_true, decide_eq_true_eq, List.all_eq_true] at h1
    unfold smO
    have e : decG 2 rwG 1 [.int .i64 0, .sl n1 5 l.length (celsC l)] = some [((0 : Int), n1, l)] := by
      have := decG_of (sz := 2) rwC_len rwG_of [((0 : Int), n1, l)]
      exact this
    rw [e, Option.bind_some, cond_t (by rfl)]
    rcases h2 : smS [((0 : Int), n1, l)] with _ | _
    · rfl
    · have h3 : l.length ≤ 20 := by
        unfold smS rwSm at h2
        simp only [List.all_cons, List.all_nil, Bool.and_true, Bool.and_eq_true, decide_eq_true_eq] at h2
        exact h2.2.1
      simp only [Bool.not_true, cond_false]
      exact sv_loop _ n1 l h3 n0 ts h1.1 h1.2 ts.length 0 _ (by omega) (by omega)
end Go.Proofs.YthjmjoioagocdaaGreatDoor
end
section
set_option linter.unusedVariables false
set_option linter.unusedSimpArgs false
set_option maxRecDepth 100000
namespace Go.Proofs.YthjmjoioagocdaaGreatDoor
open Go.ChangeShapes Go.WideShapes Go.ChangeAt Go.RowKit Go.Deep
def inR (n : Int) : Prop := -9223372036854775808 ≤ n ∧ n ≤ 9223372036854775807
structure Scm where
  ver : Int
  next : Int
  nt : Option Bool
  tbls : List Tbl
def scmC (s : Scm) : List PV := [.int .i64 s.ver, .int .i64 s.next, .sl s.nt 4 s.tbls.length (tblsC s.tbls)]
def typC (t : Int × Int) : List PV := [.int .i64 t.1, .int .i64 t.2]
def PVal (v : Val) : Prop := inR v.kind ∧ inR v.n ∧ inR v.scale
def PTyp (t : Int × Int) : Prop := inR t.1 ∧ inR t.2
def PCel (c : Cel) : Prop := inR c.1 ∧ PVal c.2
def PIdx (x : Idx) : Prop := inR x.id ∧ (∀ c ∈ x.cols, inR c) ∧ inR x.st
def PCol (c : Col) : Prop := inR c.id ∧ PTyp (c.tk, c.ts) ∧ PVal c.d ∧ inR c.st
def PTbl (t : Tbl) : Prop := inR t.id ∧ (∀ c ∈ t.cols, PCol c) ∧ ∀ x ∈ t.idx, PIdx x
def PScm (s : Scm) : Prop := inR s.ver ∧ inR s.next ∧ ∀ t ∈ s.tbls, PTbl t
/-- an argument that comes in -/
def ArgU (w : World) (p : PV) (v : Value) : Prop := ∃ B : Nat, ∀ U : Nat → Nat, (∀ b, B ≤ U b) → RelD (memU w U) p v
def ArgsU (w : World) (ps : List PV) (vs : List Value) : Prop := ∃ B : Nat, ∀ U : Nat → Nat, (∀ b, B ≤ U b) → RelT (memU w U) ps vs
theorem ArgsU.nil {w : World} : ArgsU w [] [] := ⟨0, fun _ _ => rfl⟩
theorem ArgsU.cons {w : World} {p : PV} {v : Value} {ps : List PV} {vs : List Value} (h : ArgU w p v) (k : ArgsU w ps vs) : ArgsU w (p :: ps) (v :: vs) := by
  obtain ⟨A, h⟩ := h
  obtain ⟨B, k⟩ := k
  exact ⟨max A B, fun U hU => ⟨_, _, rfl, h U fun b => Nat.le_trans (Nat.le_max_left _ _) (hU b), k U fun b => Nat.le_trans (Nat.le_max_right _ _) (hU b)⟩⟩
theorem relU1 {w : World} {p : PV} {v : Value} (h1 : v.oneCell' = true) (h : ArgU w p v) : RelU w [p] [v] := by
  obtain ⟨B, h⟩ := h
  refine ⟨B, fun U hU => ?_⟩
  simp only [RelL]
  exact ⟨_, _, rfl, h1, h U hU, rfl⟩
theorem argS {w : World} {p : PV} {v : Value} (h : ∀ M, RelD M p v) : ArgU w p v := ⟨0, fun U _ => h _⟩
theorem law_runA {NG : Nat} {W : World → Prop} (hW : WOK NG W) {l : List (FuncId × PFn)} (hl : AllOK NG W l) {f : FuncId} {fn : Func} (hf : Tryz.prog.funcs[f]? = some fn) {h : Hints} {w : World} {xs : List PV} {vs : List Value}
    (hw : W w) (hng : NG ≤ w.heap.size) (hr : ArgsU w xs vs) (hrun : ∃ fuel, prun (en l) h fuel false fn xs = some (.bool true)) :
    Calls Tryz.prog f vs.toArray w fun e w' => e = .returned (.bool true) ∧ Below w.heap.size w w' := by
  obtain ⟨B, hB⟩ := hr
  obtain ⟨fuel, hrun⟩ := hrun
  exact law_runU hW hl hf (U := fun _ => B) hw hng (hB _ fun _ => Nat.le_refl _) hrun
section
variable {H : Type} {enc : TypeId × Value → H} {w : World} {base : Nat} {sp : Nat → Bool} {held : Bool}
theorem int_tr {t : TypeId} (ht : Tryz.prog.underlying t = some (.int .i64)) {n : Nat} {v : Value} {x : DataW H × List MemPlace} (h : DataW.trod enc Tryz.prog w base sp held n t [v] = some x) : ∃ a : Int, inR a ∧ RelU w [.int .i64 a] [v] := by
  obtain ⟨a, e, _, hb⟩ := DataW.trod_int ht h
  obtain rfl := List.head_eq_of_cons_eq e
  exact ⟨a, bounds_i64 hb, relU1 rfl (argS fun M => by simp only [RelD])⟩
theorem str_tr {t : TypeId} (ht : Tryz.prog.underlying t = some .string) {n : Nat} {v : Value} {x : DataW H × List MemPlace} (h : DataW.trod enc Tryz.prog w base sp held n t [v] = some x) : ∃ s : List UInt8, RelU w [.str s] [v] := by
  obtain ⟨s, e, _, _⟩ := DataW.trod_string ht h
  obtain rfl := List.head_eq_of_cons_eq e
  exact ⟨s.data.toList, relU1 rfl (argS fun M => by simp only [RelD])⟩
theorem bool_tr {t : TypeId} (ht : Tryz.prog.underlying t = some .bool) {n : Nat} {v : Value} {x : DataW H × List MemPlace} (h : DataW.trod enc Tryz.prog w base sp held n t [v] = some x) : ∃ b : Bool, RelU w [.bool b] [v] := by
  obtain ⟨b, e, _⟩ := DataW.trod_bool ht h
  obtain rfl := List.head_eq_of_cons_eq e
  exact ⟨b, relU1 rfl (argS fun M => by simp only [RelD])⟩
theorem sl_tr {t e : TypeId} {α : Type} {f : α → List PV} {Pa : α → Prop} {size n : Nat} {v : Value} {x : DataW H × List MemPlace} (hs0 : 0 < size) (ht : Tryz.prog.underlying t = some (.slice e)) (hsz : Tryz.prog.cellsOf e = size) (hf : ∀ x, (f x).length = size)
    (he : ∀ n cs' y, DataW.trod enc Tryz.prog w base sp held n e cs' = some y → ∃ x, Pa x ∧ RelU w (f x) cs') (h : DataW.trod enc Tryz.prog w base sp held n t [v] = some x) : ∃ l : List α, (∀ x ∈ l, Pa x) ∧ v.oneCell' = true ∧ ArgU w (.sl none size l.length (l.flatMap f)) v := by
  obtain ⟨A, c, l, e, wl, B, hB⟩ := open_slR hs0 ht hsz hf (fun n cs' y _ h => he n cs' y h) h
  obtain rfl := List.head_eq_of_cons_eq e
  exact ⟨l, wl, rfl, B, hB⟩
theorem ints_tr {t e : TypeId} {n : Nat} {v : Value} {x : DataW H × List MemPlace} (ht : Tryz.prog.underlying t = some (.slice e)) (he : Tryz.prog.underlying e = some (.int .i64)) (hsz : Tryz.prog.cellsOf e = 1) (h : DataW.trod enc Tryz.prog w base sp held n t [v] = some x) : ∃ l : List Int, (∀ x ∈ l, inR x) ∧ v.oneCell' = true ∧ ArgU w (.sl none 1 l.length (colC l)) v :=
  sl_tr (f := fun j => [.int .i64 j]) (by omega) ht hsz (fun _ => rfl) (fun n cs' y h => by
    obtain ⟨a, e, _, hb⟩ := DataW.trod_int he h
    subst e
    exact ⟨a, bounds_i64 hb, relU1 rfl (argS fun M => by simp only [RelD])⟩) h
theorem Val_tr {fuel : Nat} {cs : List Value} {x : DataW H × List MemPlace} (h : DataW.trod enc Tryz.prog w base sp held fuel 54 cs = some x) : ∃ x : Val, PVal x ∧ RelU w (V4.cs x) cs := by
  obtain ⟨xs, k, _, _, hl, hxl, hf⟩ := DataW.trod_struct Tryz.underlying54 h
  rw [show Tryz.prog.cellsOf 54 = 4 by kernel_rfl] at hl
  match cs, hl with
  | [v0, v1, v2, v3], _ =>
    match xs, hxl with
    | [y0, y1, y2, y3], _ =>
      have g0 : DataW.trod enc Tryz.prog w base sp held k 52 [v0] = some y0 := hf 0 _ rfl
      obtain ⟨a0, p0, r0⟩ := int_tr (by kernel_rfl) g0
      have g1 : DataW.trod enc Tryz.prog w base sp held k 3 [v1] = some y1 := hf 1 _ rfl
      obtain ⟨a1, p1, r1⟩ := int_tr (by kernel_rfl) g1
      have g2 : DataW.trod enc Tryz.prog w base sp held k 3 [v2] = some y2 := hf 2 _ rfl
      obtain ⟨a2, p2, r2⟩ := int_tr (by kernel_rfl) g2
      have g3 : DataW.trod enc Tryz.prog w base sp held k 9 [v3] = some y3 := hf 3 _ rfl
      obtain ⟨a3, r3⟩ := str_tr (by kernel_rfl) g3
      exact ⟨⟨a0, a1, a2, a3⟩, ⟨p0, p1, p2⟩, (r0.append (r1.append (r2.append r3)))⟩
theorem Typ_tr {fuel : Nat} {cs : List Value} {x : DataW H × List MemPlace} (h : DataW.trod enc Tryz.prog w base sp held fuel 119 cs = some x) : ∃ x : (Int × Int), PTyp x ∧ RelU w (typC x) cs := by
  obtain ⟨xs, k, _, _, hl, hxl, hf⟩ := DataW.trod_struct Tryz.underlying119 h
  rw [show Tryz.prog.cellsOf 119 = 2 by kernel_rfl] at hl
  match cs, hl with
  | [v0, v1], _ =>
    match xs, hxl with
    | [y0, y1], _ =>
      have g0 : DataW.trod enc Tryz.prog w base sp held k 52 [v0] = some y0 := hf 0 _ rfl
      obtain ⟨a0, p0, r0⟩ := int_tr (by kernel_rfl) g0
      have g1 : DataW.trod enc Tryz.prog w base sp held k 3 [v1] = some y1 := hf 1 _ rfl
      obtain ⟨a1, p1, r1⟩ := int_tr (by kernel_rfl) g1
      exact ⟨(a0, a1), ⟨p0, p1⟩, (r0.append r1)⟩
theorem Cel_tr {fuel : Nat} {cs : List Value} {x : DataW H × List MemPlace} (h : DataW.trod enc Tryz.prog w base sp held fuel 80 cs = some x) : ∃ x : Cel, PCel x ∧ RelU w (celC x) cs := by
  obtain ⟨xs, k, _, _, hl, hxl, hf⟩ := DataW.trod_struct Tryz.underlying80 h
  rw [show Tryz.prog.cellsOf 80 = 5 by kernel_rfl] at hl
  match cs, hl with
  | [v0, v1, v2, v3, v4], _ =>
    match xs, hxl with
    | [y0, y1], _ =>
      have g0 : DataW.trod enc Tryz.prog w base sp held k 3 [v0] = some y0 := hf 0 _ rfl
      obtain ⟨a0, p0, r0⟩ := int_tr (by kernel_rfl) g0
      have g1 : DataW.trod enc Tryz.prog w base sp held k 54 [v1, v2, v3, v4] = some y1 := hf 1 _ rfl
      obtain ⟨a1, p1, r1⟩ := Val_tr g1
      exact ⟨(a0, a1), ⟨p0, p1⟩, (r0.append r1)⟩
theorem Idx_tr {fuel : Nat} {cs : List Value} {x : DataW H × List MemPlace} (h : DataW.trod enc Tryz.prog w base sp held fuel 26 cs = some x) : ∃ x : Idx, PIdx x ∧ RelU w (idxC x) cs := by
  obtain ⟨xs, k, _, _, hl, hxl, hf⟩ := DataW.trod_struct Tryz.underlying26 h
  rw [show Tryz.prog.cellsOf 26 = 5 by kernel_rfl] at hl
  match cs, hl with
  | [v0, v1, v2, v3, v4], _ =>
    match xs, hxl with
    | [y0, y1, y2, y3, y4], _ =>
      have g0 : DataW.trod enc Tryz.prog w base sp held k 3 [v0] = some y0 := hf 0 _ rfl
      obtain ⟨a0, p0, r0⟩ := int_tr (by kernel_rfl) g0
      have g1 : DataW.trod enc Tryz.prog w base sp held k 9 [v1] = some y1 := hf 1 _ rfl
      obtain ⟨a1, r1⟩ := str_tr (by kernel_rfl) g1
      have g2 : DataW.trod enc Tryz.prog w base sp held k 23 [v2] = some y2 := hf 2 _ rfl
      obtain ⟨a2, p2, u2, r2'⟩ := ints_tr Tryz.underlying23 (by kernel_rfl) (by kernel_rfl) g2
      have r2 := relU1 u2 r2'
      have g3 : DataW.trod enc Tryz.prog w base sp held k 4 [v3] = some y3 := hf 3 _ rfl
      obtain ⟨a3, r3⟩ := bool_tr (by kernel_rfl) g3
      have g4 : DataW.trod enc Tryz.prog w base sp held k 24 [v4] = some y4 := hf 4 _ rfl
      obtain ⟨a4, p4, r4⟩ := int_tr (by kernel_rfl) g4
      exact ⟨⟨a0, a1, none, a2, a3, a4⟩, ⟨p0, p2, p4⟩, (r0.append (r1.append (r2.append (r3.append r4))))⟩
theorem Col_tr {fuel : Nat} {cs : List Value} {x : DataW H × List MemPlace} (h : DataW.trod enc Tryz.prog w base sp held fuel 121 cs = some x) : ∃ x : Col, PCol x ∧ RelU w (colC' x) cs := by
  obtain ⟨xs, k, _, _, hl, hxl, hf⟩ := DataW.trod_struct Tryz.underlying121 h
  rw [show Tryz.prog.cellsOf 121 = 10 by kernel_rfl] at hl
  match cs, hl with
  | [v0, v1, v2, v3, v4, v5, v6, v7, v8, v9], _ =>
    match xs, hxl with
    | [y0, y1, y2, y3, y4, y5], _ =>
      have g0 : DataW.trod enc Tryz.prog w base sp held k 3 [v0] = some y0 := hf 0 _ rfl
      obtain ⟨a0, p0, r0⟩ := int_tr (by kernel_rfl) g0
      have g1 : DataW.trod enc Tryz.prog w base sp held k 9 [v1] = some y1 := hf 1 _ rfl
      obtain ⟨a1, r1⟩ := str_tr (by kernel_rfl) g1
      have g2 : DataW.trod enc Tryz.prog w base sp held k 119 [v2, v3] = some y2 := hf 2 _ rfl
      obtain ⟨a2, p2, r2⟩ := Typ_tr g2
      have g3 : DataW.trod enc Tryz.prog w base sp held k 4 [v4] = some y3 := hf 3 _ rfl
      obtain ⟨a3, r3⟩ := bool_tr (by kernel_rfl) g3
      have g4 : DataW.trod enc Tryz.prog w base sp held k 54 [v5, v6, v7, v8] = some y4 := hf 4 _ rfl
      obtain ⟨a4, p4, r4⟩ := Val_tr g4
      have g5 : DataW.trod enc Tryz.prog w base sp held k 24 [v9] = some y5 := hf 5 _ rfl
      obtain ⟨a5, p5, r5⟩ := int_tr (by kernel_rfl) g5
      exact ⟨⟨a0, a1, a2.1, a2.2, a3, a4, a5⟩, ⟨p0, p2, p4, p5⟩, (r0.append (r1.append (r2.append (r3.append (r4.append r5)))))⟩
theorem Tbl_tr {fuel : Nat} {cs : List Value} {x : DataW H × List MemPlace} (h : DataW.trod enc Tryz.prog w base sp held fuel 74 cs = some x) : ∃ x : Tbl, PTbl x ∧ RelU w (tblC x) cs := by
  obtain ⟨xs, k, _, _, hl, hxl, hf⟩ := DataW.trod_struct Tryz.underlying74 h
  rw [show Tryz.prog.cellsOf 74 = 4 by kernel_rfl] at hl
  match cs, hl with
  | [v0, v1, v2, v3], _ =>
    match xs, hxl with
    | [y0, y1, y2, y3], _ =>
      have g0 : DataW.trod enc Tryz.prog w base sp held k 3 [v0] = some y0 := hf 0 _ rfl
      obtain ⟨a0, p0, r0⟩ := int_tr (by kernel_rfl) g0
      have g1 : DataW.trod enc Tryz.prog w base sp held k 9 [v1] = some y1 := hf 1 _ rfl
      obtain ⟨a1, r1⟩ := str_tr (by kernel_rfl) g1
      have g2 : DataW.trod enc Tryz.prog w base sp held k 71 [v2] = some y2 := hf 2 _ rfl
      obtain ⟨a2, p2, u2, r2'⟩ := sl_tr (f := colC') (Pa := PCol) (size := 10) (by omega) Tryz.underlying71 (by kernel_rfl) (colC_len) (fun n cs' y h => Col_tr h) g2
      have r2 := relU1 u2 r2'
      have g3 : DataW.trod enc Tryz.prog w base sp held k 72 [v3] = some y3 := hf 3 _ rfl
      obtain ⟨a3, p3, u3, r3'⟩ := sl_tr (f := idxC) (Pa := PIdx) (size := 5) (by omega) Tryz.underlying72 (by kernel_rfl) (idxC_len) (fun n cs' y h => Idx_tr h) g3
      have r3 := relU1 u3 r3'
      exact ⟨⟨a0, a1, none, a2, none, a3⟩, ⟨p0, p2, p3⟩, (r0.append (r1.append (r2.append r3)))⟩
theorem Scm_tr {fuel : Nat} {cs : List Value} {x : DataW H × List MemPlace} (h : DataW.trod enc Tryz.prog w base sp held fuel 68 cs = some x) : ∃ x : Scm, PScm x ∧ RelU w (scmC x) cs := by
  obtain ⟨xs, k, _, _, hl, hxl, hf⟩ := DataW.trod_struct Tryz.underlying68 h
  rw [show Tryz.prog.cellsOf 68 = 3 by kernel_rfl] at hl
  match cs, hl with
  | [v0, v1, v2], _ =>
    match xs, hxl with
    | [y0, y1, y2], _ =>
      have g0 : DataW.trod enc Tryz.prog w base sp held k 3 [v0] = some y0 := hf 0 _ rfl
      obtain ⟨a0, p0, r0⟩ := int_tr (by kernel_rfl) g0
      have g1 : DataW.trod enc Tryz.prog w base sp held k 3 [v1] = some y1 := hf 1 _ rfl
      obtain ⟨a1, p1, r1⟩ := int_tr (by kernel_rfl) g1
      have g2 : DataW.trod enc Tryz.prog w base sp held k 66 [v2] = some y2 := hf 2 _ rfl
      obtain ⟨a2, p2, u2, r2'⟩ := sl_tr (f := tblC) (Pa := PTbl) (size := 4) (by omega) Tryz.underlying66 (by kernel_rfl) (tblC_len) (fun n cs' y h => Tbl_tr h) g2
      have r2 := relU1 u2 r2'
      exact ⟨⟨a0, a1, none, a2⟩, ⟨p0, p1, p2⟩, (r0.append (r1.append r2))⟩
end
theorem arg_agg {H : Type} {enc : TypeId × Value → H} {W W0 : World} {r : Reach} {b0 base : Nat} {sp : Nat → Bool} {held : Bool} {t : TypeId} {fs : Array Field} {v : Value} {d : DataW H} {ps : List MemPlace} {α : Type} {f : α → List PV} {Pa : α → Prop} (ht : Tryz.prog.underlying t = some (.struct fs))
    (hval : Value.okWide Tryz.prog W0 r b0 t v) (hd : DataW.Trod enc Tryz.prog W base sp held t v d ps) (he : ∀ n cs' y, DataW.trod enc Tryz.prog W base sp held n t cs' = some y → ∃ x, Pa x ∧ RelU W (f x) cs') : ∃ x, Pa x ∧ ArgU W (.agg (f x)) v := by
  simp only [Value.okWide, ht] at hval
  obtain ⟨cs, rfl, hs, _⟩ := hval
  obtain ⟨l⟩ := cs
  obtain ⟨fuel, hf⟩ := hd
  obtain ⟨x, hx, B, hB⟩ := he fuel l _ hf
  exact ⟨x, hx, B, fun U hU => by rw [RelD]; exact ⟨l, rfl, hB U hU⟩⟩
theorem arg_sl {H : Type} {enc : TypeId × Value → H} {W W0 : World} {r : Reach} {b0 base : Nat} {sp : Nat → Bool} {held : Bool} {t e : TypeId} {v : Value} {d : DataW H} {ps : List MemPlace} {α : Type} {f : α → List PV} {Pa : α → Prop} {size : Nat} (hs0 : 0 < size) (ht : Tryz.prog.underlying t = some (.slice e)) (hsz : Tryz.prog.cellsOf e = size) (hfl : ∀ x, (f x).length = size)
    (hval : Value.okWide Tryz.prog W0 r b0 t v) (hd : DataW.Trod enc Tryz.prog W base sp held t v d ps) (he : ∀ n cs' y, DataW.trod enc Tryz.prog W base sp held n e cs' = some y → ∃ x, Pa x ∧ RelU W (f x) cs') : ∃ l : List α, (∀ x ∈ l, Pa x) ∧ ArgU W (.sl none size l.length (l.flatMap f)) v := by
  obtain ⟨A, n, c, rfl⟩ := okWide_slice ht hval
  obtain ⟨fuel, hf⟩ := hd
  obtain ⟨l, h1, _, h2⟩ := sl_tr hs0 ht hsz hfl he (by simpa [Value.cells] using hf)
  exact ⟨l, h1, h2⟩
end Go.Proofs.YthjmjoioagocdaaGreatDoor
end
