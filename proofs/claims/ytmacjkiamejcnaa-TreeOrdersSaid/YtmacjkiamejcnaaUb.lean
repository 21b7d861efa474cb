/-
  forth and back of a tree's nodes: their contracts.
-/
import Derived.Test.YtmacjkiamejcnaaUa
import Derived.Test.YtmacjkiamejcnaaTy
set_option linter.unusedVariables false
set_option linter.unusedSimpArgs false
set_option maxRecDepth 100000
namespace Go.Proofs.Ytmacjkiamejcnaa
open Go.RowKit
theorem yF_eq {R : Type} {y : YFn} (hy : y.nat) (bs : List (List PV)) (o : Out) (xs : List PV) (k : List (List PV) → Out → Bool → Option R) : yF y bs o xs k = y.F bs o xs k := (hy R bs o xs k).symm
theorem yF_nat {R S : Type} (y : YFn) (bs : List (List PV)) (o : Out) (xs : List PV) (f : List (List PV) → Out → Bool → Option R) (k : R → Option S) : yF y bs o xs (fun b o v => (f b o v).bind k) = (yF y bs o xs f).bind k := by
  unfold yF
  rw [obind_assoc]
theorem walkY_nat {R S : Type} (y : YFn) : ∀ (l : List (Ky × PV)) (bs : List (List PV)) (o : Out) (f : List (List PV) → Out → Bool → Option R) (k : R → Option S), walkY y l bs o (fun b o v => (f b o v).bind k) = (walkY y l bs o f).bind k
  | [], bs, o, f, k => rfl
  | p :: l, bs, o, f, k => by
    simp only [walkY]
    rw [← yF_nat]
    congr 1
    funext bs' o' b
    cases shpB bs' with
    | false => rfl
    | true => cases b with
      | false => rfl
      | true => exact walkY_nat y l bs' o' f k
theorem walkY_app {R : Type} (y : YFn) : ∀ (A B : List (Ky × PV)) (bs : List (List PV)) (o : Out) (k : List (List PV) → Out → Bool → Option R), walkY y (A ++ B) bs o k = walkY y A bs o fun bs o b => bif b then walkY y B bs o k else k bs o false
  | [], B, bs, o, k => rfl
  | p :: A, B, bs, o, k => by
    simp only [List.cons_append, walkY]
    congr 1
    funext bs' o' b
    cases shpB bs' with
    | false => rfl
    | true => cases b with
      | false => rfl
      | true => exact walkY_app y A B bs' o' k
theorem walkY_inv {R : Type} {y : YFn} {l : List (Ky × PV)} {bs : List (List PV)} {o : Out} {k : List (List PV) → Out → Bool → Option R} {r : R} (hs : shpB bs = true) (h : walkY y l bs o k = some r) :
    ∃ bs' o' b, shpB bs' = true ∧ (∀ (S : Type) (G : List (List PV) → Out → Bool → Option S), walkY y l bs o G = G bs' o' b) ∧ k bs' o' b = some r := by
  have e : ∀ (S : Type) (G : List (List PV) → Out → Bool → Option S), walkY y l bs o G = (walkY y l bs o (fun b o v => some (b, o, v))).bind fun r => G r.1 r.2.1 r.2.2 := fun S G => walkY_nat y l bs o (fun b o v => some (b, o, v)) (fun r => G r.1 r.2.1 r.2.2)
  rw [e] at h
  obtain ⟨⟨bs', o', b⟩, h1, h2⟩ := bind_some_inv h
  refine ⟨bs', o', b, ?_, fun S G => by rw [e, h1]; rfl, h2⟩
  clear h h2 e
  induction l generalizing bs o with
  | nil => simp only [walkY] at h1; injection h1 with h1; injection h1 with h1; subst h1; exact hs
  | cons p l ih =>
    simp only [walkY] at h1
    unfold yF at h1
    obtain ⟨⟨b1, o1, c1⟩, _, h1⟩ := bind_some_inv h1
    obtain ⟨g1, h1⟩ := bif_inv h1
    cases c1 with
    | true => exact ih g1 h1
    | false =>
      simp only [cond_false] at h1
      injection h1 with h1
      injection h1 with h1
      subst h1
      exact g1
theorem tWalk_nat (g : List PV → Ky → Option (List (Ky × PV))) : (tWalk g).nat := by
  intro R bs o xs y k
  simp only [tWalk]
  split
  · unfold callW
    rw [bif_bind, obind_assoc]
    congr 2
    funext l
    exact walkY_nat y l bs o (fun bs o b => some (bs, o, PV.bool b)) (fun r => k r.1 r.2.1 r.2.2)
  · rfl
/-- what is in a tree's box -/
def IsR (r : PV) : Prop := r = .nilptr ∨ ∃ cs, r = .eptr cs
theorem shp_inv {bs : List (List PV)} (h : shpB bs = true) : ∃ q r, bs = [[.ptr 2 0], [.str q], [r]] ∧ IsR r := by
  unfold shpB at h
  split at h
  · exact ⟨_, _, rfl, .inl rfl⟩
  · exact ⟨_, _, rfl, .inr ⟨_, rfl⟩⟩
  · cases h
theorem shp_of {q : Ky} {r : PV} (h : IsR r) : shpB [[.ptr 2 0], [.str q], [r]] = true := by
  rcases h with rfl | ⟨cs, rfl⟩ <;> rfl
theorem lent_shp {n : Nat} (hn : n = 64 ∨ n = 61 ∨ n = 20) {q : Ky} {r : PV} (h : IsR r) : lentBs (bxS n q r) (lentIds n 3) = some [[.ptr 2 0], [.str q], [r]] := by
  rcases hn with rfl | rfl | rfl <;> rcases h with rfl | ⟨cs, rfl⟩ <;> rfl
theorem back_shp {n : Nat} (hn : n = 64 ∨ n = 61 ∨ n = 20) {q q' : Ky} {r r' : PV} (h : IsR r') : mapO (mapO (renP (fun j => (lentIds n 3)[j]?) false 4)) [[.ptr 2 0], [.str q'], [r']] = some [[.ptr (n + 2) 0], [.str q'], [r']] ∧ setBoxes (zipN (lentIds n 3) [[.ptr (n + 2) 0], [.str q'], [r']]) (bxS n q r) = bxS n q' r' := by
  rcases hn with rfl | rfl | rfl <;> rcases h with rfl | ⟨cs, rfl⟩ <;> exact ⟨rfl, rfl⟩
/-- a call that the boxes of a walk pass through -/
theorem via_ok {R : Type} {ob : Bool} {n : Nat} (hn : n = 64 ∨ n = 61 ∨ n = 20) {q : Ky} {r : PV} (hr : IsR r) {o : Out} {xs xs' : List PV} (hx : mapO (renP (posOf (lentIds n 3) 0) ob 4) xs = some xs')
    {call : List (List PV) → Out → List PV → (List (List PV) → Out → Bool → Option R) → Option R} {bs' : List (List PV)} {o' : Out} {b' : Bool} (hs : shpB bs' = true) (hc : ∀ G, call [[.ptr 2 0], [.str q], [r]] o xs' G = G bs' o' b') : ∃ q' r', bs' = [[.ptr 2 0], [.str q'], [r']] ∧ IsR r' ∧ ∀ (G : List (Option (List TV)) → Out → Bool → Option R), viaB ob n 3 (bxS n q r) o xs call G = G (bxS n q' r') o' b' := by
  obtain ⟨q', r', rfl, hr'⟩ := shp_inv hs
  refine ⟨q', r', rfl, hr', fun G => ?_⟩
  obtain ⟨h1, h2⟩ := back_shp (q := q) (r := r) (q' := q') hn hr'
  unfold viaB
  simp only [lent_shp hn hr, hx]
  rw [hc]
  have hl : (lentIds n 3).length = 3 := by simp [lentIds]
  have hb : renP (fun j => (lentIds n 3)[j]?) false 4 (.bool b') = some (.bool b') := rfl
  simp only [h1, hb, h2, hl, List.length_cons, List.length_nil, if_true]
theorem fo_kr {R : Type} (gl : List PV → Option Bool) (gp : List PV → Ky → Option (Int × Bool)) (gk : List PV → Ky → Option Int) (gf gb : List PV → Ky → Option (List (Ky × PV))) (kk : List (List PV) → Out → PV → Option R) (b : Bool) (q : Ky) {r : PV} (hr : IsR r) (o : Out) : foKr gl gp gk gf gb kk (frFoR b (bxS 64 q r) o) = kk [[.ptr 2 0], [.str q], [r]] o (.bool b) := by
  rcases hr with rfl | ⟨cs, rfl⟩
  · exact fo_kr0 gl gp gk gf gb kk b q o
  · exact fo_kr1 gl gp gk gf gb kk b q cs o
theorem ba_kr {R : Type} (gl : List PV → Option Bool) (gp : List PV → Ky → Option (Int × Bool)) (gk : List PV → Ky → Option Int) (gf gb : List PV → Ky → Option (List (Ky × PV))) (kk : List (List PV) → Out → PV → Option R) (b : Bool) (q : Ky) {r : PV} (hr : IsR r) (o : Out) : baKr gl gp gk gf gb kk (frBaR b (bxS 61 q r) o) = kk [[.ptr 2 0], [.str q], [r]] o (.bool b) := by
  rcases hr with rfl | ⟨cs, rfl⟩
  · exact ba_kr0 gl gp gk gf gb kk b q o
  · exact ba_kr1 gl gp gk gf gb kk b q cs o
/-! ## leaves -/
theorem slAt0 {S : Type} {l : List (Ky × PV)} {cs : List PV} (h : enc 0 (ofL0 l) = .eptr cs) (k : Option Bool → Nat → List PV → Option S) : slAt cs 0 k = k none l.length (l.map fun p => .str p.1) := by
  rw [enc_zero] at h; injection h with h; subst h; rfl
theorem slAt1 {S : Type} {l : List (Ky × PV)} {cs : List PV} (h : enc 0 (ofL0 l) = .eptr cs) (k : Option Bool → Nat → List PV → Option S) : slAt cs 1 k = k none l.length (l.map (·.2)) := by
  rw [enc_zero] at h; injection h with h; subst h; rfl
theorem slAt2 {S : Type} {d : Nat} {ks : List (TrD PV d)} {cs : List PV} (h : enc (d + 1) (ofL ks) = .eptr cs) (k : Option Bool → Nat → List PV → Option S) : slAt cs 2 k = k (some false) ks.length (ks.map (enc d)) := by
  rw [enc_succ] at h; injection h with h; subst h; rfl
theorem strsAt_eq {S : Type} {l : List (Ky × PV)} {i : Nat} {p : Ky × PV} (h : l[i]? = some p) (k : Ky → Option S) : strsAt l.length (l.map fun p => .str p.1) (i : Int) k = k p.1 := by
  have hi := (List.getElem?_eq_some_iff.1 h).1
  unfold strsAt
  rw [cond_t (by rw [decide_eq_true (by omega), decide_eq_true (by omega)]; rfl), Int.toNat_natCast, Nat.mul_one, List.head?_take, if_neg (by decide), List.head?_drop, List.getElem?_map, h]
  rfl
def valP : PV → Int
  | .int .i64 n => n
  | _ => default
theorem valP_eq {v : PV} (h : vok v = true) : .int .i64 (valP v) = v := by
  unfold vok at h
  split at h
  · rfl
  · cases h
theorem valsAt_eq {S : Type} {l : List (Ky × PV)} {i : Nat} {p : Ky × PV} (h : l[i]? = some p) (hv : vok p.2 = true) (k : Int → Option S) : valsAt l.length (l.map (·.2)) (i : Int) k = k (valP p.2) := by
  have hi := (List.getElem?_eq_some_iff.1 h).1
  have he := valP_eq hv
  unfold valsAt
  rw [cond_t (by rw [decide_eq_true (by omega), decide_eq_true (by omega)]; rfl), Int.toNat_natCast, Nat.mul_one, List.head?_take, if_neg (by decide), List.head?_drop, List.getElem?_map, h]
  simp only [Option.map_some, Option.bind_some]
  rw [← he]
  rfl
section
variable {R : Type} {gf gb : List PV → Ky → Option (List (Ky × PV))} {y : YFn} {kk : List (List PV) → Out → PV → Option R} {res : R}
theorem yF_inv (hy : y.nat) {bs : List (List PV)} {o : Out} {xs : List PV} {k : List (List PV) → Out → Bool → Option R} (h : yF y bs o xs k = some res) : ∃ bs' o' b, (∀ (S : Type) (G : List (List PV) → Out → Bool → Option S), y.F bs o xs G = G bs' o' b) ∧ k bs' o' b = some res := by
  unfold yF at h
  obtain ⟨⟨bs', o', b⟩, h1, h2⟩ := bind_some_inv h
  exact ⟨bs', o', b, fun S G => by rw [hy S, h1]; rfl, h2⟩
theorem fo_leaf (hy : y.nat) {L : List (Ky × PV)} {cs : List PV} (hc : enc 0 (ofL0 L) = .eptr cs) (hv : ∀ p ∈ L, vok p.2 = true) (hl : L.length ≤ 1000) (fu : Nat) : ∀ (k i n : Nat) (q : Ky) (r : PV) (o : Out), i + k = L.length → k < n → IsR r →
    walkY y (L.drop i) [[.ptr 2 0], [.str q], [r]] o (fun bs o b => kk bs o (.bool b)) = some res → foLoop0 gLf gPl gKd gf gb 3 y fu (foKr gLf gPl gKd gf gb kk) n (frFo0 cs (i : Int) (bxS 64 q r) o) = some res
  | k, i, 0, q, r, o, hi, hn, hr, h => by omega
  | 0, i, n + 1, q, r, o, hi, hn, hr, h => by
    rw [List.drop_eq_nil_of_le (by omega)] at h
    unfold foLoop0
    rw [loopK_succ, fo_step0, slAt0 hc, cond_f (decide_eq_false (by omega)), fo_kr _ _ _ _ _ _ _ _ hr]
    exact h
  | k + 1, i, n + 1, q, r, o, hi, hn, hr, h => by
    have hp : L[i]? = some L[i] := List.getElem?_eq_getElem (by omega)
    rw [List.drop_eq_getElem_cons (by omega)] at h
    simp only [walkY] at h
    obtain ⟨bs', o', b, h1, h2⟩ := yF_inv hy h
    obtain ⟨hs, h2⟩ := bif_inv h2
    have hvp := hv _ (List.getElem_mem (show i < L.length by omega))
    unfold foLoop0
    rw [loopK_succ, fo_step0, slAt0 hc, cond_t (decide_eq_true (by omega)), slAt0 hc, strsAt_eq hp, slAt1 hc, valsAt_eq hp hvp, valP_eq hvp]
    have hx : mapO (renP (posOf (lentIds 64 3) 0) false 4) [PV.str L[i].1, L[i].2] = some [PV.str L[i].1, L[i].2] := by
      rw [← valP_eq hvp]; rfl
    obtain ⟨q', r', rfl, hr', e⟩ := via_ok (.inl rfl) hr hx (call := fun bs o xs G => y.F bs o xs G) hs (fun G => h1 R G)
    rw [e]
    cases b with
    | false =>
      rw [cond_t (b := !false) rfl, fo_kr _ _ _ _ _ _ _ _ hr']
      exact h2
    | true =>
      rw [cond_f (b := !true) rfl, wrapI_of (by omega) (by omega)]
      exact fo_leaf hy hc hv hl fu k (i + 1) n q' r' o' (by omega) (by omega) hr' h2
theorem fo_node {d : Nat} {KS : List (TrD PV d)} {s : Ky} {f : TrD PV d → List (Ky × PV)} (hf : ∀ k ∈ KS, ∀ es, enc d k = .eptr es → gf es s = some (f k)) (hl : KS.length ≤ 1000) (nk : Option Bool) (fu : Nat) : ∀ (k i n : Nat) (q : Ky) (r : PV) (o : Out), i + k = KS.length → k < n → IsR r →
    walkY y ((KS.drop i).flatMap f) [[.ptr 2 0], [.str q], [r]] o (fun bs o b => kk bs o (.bool b)) = some res → foLoop2 gLf gPl gKd gf gb 3 y fu (foKr gLf gPl gKd gf gb kk) n (frFo2 s nk KS.length (KS.map (enc d)) (KS.length : Int) (i : Int) (bxS 64 q r) o) = some res
  | k, i, 0, q, r, o, hi, hn, hr, h => by omega
  | 0, i, n + 1, q, r, o, hi, hn, hr, h => by
    rw [List.drop_eq_nil_of_le (by omega)] at h
    unfold foLoop2
    rw [loopK_succ, fo_step2, cond_f (decide_eq_false (by omega)), fo_kr _ _ _ _ _ _ _ _ hr]
    exact h
  | k + 1, i, n + 1, q, r, o, hi, hn, hr, h => by
    have hp : KS[i]? = some KS[i] := List.getElem?_eq_getElem (by omega)
    rw [List.drop_eq_getElem_cons (by omega), List.flatMap_cons, walkY_app] at h
    obtain ⟨bs', o', b, hs, h1, h2⟩ := walkY_inv (shp_of hr) h
    obtain ⟨es, ee, qk⟩ := kidAt_enc (R := R) hp
    have hg := hf _ (List.getElem_mem (show i < KS.length by omega)) es ee
    have hx : mapO (renP (posOf (lentIds 64 3) 0) true 4) [PV.eptr es, .str s, .yld] = some [PV.eptr es, .str s, .yld] := rfl
    obtain ⟨q', r', rfl, hr', e⟩ := via_ok (.inl rfl) hr hx (call := fun bs o _ G => callW gf es s y bs o G) hs (fun G => by
      show callW gf es s y _ o G = _
      unfold callW
      rw [shp_of hr, cond_true, hg, Option.bind_some, h1])
    unfold foLoop2
    rw [loopK_succ, fo_step2, cond_t (decide_eq_true (by omega)), qk, e]
    cases b with
    | false =>
      rw [cond_t (b := !false) rfl, fo_kr _ _ _ _ _ _ _ _ hr']
      exact h2
    | true =>
      rw [cond_f (b := !true) rfl, wrapI_of (by omega) (by omega)]
      exact fo_node hf hl nk fu k (i + 1) n q' r' o' (by omega) (by omega) hr' h2
theorem ba_leaf (hy : y.nat) {L : List (Ky × PV)} {cs : List PV} (hc : enc 0 (ofL0 L) = .eptr cs) (hv : ∀ p ∈ L, vok p.2 = true) (hl : L.length ≤ 1000) (fu : Nat) : ∀ (k n : Nat) (q : Ky) (r : PV) (o : Out), k ≤ L.length → k < n → IsR r →
    walkY y (L.take k).reverse [[.ptr 2 0], [.str q], [r]] o (fun bs o b => kk bs o (.bool b)) = some res → baLoop0 gLf gPl gKd gf gb 3 y fu (baKr gLf gPl gKd gf gb kk) n (frBa0 cs ((k : Int) - 1) (bxS 61 q r) o) = some res
  | k, 0, q, r, o, hi, hn, hr, h => by omega
  | 0, n + 1, q, r, o, hi, hn, hr, h => by
    unfold baLoop0
    rw [loopK_succ, ba_step0, cond_f (decide_eq_false (by omega)), ba_kr _ _ _ _ _ _ _ _ hr]
    exact h
  | k + 1, n + 1, q, r, o, hi, hn, hr, h => by
    have hp : L[k]? = some L[k] := List.getElem?_eq_getElem (by omega)
    rw [List.take_add_one, hp] at h
    simp only [Option.toList_some, List.reverse_append, List.reverse_cons, List.reverse_nil, List.nil_append, List.cons_append, walkY] at h
    obtain ⟨bs', o', b, h1, h2⟩ := yF_inv hy h
    obtain ⟨hs, h2⟩ := bif_inv h2
    have hvp := hv _ (List.getElem_mem (show k < L.length by omega))
    unfold baLoop0
    rw [show ((k + 1 : Nat) : Int) - 1 = (k : Int) by omega, loopK_succ, ba_step0, cond_t (decide_eq_true (by omega)), slAt0 hc, strsAt_eq hp, slAt1 hc, valsAt_eq hp hvp, valP_eq hvp]
    have hx : mapO (renP (posOf (lentIds 61 3) 0) false 4) [PV.str L[k].1, L[k].2] = some [PV.str L[k].1, L[k].2] := by
      rw [← valP_eq hvp]; rfl
    obtain ⟨q', r', rfl, hr', e⟩ := via_ok (.inr (.inl rfl)) hr hx (call := fun bs o xs G => y.F bs o xs G) hs (fun G => h1 R G)
    rw [e]
    cases b with
    | false =>
      rw [cond_t (b := !false) rfl, ba_kr _ _ _ _ _ _ _ _ hr']
      exact h2
    | true =>
      rw [cond_f (b := !true) rfl, wrapI_of (by omega) (by omega)]
      exact ba_leaf hy hc hv hl fu k n q' r' o' (by omega) (by omega) hr' h2
theorem ba_node {d : Nat} {KS : List (TrD PV d)} {cs : List PV} (hc : enc (d + 1) (ofL KS) = .eptr cs) {s : Ky} {f : TrD PV d → List (Ky × PV)} (hf : ∀ k ∈ KS, ∀ es, enc d k = .eptr es → gb es s = some (f k)) (hl : KS.length ≤ 1000) (fu : Nat) : ∀ (k n : Nat) (q : Ky) (r : PV) (o : Out), k ≤ KS.length → k < n → IsR r →
    walkY y ((KS.take k).reverse.flatMap f) [[.ptr 2 0], [.str q], [r]] o (fun bs o b => kk bs o (.bool b)) = some res → baLoop2 gLf gPl gKd gf gb 3 y fu (baKr gLf gPl gKd gf gb kk) n (frBa2 cs s ((k : Int) - 1) (bxS 61 q r) o) = some res
  | k, 0, q, r, o, hi, hn, hr, h => by omega
  | 0, n + 1, q, r, o, hi, hn, hr, h => by
    unfold baLoop2
    rw [loopK_succ, ba_step2, cond_f (decide_eq_false (by omega)), ba_kr _ _ _ _ _ _ _ _ hr]
    exact h
  | k + 1, n + 1, q, r, o, hi, hn, hr, h => by
    have hp : KS[k]? = some KS[k] := List.getElem?_eq_getElem (by omega)
    rw [List.take_add_one, hp] at h
    simp only [Option.toList_some, List.reverse_append, List.reverse_cons, List.reverse_nil, List.nil_append, List.cons_append, List.flatMap_cons] at h
    rw [walkY_app] at h
    obtain ⟨bs', o', b, hs, h1, h2⟩ := walkY_inv (shp_of hr) h
    obtain ⟨es, ee, qk⟩ := kidAt_enc (R := R) hp
    have hg := hf _ (List.getElem_mem (show k < KS.length by omega)) es ee
    have hx : mapO (renP (posOf (lentIds 61 3) 0) true 4) [PV.eptr es, .str s, .yld] = some [PV.eptr es, .str s, .yld] := rfl
    obtain ⟨q', r', rfl, hr', e⟩ := via_ok (.inr (.inl rfl)) hr hx (call := fun bs o _ G => callW gb es s y bs o G) hs (fun G => by
      show callW gb es s y _ o G = _
      unfold callW
      rw [shp_of hr, cond_true, hg, Option.bind_some, h1])
    unfold baLoop2
    rw [show ((k + 1 : Nat) : Int) - 1 = (k : Int) by omega, loopK_succ, ba_step2, cond_t (decide_eq_true (by omega)), slAt2 hc, qk, e]
    cases b with
    | false =>
      rw [cond_t (b := !false) rfl, ba_kr _ _ _ _ _ _ _ _ hr']
      exact h2
    | true =>
      rw [cond_f (b := !true) rfl, wrapI_of (by omega) (by omega)]
      exact ba_node hc hf hl fu k n q' r' o' (by omega) (by omega) hr' h2
end
end Go.Proofs.Ytmacjkiamejcnaa
