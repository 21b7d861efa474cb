/-
  Diff of two trees: its contract.
-/
import Derived.Test.YtmacjkiamejcnaaNd
set_option linter.unusedVariables false
set_option linter.unusedSimpArgs false
set_option maxRecDepth 100000
namespace Go.Proofs.Ytmacjkiamejcnaa
open Go.RowKit
/-- what a root holds -/
def gRt (x : PV) : Option (List (Ky × PV)) := match x with | .nilptr => some [] | .eptr cs => gFoA cs [] | _ => none
theorem gRt_of {x : PV} {l : List (Ky × PV)} (h : RootIs x l) (hl : l.length ≤ 50000) : gRt x = some l := by
  rcases h with ⟨rfl, rfl⟩ | ⟨d, t, rfl, h1, h2, rfl, hv⟩
  · rfl
  · obtain ⟨cs, e⟩ := enc_ptr d t
    have hg := gdP_root h1 h2 hl
    have hdep := gdP_dep hg
    rw [e]
    show gFoA cs [] = _
    unfold gFoA
    rw [← e, hdep]
    unfold gFo
    rw [← e, dec_enc hv, Option.bind_some, hg, cond_true, from_nil]
structure RtOK (x : PV) (l : List (Ky × PV)) : Prop where
  isR : IsR x
  vok : ∀ p ∈ l, Go.Proofs.Ytmacjkiamejcnaa.vok p.2 = true
  len : l.length ≤ 50000
  get : ∀ {R : Type} (s : Ky) (K : List (List PV) → PV → Option R), (hGet gGe).F [[x]] [.ptr 0 0, .str s] K = K [[x]] (.tuple [.int .i64 (valP ((getK s l).getD (.int .i64 0))), .bool (hasK s l)])
  walk : ∀ {R : Type} (o : Out) (y : YFn) (k : List (List PV) → Out → PV → Option R), (iWalk gFoA).F [[.ptr 2 0], [.str []], [x]] o [.yld, .ptr 0 0, .ptr 1 0] y k = walkY y l [[.ptr 2 0], [.str []], [x]] o fun bs o b => k bs o (.tuple [])
theorem gRt_ok {x : PV} {l : List (Ky × PV)} (h : gRt x = some l) : RtOK x l := by
  unfold gRt at h
  split at h
  · injection h with h
    subst h
    exact ⟨.inl rfl, (fun p hp => by cases hp), by simp, fun s K => rfl, fun o y k => rfl⟩
  · rename_i cs
    have h' := h
    unfold gFoA gFo at h'
    obtain ⟨t, ht, h'⟩ := bind_some_inv h'
    obtain ⟨hg, h'⟩ := bif_inv h'
    injection h' with h'
    rw [from_nil] at h'
    have hl : l.length ≤ 50000 := by
      unfold gdP at hg
      simp only [Bool.and_eq_true, decide_eq_true_eq] at hg
      rw [← h']
      exact hg.2.2
    refine ⟨.inr ⟨cs, rfl⟩, ?_, hl, fun s K => ?_, fun o y k => ?_⟩
    · rw [← h']; exact (dec_inv ht).2
    · show ((gGe cs s).bind _) = _
      unfold gGe
      rw [ht, Option.bind_some, hg, cond_true, Option.bind_some, h']
    · rw [iWalk_ptr]
      unfold callW
      rw [shp_of (.inr ⟨cs, rfl⟩), cond_true, h, Option.bind_some]
  · cases h
theorem beq_int_comm (a b : Int) : (a == b) = (b == a) := by
  by_cases h : a = b
  · rw [h]
  · rw [show (a == b) = false from beq_eq_false_iff_ne.2 h, show (b == a) = false from beq_eq_false_iff_ne.2 (Ne.symm h)]
section
variable {R : Type}
theorem df_walk {x y : PV} {a b : List (Ky × PV)} (hx : RtOK x a) (hy : RtOK y b) (nf : Option Bool) (lf : Nat) (cf : List PV) : ∀ (L : List (Ky × PV)) (G E : List Ky) (K : List (List PV) → Out → Bool → Option R), (∀ p ∈ L, vok p.2 = true) → G.length + L.length ≤ 60000 → E.length + L.length ≤ 60000 →
    walkY (dfY gFoA gGe cEq) L [[.ptr 2 0], [.str []], [x]] (.fr (dfBx [] x y cEq (ssl G) (.sl nf 1 lf cf) (ssl E)) none .nil) K = K [[.ptr 2 0], [.str []], [x]] (.fr (dfBx [] x y cEq (ssl (G ++ goneK L b)) (.sl nf 1 lf cf) (ssl (E ++ chgK L b))) none .nil) true
  | [], G, E, K, hv, h1, h2 => by
    rw [show G ++ goneK [] b = G by simp [goneK], show E ++ chgK [] b = E by simp [chgK]]
    rfl
  | p :: L, G, E, K, hv, h1, h2 => by
    have hvp := hv p List.mem_cons_self
    have hst := df_step (R := List (List PV) × Out × Bool) gFoA gGe [] [] (x0 := x) hx.isR hy.isR (some G.isEmpty) nf (some E.isEmpty) G.length lf E.length (G.map PV.str) cf (E.map PV.str) p.1 (valP p.2) (fun b o v => some (b, o, v))
    rw [hy.get] at hst
    simp only [onG] at hst
    rw [apS_t (by simp at h1; omega), apS_t (by simp at h2; omega), flag_str (p := p.1), flag_str (p := p.1), str_one, str_one, show G.length + 1 = (G ++ [p.1]).length by simp, show E.length + 1 = (E ++ [p.1]).length by simp, valP_eq hvp] at hst
    simp only [walkY]
    unfold yF
    rw [goneK_cons, chgK_cons]
    unfold chgB
    refine (congrArg (fun o => Option.bind o _) hst).trans ?_
    cases hh : hasK p.1 b with
    | false =>
      rw [show (!false) = true from rfl, cond_true, Option.bind_some, if_pos rfl, if_neg (by simp)]
      show (bif shpB [[.ptr 2 0], [.str []], [x]] then (bif true then _ else _) else none) = _
      rw [shp_of hx.isR, cond_true, cond_true]
      refine (df_walk hx hy nf lf cf L (G ++ [p.1]) E K (fun q hq => hv q (List.mem_cons_of_mem _ hq)) (by simp at h1 ⊢; omega) (by simp at h2 ⊢; omega)).trans ?_
      rw [List.append_assoc, List.singleton_append]
    | true =>
      rw [show (!true) = false from rfl, cond_false, if_neg (by simp), Bool.true_and, beq_int_comm]
      cases hq : !(valP ((getK p.1 b).getD (PV.int .i64 0)) == valP p.2) with
      | true =>
        rw [cond_true, Option.bind_some, if_pos rfl]
        show (bif shpB [[.ptr 2 0], [.str []], [x]] then (bif true then _ else _) else none) = _
        rw [shp_of hx.isR, cond_true, cond_true]
        refine (df_walk hx hy nf lf cf L G (E ++ [p.1]) K (fun q hq => hv q (List.mem_cons_of_mem _ hq)) (by simp at h1 ⊢; omega) (by simp at h2 ⊢; omega)).trans ?_
        rw [List.append_assoc, List.singleton_append]
      | false =>
        rw [cond_false, Option.bind_some, if_neg (by simp)]
        show (bif shpB [[.ptr 2 0], [.str []], [x]] then (bif true then _ else _) else none) = _
        rw [shp_of hx.isR, cond_true, cond_true]
        exact df_walk hx hy nf lf cf L G E K (fun q hq => hv q (List.mem_cons_of_mem _ hq)) (by simp at h1 ⊢; omega) (by simp at h2 ⊢; omega)
theorem df_walk2 {x y : PV} {a b : List (Ky × PV)} (hx : RtOK x a) (hy : RtOK y b) (G E : List Ky) : ∀ (L : List (Ky × PV)) (F : List Ky) (K : List (List PV) → Out → Bool → Option R), (∀ p ∈ L, vok p.2 = true) → F.length + L.length ≤ 60000 →
    walkY (dfY2 gFoA gGe cEq) L [[.ptr 2 0], [.str []], [y]] (.fr (dfBx2 [] [] x y cEq (ssl G) (ssl F) (ssl E)) none .nil) K = K [[.ptr 2 0], [.str []], [y]] (.fr (dfBx2 [] [] x y cEq (ssl G) (ssl (F ++ goneK L a)) (ssl E)) none .nil) true
  | [], F, K, hv, h1 => by
    rw [show F ++ goneK [] a = F by simp [goneK]]
    rfl
  | p :: L, F, K, hv, h1 => by
    have hvp := hv p List.mem_cons_self
    have hst := df_step2 (R := List (List PV) × Out × Bool) gFoA gGe [] [] [] (y0 := y) hx.isR hy.isR (some G.isEmpty) (some F.isEmpty) (some E.isEmpty) G.length F.length E.length (G.map PV.str) (F.map PV.str) (E.map PV.str) p.1 (valP p.2) (fun b o v => some (b, o, v))
    rw [hx.get] at hst
    simp only [onG] at hst
    rw [apS_t (by simp at h1; omega), flag_str (p := p.1), str_one, show F.length + 1 = (F ++ [p.1]).length by simp, valP_eq hvp] at hst
    simp only [walkY]
    unfold yF
    rw [goneK_cons]
    refine (congrArg (fun o => Option.bind o _) hst).trans ?_
    cases hh : hasK p.1 a with
    | false =>
      rw [show (!false) = true from rfl, cond_true, Option.bind_some, if_pos rfl]
      show (bif shpB [[.ptr 2 0], [.str []], [y]] then (bif true then _ else _) else none) = _
      rw [shp_of hy.isR, cond_true, cond_true]
      refine (df_walk2 hx hy G E L (F ++ [p.1]) K (fun q hq => hv q (List.mem_cons_of_mem _ hq)) (by simp at h1 ⊢; omega)).trans ?_
      rw [List.append_assoc, List.singleton_append]
    | true =>
      rw [show (!true) = false from rfl, cond_false, Option.bind_some, if_neg (by simp)]
      show (bif shpB [[.ptr 2 0], [.str []], [y]] then (bif true then _ else _) else none) = _
      rw [shp_of hy.isR, cond_true, cond_true]
      exact df_walk2 hx hy G E L F K (fun q hq => hv q (List.mem_cons_of_mem _ hq)) (by simp at h1 ⊢; omega)
theorem dn_walk {x : PV} {a : List (Ky × PV)} (hx : RtOK x a) : ∀ (L : List (Ky × PV)) (G : List Ky) (K : List (List PV) → Out → Bool → Option R), (∀ p ∈ L, vok p.2 = true) → G.length + L.length ≤ 60000 →
    walkY (dnY gFoA gGe) L [[.ptr 2 0], [.str []], [x]] (.fr (dnBx [] x (ssl G)) none .nil) K = K [[.ptr 2 0], [.str []], [x]] (.fr (dnBx [] x (ssl (G ++ L.map (·.1)))) none .nil) true
  | [], G, K, hv, h1 => by rw [List.map_nil, List.append_nil]; rfl
  | p :: L, G, K, hv, h1 => by
    have hvp := hv p List.mem_cons_self
    have hst := dn_step (R := List (List PV) × Out × Bool) gFoA gGe [] [] (x0 := x) hx.isR (some G.isEmpty) G.length (G.map PV.str) p.1 (valP p.2) (fun b o v => some (b, o, v))
    rw [apS_t (by simp at h1; omega), flag_str (p := p.1), str_one, show G.length + 1 = (G ++ [p.1]).length by simp, valP_eq hvp] at hst
    simp only [walkY]
    unfold yF
    refine (congrArg (fun o => Option.bind o _) hst).trans ?_
    rw [Option.bind_some]
    show (bif shpB [[.ptr 2 0], [.str []], [x]] then (bif true then _ else _) else none) = _
    rw [shp_of hx.isR, cond_true, cond_true]
    refine (dn_walk hx L (G ++ [p.1]) K (fun q hq => hv q (List.mem_cons_of_mem _ hq)) (by simp at h1 ⊢; omega)).trans ?_
    rw [List.append_assoc, List.singleton_append, List.map_cons]
end
def hDiff : HFn := ⟨fun bs xs k => match bs, xs with
  | [[x], [y]], [.ptr 0 0, .ptr 1 0, .clo f []] => (gRt x).bind fun a => (gRt y).bind fun b => bif f == 19 then k [[x], [y]] (.tuple [ssl (goneK a b), ssl (goneK b a), ssl (chgK a b)]) else none
  | [[x]], [.ptr 0 0, .nilptr, .nilFunc] => (gRt x).bind fun a => k [[x]] (.tuple [ssl (a.map (·.1)), nilS, nilS])
  | _, _ => none⟩
theorem ok_diff : HOK NGt Wt 18 hDiff := by
  refine HnOK.of_run (en := enDf gFoA gGe) (en' := en []) (env_okR (env_okA wokt (allOK_cons ok_eqI allOK_nil) (allH_cons ok_get (allH_cons ok_from allH_nil)) (allI_cons okFrom1 allI_nil) allN_nil allC_nil) _) rfl rfl rfl Try.func18 rfl (by decide) ?_ (h := h0) ?_
  · intro R bs xs k
    simp only [hDiff]
    split
    · rw [obind_assoc]; congr 1; funext a; rw [obind_assoc]; congr 1; funext b; rw [bif_bind]; rfl
    · rw [obind_assoc]; rfl
    · rfl
  · intro bs xs r h
    simp only [hDiff] at h
    split at h
    · rename_i x y f
      replace h := bind_some_inv h
      obtain ⟨a, ha, h⟩ := h
      replace h := bind_some_inv h
      obtain ⟨b, hb, h⟩ := h
      replace h := bif_inv h
      obtain ⟨hf, h⟩ := h
      obtain rfl : f = 19 := by simpa using hf
      have hx := gRt_ok ha
      have hy := gRt_ok hb
      refine ⟨0, (df_raw gFoA gGe _ hx.isR hy.isR).trans ?_⟩
      rw [hx.walk]
      have h1 := hx.len
      have h2 := hy.len
      refine (df_walk hx hy (some true) 0 [] a [] [] _ hx.vok (by simp; omega) (by simp; omega)).trans ?_
      refine (df_end1 gFoA gGe _ [] hx.isR hy.isR _ _ _ _ _ _ _ _ _).trans ?_
      rw [hy.walk]
      refine (df_walk2 hx hy ([] ++ goneK a b) ([] ++ chgK a b) b [] _ hy.vok (by simp; omega)).trans ?_
      exact (df_end2 gFoA gGe _ [] [] hx.isR hy.isR _ _ _ _ _ _ _ _ _).trans h
    · rename_i x
      replace h := bind_some_inv h
      obtain ⟨a, ha, h⟩ := h
      have hx := gRt_ok ha
      have h1 := hx.len
      refine ⟨0, (dn_raw gFoA gGe _ hx.isR).trans ?_⟩
      rw [hx.walk]
      refine (dn_walk hx a [] _ hx.vok (by simp; omega)).trans ?_
      exact (dn_end gFoA gGe _ [] hx.isR _ _ _).trans h
    · cases h
end Go.Proofs.Ytmacjkiamejcnaa
