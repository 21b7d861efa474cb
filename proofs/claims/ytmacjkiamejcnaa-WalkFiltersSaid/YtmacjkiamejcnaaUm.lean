/-
  taken: its contract.
-/
import Derived.Test.YtmacjkiamejcnaaUl
import Derived.Test.YtmacjkiamejcnaaUh
set_option linter.unusedVariables false
set_option linter.unusedSimpArgs false
set_option maxRecDepth 100000
namespace Go.Proofs.Ytmacjkiamejcnaa
open Go.RowKit
section
variable {R : Type} (gf gb : List PV → Ky → Option (List (Ky × PV)))
theorem tk_walk (f : FuncId) (mN : Nat) (hm : mN ≤ 100000) (q : Ky) (r : List PV) : ∀ (L out : List (Ky × PV)) (K : List (List PV) → Out → Bool → Option R), out.length < mN → L.length ≤ 100000 → (∀ p ∈ L, vok p.2 = true) →
    walkY (tkY gf gb f (mN : Int)) L [[.ptr 2 0], [.str q], [.eptr r]] (.fr (tkBx q (.eptr r) (mN : Int) (pSl out)) none .nil) K =
      if L.length + out.length < mN then K [[.ptr 2 0], [.str q], [.eptr r]] (.fr (tkBx q (.eptr r) (mN : Int) (pSl (out ++ L))) none .nil) true
      else K [[.ptr 2 0], [.str q], [.eptr r]] (.fr (tkBx q (.eptr r) (mN : Int) (pSl (out ++ L.take (mN - out.length)))) (some (.exit 0)) .nil) false
  | [], out, K, ho, hl, hv => by
    rw [if_pos (by simpa using ho), List.append_nil]
    rfl
  | p :: L, out, K, ho, hl, hv => by
    have hvp := hv p List.mem_cons_self
    have hst := tk_step1 (R := List (List PV) × Out × Bool) gf gb f (mN : Int) q r q r (some out.isEmpty) out.length (pcs out) p.1 (valP p.2) (fun b o v => some (b, o, v))
    rw [apR_t (by omega), valP_eq hvp, flag_app (p := p), pcs_one, ← pcs_append, show out.length + 1 = (out ++ [p]).length by simp] at hst
    simp only [walkY]
    unfold yF
    have hst' : (tkY gf gb f (mN : Int)).F (R := List (List PV) × Out × Bool) [[.ptr 2 0], [.str q], [.eptr r]] (.fr (tkBx q (.eptr r) (mN : Int) (pSl out)) none .nil) [.str p.1, p.2] (fun b o v => some (b, o, v)) =
      bif decide ((mN : Int) ≤ (((out ++ [p]).length : Nat) : Int)) then some ([[.ptr 2 0], [.str q], [.eptr r]], .fr (tkBx q (.eptr r) (mN : Int) (pSl (out ++ [p]))) (some (.exit 0)) .nil, false) else some ([[.ptr 2 0], [.str q], [.eptr r]], .fr (tkBx q (.eptr r) (mN : Int) (pSl (out ++ [p]))) none .nil, true) := hst
    rw [hst']
    have hl1 : (out ++ [p]).length = out.length + 1 := by simp
    by_cases hge : mN ≤ out.length + 1
    · rw [cond_t (decide_eq_true (by omega)), if_neg (by simp; omega), show mN - out.length = 1 by omega]
      rfl
    · rw [cond_f (decide_eq_false (by omega)), Option.bind_some]
      show (bif shpB [[.ptr 2 0], [.str q], [.eptr r]] then (bif true then _ else _) else none) = _
      rw [shp_of (.inr ⟨r, rfl⟩), cond_true, cond_true, tk_walk f mN hm q r L (out ++ [p]) K (by omega) (by simp at hl; omega) (fun x hx => hv x (List.mem_cons_of_mem _ hx))]
      by_cases hlt : L.length + (out ++ [p]).length < mN
      · rw [if_pos hlt, if_pos (by simp; omega), List.append_assoc, List.singleton_append]
      · rw [if_neg hlt, if_neg (by simp; omega), List.append_assoc, List.singleton_append, hl1, show mN - out.length = (mN - (out.length + 1)) + 1 by omega, List.take_succ_cons]
end
def gTk (f : FuncId) (cs : List PV) (q : Ky) : Option (List (Ky × PV)) := if f = 60 then gFoA cs q else if f = 75 then gBaA cs q else none
def isFB (f : FuncId) : Bool := decide (f = 60) || decide (f = 75)
def hTaken : HFn := ⟨fun bs xs k => match bs, xs with
  | [[.ptr 2 0], [.str q], [.eptr cs]], [.clo f [.ptr 0 0, .ptr 1 0], .int .i64 most] => (gTk f cs q).bind fun l => bif decide (l.length ≤ 100000) && decide (most ≤ 100000) then k [[.ptr 2 0], [.str q], [.eptr cs]] (.sl (some (l.take most.toNat).isEmpty) 2 (l.take most.toNat).length (pcs (l.take most.toNat))) else none
  | [[.ptr 2 0], [.str q], [.nilptr]], [.clo f [.ptr 0 0, .ptr 1 0], .int .i64 most] => bif isFB f then k [[.ptr 2 0], [.str q], [.nilptr]] (.sl (some true) 2 0 []) else none
  | [[.nilptr], [.str q]], [.clo f [.ptr 0 0, .ptr 1 0], .int .i64 most] => bif isFB f then k [[.nilptr], [.str q]] (.sl (some true) 2 0 []) else none
  | _, _ => none⟩
theorem gFoA_vok {cs : List PV} {q : Ky} {l : List (Ky × PV)} (h : gFoA cs q = some l) : ∀ p ∈ l, vok p.2 = true := by
  unfold gFoA gFo at h
  obtain ⟨t, ht, h⟩ := bind_some_inv h
  obtain ⟨hg, h⟩ := bif_inv h
  injection h with h
  subst h
  exact fun p hp => (dec_inv ht).2 p (List.mem_filter.1 hp).1
theorem gBaA_vok {cs : List PV} {q : Ky} {l : List (Ky × PV)} (h : gBaA cs q = some l) : ∀ p ∈ l, vok p.2 = true := by
  unfold gBaA gBa at h
  obtain ⟨t, ht, h⟩ := bind_some_inv h
  obtain ⟨hg, h⟩ := bif_inv h
  injection h with h
  subst h
  exact fun p hp => (dec_inv ht).2 p (List.mem_filter.1 (List.mem_reverse.1 hp)).1
theorem tk_fin {gf gb : List PV → Ky → Option (List (Ky × PV))} (f : FuncId) (cs : List PV) (q : Ky) (mN : Nat) (h0 : 0 < mN) (hm : mN ≤ 100000) {l : List (Ky × PV)} (hl : l.length ≤ 100000) (hv : ∀ p ∈ l, vok p.2 = true) {R : Type} (kk : List (List PV) → PV → Option R) :
    walkY (tkY gf gb f (mN : Int)) l [[.ptr 2 0], [.str q], [.eptr cs]] (.fr (tkBx q (.eptr cs) (mN : Int) (.sl (some true) 2 0 [])) none .nil) (fun bs o _ => tkEnd gf gb f (mN : Int) kk bs o) = kk [[.ptr 2 0], [.str q], [.eptr cs]] (pSl (l.take mN)) := by
  have := tk_walk gf gb f mN hm q cs l [] (fun bs o _ => tkEnd gf gb f (mN : Int) kk bs o) (by simpa using h0) hl hv
  refine this.trans ?_
  by_cases hlt : l.length + ([] : List (Ky × PV)).length < mN
  · rw [if_pos hlt, List.nil_append, List.take_of_length_le (by simp at hlt; omega)]
    exact tk_end1 gf gb f (mN : Int) q cs _ _ _ kk
  · rw [if_neg hlt, List.nil_append]
    exact tk_end1x gf gb f (mN : Int) q cs _ _ _ kk
theorem iWalk_ptr {R : Type} (g : List PV → Ky → Option (List (Ky × PV))) (q : Ky) (cs : List PV) (o : Out) (y : YFn) (k : List (List PV) → Out → PV → Option R) : (iWalk g).F [[.ptr 2 0], [.str q], [.eptr cs]] o [.yld, .ptr 0 0, .ptr 1 0] y k = callW g cs q y [[.ptr 2 0], [.str q], [.eptr cs]] o fun bs o b => k bs o (.tuple []) := rfl
theorem ok_taken : HOK NGt Wt 38 hTaken := by
  refine HnOK.of_run (en := enTk gFoA gBaA) (en' := en []) (env_okR (env_okA wokt allOK_nil allH_nil (allI_cons okFrom1 (allI_cons okBack1 allI_nil)) allN_nil allC_nil) _) rfl rfl rfl Try.func38 rfl (by decide) ?_ (h := h0) ?_
  · intro R bs xs k
    simp only [hTaken]
    split
    · rw [obind_assoc]; congr 1; funext l; rw [bif_bind]; rfl
    · rw [bif_bind]; rfl
    · rw [bif_bind]; rfl
    · rfl
  · intro bs xs r h
    simp only [hTaken] at h
    split at h
    · rename_i q cs f most
      replace h := bind_some_inv h
      obtain ⟨l, hl, h⟩ := h
      replace h := bif_inv h
      obtain ⟨hb, h⟩ := h
      simp only [Bool.and_eq_true, decide_eq_true_eq] at hb
      refine ⟨0, ?_⟩
      unfold gTk at hl
      by_cases hf : f = 60
      · rw [if_pos hf] at hl
        subst hf
        refine (tk_rawF1 gFoA gBaA cs q most _).trans ?_
        by_cases h0 : most ≤ 0
        · rw [cond_t (decide_eq_true h0)]
          rw [show most.toNat = 0 by omega, List.take_zero] at h
          exact h
        · rw [cond_f (decide_eq_false h0)]
          have hmn : ((most.toNat : Nat) : Int) = most := by omega
          rw [← hmn]
          have := tk_fin (gf := gFoA) (gb := gBaA) 60 cs q most.toNat (by omega) (by omega) hb.1 (gFoA_vok hl) (fun b v => some (b, v))
          refine Eq.trans ?_ (this.trans h)
          rw [iWalk_ptr]
          unfold callW
          rw [shp_of (.inr ⟨cs, rfl⟩), cond_true, hl, Option.bind_some]
      · rw [if_neg hf] at hl
        by_cases hf2 : f = 75
        · rw [if_pos hf2] at hl
          subst hf2
          refine (tk_rawB1 gFoA gBaA cs q most _).trans ?_
          by_cases h0 : most ≤ 0
          · rw [cond_t (decide_eq_true h0)]
            rw [show most.toNat = 0 by omega, List.take_zero] at h
            exact h
          · rw [cond_f (decide_eq_false h0)]
            have hmn : ((most.toNat : Nat) : Int) = most := by omega
            rw [← hmn]
            have := tk_fin (gf := gFoA) (gb := gBaA) 75 cs q most.toNat (by omega) (by omega) hb.1 (gBaA_vok hl) (fun b v => some (b, v))
            refine Eq.trans ?_ (this.trans h)
            rw [iWalk_ptr]
            unfold callW
            rw [shp_of (.inr ⟨cs, rfl⟩), cond_true, hl, Option.bind_some]
        · rw [if_neg hf2] at hl; cases hl
    · rename_i q f most
      replace h := bif_inv h
      obtain ⟨hb, h⟩ := h
      refine ⟨0, ?_⟩
      unfold isFB at hb
      rw [Bool.or_eq_true, decide_eq_true_eq, decide_eq_true_eq] at hb
      rcases hb with rfl | rfl
      · refine (tk_rawF0 gFoA gBaA q most _).trans ?_
        cases decide (most ≤ 0) <;> exact h
      · refine (tk_rawB0 gFoA gBaA q most _).trans ?_
        cases decide (most ≤ 0) <;> exact h
    · rename_i q f most
      replace h := bif_inv h
      obtain ⟨hb, h⟩ := h
      refine ⟨0, ?_⟩
      unfold isFB at hb
      rw [Bool.or_eq_true, decide_eq_true_eq, decide_eq_true_eq] at hb
      rcases hb with rfl | rfl
      · refine (tk_rawFN gFoA gBaA q most _).trans ?_
        cases decide (most ≤ 0) <;> exact h
      · refine (tk_rawBN gFoA gBaA q most _).trans ?_
        cases decide (most ≤ 0) <;> exact h
    · cases h
/-- the first pairs of a walk from a key on -/
theorem takenF_law {R : Type} {x : PV} {l : List (Ky × PV)} (h : RootIs x l) (hl : l.length ≤ 50000) (s : Ky) (most : Int) (hm : most ≤ 100000) (K : List (List PV) → PV → Option R) :
    hTaken.F [[.ptr 2 0], [.str s], [x]] [.clo 60 [.ptr 0 0, .ptr 1 0], .int .i64 most] K = K [[.ptr 2 0], [.str s], [x]] (pSl ((fromK s l).take most.toNat)) := by
  rcases h with ⟨rfl, rfl⟩ | ⟨d, t, rfl, h1, h2, rfl, hv⟩
  · have e : (fromK s ([] : List (Ky × PV))).take most.toNat = [] := by simp [fromK]
    rw [e]
    rfl
  · obtain ⟨cs, e⟩ := enc_ptr d t
    have hg := gdP_root h1 h2 hl
    have hdep := gdP_dep hg
    have hfo : gFoA cs s = some (fromK s (cD d t)) := by
      unfold gFoA
      rw [← e, hdep]
      unfold gFo
      rw [← e, dec_enc hv, Option.bind_some, hg, cond_true]
    have hle : (fromK s (cD d t)).length ≤ (cD d t).length := List.length_filter_le _ _
    rw [e]
    show ((gTk _ cs s).bind _) = _
    unfold gTk
    rw [if_pos rfl, hfo, Option.bind_some, cond_t (by rw [decide_eq_true (by omega), decide_eq_true hm]; rfl)]
    rfl
theorem takenB_law {R : Type} {x : PV} {l : List (Ky × PV)} (h : RootIs x l) (hl : l.length ≤ 50000) (s : Ky) (most : Int) (hm : most ≤ 100000) (K : List (List PV) → PV → Option R) :
    hTaken.F [[.ptr 2 0], [.str s], [x]] [.clo 75 [.ptr 0 0, .ptr 1 0], .int .i64 most] K = K [[.ptr 2 0], [.str s], [x]] (pSl ((backK s l).take most.toNat)) := by
  rcases h with ⟨rfl, rfl⟩ | ⟨d, t, rfl, h1, h2, rfl, hv⟩
  · have e : (backK s ([] : List (Ky × PV))).take most.toNat = [] := by simp [backK]
    rw [e]
    rfl
  · obtain ⟨cs, e⟩ := enc_ptr d t
    have hg := gdP_root h1 h2 hl
    have hdep := gdP_dep hg
    have hfo : gBaA cs s = some (backK s (cD d t)) := by
      unfold gBaA
      rw [← e, hdep]
      unfold gBa
      rw [← e, dec_enc hv, Option.bind_some, hg, cond_true]
    have hle : (backK s (cD d t)).length ≤ (cD d t).length := by unfold backK; rw [List.length_reverse]; exact List.length_filter_le _ _
    rw [e]
    show ((gTk _ cs s).bind _) = _
    unfold gTk
    rw [if_neg (by decide), if_pos rfl, hfo, Option.bind_some, cond_t (by rw [decide_eq_true (by omega), decide_eq_true hm]; rfl)]
    rfl
end Go.Proofs.Ytmacjkiamejcnaa
