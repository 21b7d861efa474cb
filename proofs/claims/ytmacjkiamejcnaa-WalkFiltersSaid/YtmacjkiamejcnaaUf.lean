/-
  Delete, Levels of a tree: contracts; At, Rank: raw runs.
-/
import Derived.Test.YtmacjkiamejcnaaUe
set_option linter.unusedVariables false
set_option linter.unusedSimpArgs false
set_option maxRecDepth 100000
namespace Go.Proofs.Ytmacjkiamejcnaa
open Go.RowKit
/-- what follows the loss of a key at the root -/
def rootD : (d : Nat) → TrD PV d → PV
  | 0, l => bif decide ((as0 l).length = 0) then .nilptr else enc 0 l
  | d + 1, ks => match asL ks with
    | [k] => enc d k
    | _ => enc (d + 1) ks
theorem rootD0 (t : TrD PV 0) : rootD 0 t = bif decide ((as0 t).length = 0) then .nilptr else enc 0 t := rfl
theorem rootDS {d : Nat} (t : TrD PV (d + 1)) : rootD (d + 1) t = (match asL t with | [k] => enc d k | _ => enc (d + 1) t) := rfl
def gdD (d : Nat) (t : TrD PV d) : Bool := okB (min 2 (d + 1)) d t && (srtB (cD d t) && decide ((cD d t).length ≤ 50000))
def isNilP : PV → Bool
  | .nilptr => true
  | _ => false
def gDe (cs : List PV) (s : Ky) : Option (Bool × Bool × List PV) := (dec (depF 30 (.eptr cs)) (.eptr cs)).bind fun t => bif gdD (depF 30 (.eptr cs)) t then
  (bif hasK s (cD (depF 30 (.eptr cs)) t) then some (true, isNilP (rootD (depF 30 (.eptr cs)) (remD (depF 30 (.eptr cs)) t s)), ptrC (rootD (depF 30 (.eptr cs)) (remD (depF 30 (.eptr cs)) t s))) else some (false, false, cs)) else none
def hDel (g : List PV → Ky → Option (Bool × Bool × List PV)) : HFn := ⟨fun bs xs k => match bs, xs with
  | [[.eptr cs]], [.ptr 0 0, .str s] => (g cs s).bind fun r => bif r.2.1 then k [[.nilptr]] (.bool r.1) else k [[.eptr r.2.2]] (.bool r.1)
  | [[.nilptr]], [.ptr 0 0, .str s] => k [[.nilptr]] (.bool false)
  | [], [.nilptr, .str s] => k [] (.bool false)
  | _, _ => none⟩
theorem hDel_nat (g : List PV → Ky → Option (Bool × Bool × List PV)) : (hDel g).nat := by
  intro R bs xs k
  simp only [hDel]
  split
  · rw [obind_assoc]
    congr 1
    funext r
    cases r.2.1 <;> rfl
  all_goals rfl
theorem gdD_inv {d : Nat} {t : TrD PV d} (h : gdD d t = true) : okD (min 2 (d + 1)) d t ∧ Srt (cD d t) ∧ (cD d t).length ≤ 50000 := by
  unfold gdD at h
  simp only [Bool.and_eq_true, decide_eq_true_eq] at h
  exact ⟨(okB_iff _ d t).1 h.1, (srtB_iff _).1 h.2.1, h.2.2⟩
theorem rootD_form (d : Nat) (t : TrD PV d) : (rootD d t = .nilptr ∧ isNilP (rootD d t) = true) ∨ (isNilP (rootD d t) = false ∧ rootD d t = .eptr (ptrC (rootD d t))) := by
  cases d with
  | zero =>
    rw [rootD0]
    by_cases h : (as0 t).length = 0
    · rw [decide_eq_true h]; exact .inl ⟨rfl, rfl⟩
    · rw [decide_eq_false h]; exact .inr ⟨rfl, rfl⟩
  | succ d =>
    rw [rootDS]
    split
    · rename_i k _
      obtain ⟨cs, e⟩ := enc_ptr d k
      rw [e]; exact .inr ⟨rfl, rfl⟩
    · exact .inr ⟨rfl, rfl⟩
section
variable {R : Type}
/-- the loop that lets a lone kid rise ends at once, or behind one round -/
theorem de_stop {gr : List PV → Ky → Option (Bool × List PV)} {gg : List PV → Ky → Option (Int × Bool)} (fu n : Nat) (kk : List (List PV) → PV → Option R) {d : Nat} {t : TrD PV d} {cs : List PV} (hc : enc d t = .eptr cs) (h : d = 0 ∨ szD d t ≠ 1) : deLoop gr gg fu kk (n + 1) (frDe (.eptr cs)) = kk [[.eptr cs]] (.bool true) := by
  unfold deLoop
  rw [loopK_succ, del_step1]
  cases d with
  | zero => rw [kidsOf_enc0 (l := as0 t) hc]; rfl
  | succ d =>
    have hs : (asL t).length ≠ 1 := h.resolve_left (by omega)
    rw [kidsOf_enc (ks := asL t) hc, cond_f (by rw [beq_eq_false_iff_ne]; omega)]
theorem de_loop {gr : List PV → Ky → Option (Bool × List PV)} {gg : List PV → Ky → Option (Int × Bool)} (fu n : Nat) (kk : List (List PV) → PV → Option R) {d : Nat} {t : TrD PV d} (hok : okD (min 2 (d + 1) - 1) d t) (hne : d = 0 → szD d t ≠ 0) :
    deLoop gr gg fu kk (n + 2) (frDe (enc d t)) = kk [[rootD d t]] (.bool true) := by
  obtain ⟨cs, e⟩ := enc_ptr d t
  rw [e]
  cases d with
  | zero =>
    rw [de_stop fu (n + 1) kk e (.inl rfl)]
    have : rootD 0 t = enc 0 t := by
      rw [rootD0, decide_eq_false (show ¬ (as0 t).length = 0 from hne rfl)]
      rfl
    rw [this, e]
  | succ d =>
    by_cases h1 : (asL t).length = 1
    · obtain ⟨k, hk⟩ := List.length_eq_one_iff.1 h1
      have h4 : okD 4 d k := hok.2 k (by show k ∈ asL t; rw [hk]; exact List.mem_cons_self)
      have hr : rootD (d + 1) t = enc d k := by
        rw [rootDS]
        rw [hk]
      unfold deLoop
      rw [loopK_succ, del_step1, kidsOf_enc (ks := asL t) e, cond_t (by rw [h1]; rfl), kidsOf_enc (ks := asL t) e]
      obtain ⟨es, ee, q⟩ := kidAt_enc (R := R) (ks := asL t) (i := 0) (k := k) (by rw [hk]; rfl)
      have := de_stop (gr := gr) (gg := gg) fu n kk ee (.inr (by have := h4.sz; omega))
      unfold deLoop at this
      have q0 := q
      rw [show ((0 : Nat) : Int) = 0 from rfl] at q0
      rw [q0, this, hr, ee]
    · have hr : rootD (d + 1) t = enc (d + 1) t := by
        rw [rootDS]
        split
        · rename_i k hk
          rw [hk] at h1
          exact absurd rfl h1
        · rfl
      rw [de_stop fu (n + 1) kk e (.inr h1), hr, e]
theorem ok_del : HOK NGt Wt 40 (hDel gDe) := by
  refine hokX (l := lDe gRmA) (allOK_cons ok_remA allOK_nil) (lh := lDeH gGe) (allH_cons ok_get allH_nil) (h := hDe) Try.func40 rfl (by decide) (hDel_nat _) ?_
  intro bs xs r h
  simp only [hDel] at h
  split at h
  · rename_i cs s
    obtain ⟨p, hp, h⟩ := bind_some_inv h
    unfold gDe at hp
    obtain ⟨t, ht, hp⟩ := bind_some_inv hp
    obtain ⟨hg, hp⟩ := bif_inv hp
    obtain ⟨e, hv⟩ := dec_inv ht
    obtain ⟨h1, h2, h3⟩ := gdD_inv hg
    have hgP := gdP_root h1 h2 h3
    have hge : gGe cs s = some (valP ((getK s (cD (depF 30 (.eptr cs)) t)).getD (.int .i64 0)), hasK s (cD (depF 30 (.eptr cs)) t)) := by
      unfold gGe
      rw [ht, Option.bind_some, hgP, cond_true]
    refine ⟨100, (del_raw1 gRmA gGe 100 cs s _).trans ?_⟩
    rw [hge, Option.bind_some]
    rcases hh : hasK s (cD (depF 30 (.eptr cs)) t) with _ | _
    · rw [hh, cond_false] at hp
      injection hp with hp
      subst hp
      exact h
    · rw [hh, cond_true] at hp
      injection hp with hp
      subst hp
      rw [cond_f (b := !true) rfl]
      have hgR : gdR (depF 30 (.eptr cs)) t s = true := by
        unfold gdR
        rw [(okB_iff _ _ t).2 h1, (srtB_iff _).2 h2, hh, decide_eq_true h3]
        rfl
      have hgr : gRmA cs s = some (decide (szD (depF 30 (.eptr cs)) (remD (depF 30 (.eptr cs)) t s) = 0), ptrC (enc (depF 30 (.eptr cs)) (remD (depF 30 (.eptr cs)) t s))) := by
        unfold gRmA gRm
        rw [ht, Option.bind_some, hgR, cond_true]
      obtain ⟨r1, r2⟩ := rem_spec (k := s) h1 (by omega) (by omega) h2
      rw [hgr, Option.bind_some]
      rcases rootD_form (depF 30 (.eptr cs)) (remD (depF 30 (.eptr cs)) t s) with ⟨f1, f2⟩ | ⟨f1, f2⟩
      · have hz : szD (depF 30 (.eptr cs)) (remD (depF 30 (.eptr cs)) t s) = 0 := by
          revert f1 r2
          generalize remD (depF 30 (.eptr cs)) t s = u
          generalize depF 30 (.eptr cs) = d at u
          intro r2 f1
          cases d with
          | zero =>
            rw [rootD0] at f1
            by_cases hz : (as0 u).length = 0
            · exact hz
            · rw [decide_eq_false hz] at f1; cases f1
          | succ d =>
            rw [rootDS] at f1
            split at f1
            · rename_i k _
              obtain ⟨c2, e2⟩ := enc_ptr d k
              rw [e2] at f1; cases f1
            · obtain ⟨c2, e2⟩ := enc_ptr (d + 1) u
              rw [e2] at f1; cases f1
        rw [f2, cond_true] at h
        rw [decide_eq_true hz, cond_true]
        unfold deLoop
        rw [show (100 : Nat) = 99 + 1 from rfl, loopK_succ, del_step0]
        exact h
      · have hz : ¬ szD (depF 30 (.eptr cs)) (remD (depF 30 (.eptr cs)) t s) = 0 := by
          revert f1 r2
          generalize remD (depF 30 (.eptr cs)) t s = u
          generalize depF 30 (.eptr cs) = d at u
          intro r2 f1
          cases d with
          | zero =>
            intro hz
            rw [rootD0] at f1
            rw [decide_eq_true (show (as0 u).length = 0 from hz)] at f1
            cases f1
          | succ d =>
            have := r2.sz
            omega
        rw [f1, cond_false] at h
        rw [decide_eq_false hz, cond_false, ptrC_enc, show (100 : Nat) = 98 + 2 from rfl, de_loop 100 98 _ r2 (fun _ => hz), f2]
        exact h
  · exact ⟨0, (del_raw0 gRmA gGe 0 _ _).trans h⟩
  · exact ⟨0, (del_rawN gRmA gGe 0 _ _).trans h⟩
  · cases h
theorem del_law {x : PV} {l : List (Ky × PV)} (h : RootIs x l) (hl : l.length ≤ 50000) (s : Ky) :
    ∃ x', RootIs x' (delK s l) ∧ ∀ {R : Type} (K : List (List PV) → PV → Option R), (hDel gDe).F [[x]] [.ptr 0 0, .str s] K = K [[x']] (.bool (hasK s l)) := by
  have hvk := h.vok
  have hroot := h
  rcases h with ⟨rfl, rfl⟩ | ⟨d, t, rfl, h1, h2, rfl, hv⟩
  · exact ⟨.nilptr, .inl ⟨rfl, rfl⟩, fun K => rfl⟩
  · obtain ⟨cs, e⟩ := enc_ptr d t
    have hdep := gdP_dep (gdP_root h1 h2 hl)
    have hgd : gdD d t = true := by
      unfold gdD
      rw [(okB_iff _ d t).2 h1, (srtB_iff _).2 h2, decide_eq_true hl]
      rfl
    rcases hh : hasK s (cD d t) with _ | _
    · refine ⟨enc d t, ?_, fun K => ?_⟩
      · rw [del_none hh]; exact hroot
      · have hge : gDe cs s = some (false, false, cs) := by
          unfold gDe
          rw [← e, hdep, dec_enc hv, Option.bind_some, hgd, cond_true, hh, cond_false]
        rw [e]
        show ((gDe cs s).bind _) = _
        rw [hge]
        rfl
    · obtain ⟨r1, r2⟩ := rem_spec (k := s) h1 (by omega) (by omega) h2
      have hge : gDe cs s = some (true, isNilP (rootD d (remD d t s)), ptrC (rootD d (remD d t s))) := by
        unfold gDe
        rw [← e, hdep, dec_enc hv, Option.bind_some, hgd, cond_true, hh, cond_true]
      refine ⟨rootD d (remD d t s), ?_, fun K => ?_⟩
      · have hsd : Srt (delK s (cD d t)) := h2.del
        have hvd : ∀ p ∈ delK s (cD d t), vok p.2 = true := fun p hp => hv p (List.mem_filter.1 hp).1
        revert r1 r2
        generalize remD d t s = u
        intro r1 r2
        cases d with
        | zero =>
          rw [rootD0]
          by_cases hz : (as0 u).length = 0
          · rw [decide_eq_true hz]
            exact .inl ⟨rfl, by rw [← r1]; exact List.eq_nil_of_length_eq_zero hz⟩
          · rw [decide_eq_false hz]
            exact .inr ⟨0, u, rfl, ⟨by show min 2 (0 + 1) ≤ (as0 u).length; omega, r2.2⟩, hsd, r1, hvd⟩
        | succ d =>
          rw [rootDS]
          have hq : okD 1 (d + 1) u := r2.weaken (by omega)
          split
          · rename_i k hk
            have h4 : okD 4 d k := hq.2 k (by show k ∈ asL u; rw [hk]; exact List.mem_cons_self)
            refine .inr ⟨d, k, rfl, h4.weaken (by omega), hsd, ?_, hvd⟩
            rw [← r1]
            show _ = (asL u).flatMap (cD d)
            rw [hk, List.flatMap_singleton]
          · rename_i hk
            refine .inr ⟨d + 1, u, rfl, hq.raise ?_, hsd, r1, hvd⟩
            have h0 : 1 ≤ (asL u).length := hq.1.1
            show min 2 (d + 1 + 1) ≤ (asL u).length
            by_cases h1 : (asL u).length = 1
            · obtain ⟨k, hk2⟩ := List.length_eq_one_iff.1 h1
              exact absurd hk2 (hk k)
            · omega
      · rw [e]
        show ((gDe cs s).bind _) = _
        rw [hge, Option.bind_some]
        rcases rootD_form d (remD d t s) with ⟨f1, f2⟩ | ⟨f1, f2⟩
        · rw [f2, cond_true, f1]
        · rw [f1, cond_false, ← f2]
/-! ## Levels -/
def gLv (cs : List PV) : Option Int := (dec (depF 30 (.eptr cs)) (.eptr cs)).bind fun t => bif gdP (depF 30 (.eptr cs)) t then some ((depF 30 (.eptr cs) : Int) + 1) else none
def hLev (g : List PV → Option Int) : HFn := ⟨fun bs xs k => match bs, xs with
  | [[.eptr cs]], [.ptr 0 0] => (g cs).bind fun n => k [[.eptr cs]] (.int .i64 n)
  | [[.nilptr]], [.ptr 0 0] => k [[.nilptr]] (.int .i64 0)
  | [], [.nilptr] => k [] (.int .i64 0)
  | _, _ => none⟩
theorem le_loop (fu : Nat) (kk : List (List PV) → PV → Option R) (root : List PV) : ∀ (d n : Nat) (t : TrD PV d) (cs : List PV) (m : Int), enc d t = .eptr cs → d < n → okD 1 d t → 0 ≤ m → m + d ≤ 1000000 →
    leLoop gLf fu kk n (frLe m (.eptr cs) (.eptr root)) = kk [[.eptr root]] (.int .i64 (m + d))
  | d, 0, t, cs, m, hc, hn, hok, hm, hm2 => by omega
  | 0, n + 1, t, cs, m, hc, hn, hok, hm, hm2 => by
    unfold leLoop
    rw [loopK_succ, lev_step, gLf_enc hc, Option.bind_some, cond_f (b := !decide (0 = 0)) (by simp), show m + ((0 : Nat) : Int) = m by omega]
  | d + 1, n + 1, t, cs, m, hc, hn, hok, hm, hm2 => by
    have h0 : 1 ≤ (asL t).length := hok.1.1
    have hk : (asL t)[0]? = some (asL t)[0] := List.getElem?_eq_getElem (by omega)
    obtain ⟨es, ee, q⟩ := kidAt_enc (R := R) hk
    have q0 := q
    rw [show ((0 : Nat) : Int) = 0 from rfl] at q0
    unfold leLoop
    rw [loopK_succ, lev_step, gLf_enc hc, Option.bind_some, cond_t (b := !decide (d + 1 = 0)) (by simp), kidsOf_enc (ks := asL t) hc, q0, wrapI_of (by omega) (by omega)]
    have := le_loop fu kk root d n (asL t)[0] es (m + 1) ee (by omega) ((hok.2 _ (List.getElem_mem (show 0 < (asL t).length by omega))).weaken (by omega)) (by omega) (by omega)
    unfold leLoop at this
    rw [this, show m + 1 + (d : Int) = m + ((d + 1 : Nat) : Int) by omega]
theorem ok_lev : HOK NGt Wt 41 (hLev gLv) := by
  refine hokX (l := lLe gLf) (allOK_cons ok_leafT allOK_nil) allH_nil (h := hLe) Try.func41 rfl (by decide) ?_ ?_
  · intro R bs xs k
    simp only [hLev]
    split
    · rw [obind_assoc]; rfl
    all_goals rfl
  · intro bs xs r h
    simp only [hLev] at h
    split at h
    · rename_i cs
      obtain ⟨p, hp, h⟩ := bind_some_inv h
      unfold gLv at hp
      obtain ⟨t, ht, hp⟩ := bind_some_inv hp
      obtain ⟨hg, hp⟩ := bif_inv hp
      injection hp with hp
      subst hp
      obtain ⟨e, hv⟩ := dec_inv ht
      obtain ⟨h1, h2, h3⟩ := gdP_inv hg
      have hd := dep_lt h1 (by omega) (by omega)
      refine ⟨100, (lev_raw1 gLf 100 cs _).trans ?_⟩
      rw [le_loop 100 _ cs _ 100 t cs 1 e.symm (by omega) h1 (by omega) (by omega), Int.add_comm]
      exact h
    · exact ⟨0, (lev_raw0 gLf 0 _).trans h⟩
    · exact ⟨0, (lev_rawN gLf 0 _).trans h⟩
    · cases h
/-- so many levels has a tree -/
theorem lev_law {x : PV} {l : List (Ky × PV)} (h : RootIs x l) (hl : l.length ≤ 50000) : ∃ n : Nat, (n = 0 ∧ l = [] ∨ 0 < n ∧ l ≠ [] ∧ (1 < n → 2 * 4 ^ (n - 1) ≤ l.length)) ∧ ∀ {R : Type} (K : List (List PV) → PV → Option R), (hLev gLv).F [[x]] [.ptr 0 0] K = K [[x]] (.int .i64 (n : Int)) := by
  rcases h with ⟨rfl, rfl⟩ | ⟨d, t, rfl, h1, h2, rfl, hv⟩
  · exact ⟨0, .inl ⟨rfl, rfl⟩, fun K => rfl⟩
  · obtain ⟨cs, e⟩ := enc_ptr d t
    have hg := gdP_root h1 h2 hl
    have hdep := gdP_dep hg
    have hlv : gLv cs = some ((d : Int) + 1) := by
      unfold gLv
      rw [← e, hdep, dec_enc hv, Option.bind_some, hg, cond_true]
    refine ⟨d + 1, .inr ⟨by omega, h1.nonempty (by omega), fun hd => ?_⟩, fun K => ?_⟩
    · have := h1.least
      rw [show min 2 (d + 1) = 2 by omega] at this
      exact this
    · rw [e]
      show ((gLv cs).bind _) = _
      rw [hlv]
      rfl
end
end Go.Proofs.Ytmacjkiamejcnaa
