/-
  At, Rank of a tree: contracts.
-/
import Derived.Test.YtmacjkiamejcnaaUg
set_option linter.unusedVariables false
set_option linter.unusedSimpArgs false
set_option maxRecDepth 100000
namespace Go.Proofs.Ytmacjkiamejcnaa
open Go.RowKit
theorem rank_leaf {l : List (Ky × PV)} (h : Srt l) (s : Ky) : rankK s l = plN (l.map (·.1)) s := by
  obtain ⟨p1, p2, p3, _⟩ := leaf_split h s
  have hpl := plN_le s (l.map (·.1))
  rw [List.length_map] at hpl
  rcases hh : hasK s l with _ | _
  · have e : rankK s l = rankK s (l.take (plN (l.map (·.1)) s) ++ [] ++ l.drop (plN (l.map (·.1)) s)) := by rw [List.append_nil, List.take_append_drop]
    rw [e, rank_mid [] p1 (p3 hh), List.length_take, Nat.min_eq_left hpl]
    rfl
  · obtain ⟨v, q1, q2⟩ := p2 hh
    have e : rankK s l = rankK s (l.take (plN (l.map (·.1)) s) ++ [(s, v)] ++ l.drop (plN (l.map (·.1)) s + 1)) := by rw [← take_get_drop q1]
    rw [e, rank_mid _ p1 q2, List.length_take, Nat.min_eq_left hpl]
    simp [rankK, kl_irr]
theorem numAt_enc {S : Type} {d : Nat} {t : TrD PV d} {cs : List PV} (h : enc d t = .eptr cs) (k : Int → Option S) : numAt cs k = k ((cD d t).length : Int) := by
  cases d with
  | zero =>
    have e := enc_zero (as0 t)
    rw [show enc 0 (ofL0 (as0 t)) = enc 0 t from rfl, h] at e
    injection e with e
    subst e
    rfl
  | succ d =>
    have e := enc_succ (asL t)
    rw [show enc (d + 1) (ofL (asL t)) = enc (d + 1) t from rfl, h] at e
    injection e with e
    subst e
    rfl
def cnt {d : Nat} (ks : List (TrD PV d)) : Nat := (ks.flatMap (cD d)).length
theorem cnt_take {d : Nat} {ks : List (TrD PV d)} {j : Nat} {k : TrD PV d} (h : ks[j]? = some k) : cnt (ks.take (j + 1)) = cnt (ks.take j) + (cD d k).length := by
  unfold cnt
  rw [List.take_add_one, h, Option.toList_some, List.flatMap_append, List.length_append, List.flatMap_singleton]
theorem cnt_take_le {d : Nat} (ks : List (TrD PV d)) (j : Nat) : cnt (ks.take j) ≤ cnt ks := by
  unfold cnt
  conv => rhs; rw [← List.take_append_drop j ks, List.flatMap_append, List.length_append]
  omega
section
variable {R : Type}
theorem rk_inner (fu : Nat) (kk : List (List PV) → PV → Option R) (s : Ky) (root : List PV) {d : Nat} {t : TrD PV (d + 1)} {cs : List PV} (hc : enc (d + 1) t = .eptr cs) {i : Nat} {x : TrD PV d} (hx : (asL t)[i]? = some x) (hl : (asL t).length ≤ 1000) (hcl : cnt (asL t) ≤ 50000) (nk : Option Bool) (m : Nat) (hm : m ≤ 1000000) (K0 : St → Option R) :
    ∀ (k j n : Nat), j + k = i → k < n → rkLoop2 gLf gPl gKd fu kk (fun st => pnorm (hRk.loop.lookup 0) st K0) n (frRk2 s ((m + cnt ((asL t).take j) : Nat) : Int) (.eptr cs) (i : Int) nk i (((asL t).map (enc d)).take i) (i : Int) (j : Int) (.eptr root)) = K0 (frRk0 s ((m + cnt ((asL t).take i) : Nat) : Int) (enc d x) (.eptr root))
  | k, j, 0, hj, hn => by omega
  | 0, j, n + 1, hj, hn => by
    obtain ⟨es, ee, q⟩ := kidAt_enc (R := R) hx
    unfold rkLoop2
    rw [loopK_succ, rank_step2, cond_f (decide_eq_false (by omega)), slAt2 (ks := asL t) hc, q, ← ee, show j = i by omega]
  | k + 1, j, n + 1, hj, hn => by
    have hi := (List.getElem?_eq_some_iff.1 hx).1
    have hkj : (asL t)[j]? = some (asL t)[j] := List.getElem?_eq_getElem (by omega)
    have hkj2 : ((asL t).take i)[j]? = some (asL t)[j] := by rw [List.getElem?_take_of_lt (by omega), hkj]
    obtain ⟨es, ee, q⟩ := kidAt_enc (R := R) hkj2
    rw [List.length_take, Nat.min_eq_left (by omega), List.map_take] at q
    have hct := cnt_take hkj
    have hle := cnt_take_le (asL t) (j + 1)
    have ih := rk_inner fu kk s root hc hx hl hcl nk m hm K0 k (j + 1) n (by omega) (by omega)
    unfold rkLoop2 at ih ⊢
    rw [loopK_succ, rank_step2, cond_t (decide_eq_true (by omega)), q, numAt_enc ee, wrapI_of (by omega) (by omega), wrapI_of (by omega) (by omega), ← ih]
    congr 2
    · omega
theorem rk_loop (fu : Nat) (hfu : 2000 ≤ fu) (kk : List (List PV) → PV → Option R) (s : Ky) (root : List PV) : ∀ (d n : Nat) (t : TrD PV d) (cs : List PV) (m : Nat), enc d t = .eptr cs → d < n → okD 1 d t → Srt (cD d t) → (cD d t).length ≤ 50000 → m ≤ 100000 →
    m + (cD d t).length ≤ 100000 → rkLoop0 gLf gPl gKd fu kk n (frRk0 s (m : Int) (.eptr cs) (.eptr root)) = kk [[.eptr root]] (.int .i64 ((m + rankK s (cD d t) : Nat) : Int))
  | d, 0, t, cs, m, hc, hn, hok, hs, hl, hm, hm2 => by omega
  | 0, n + 1, t, cs, m, hc, hn, hok, hs, hl, hm, hm2 => by
    have h1 : 1 ≤ (as0 t).length := hok.1
    have h8 : (as0 t).length ≤ 8 := hok.2
    have hs' : Srt (as0 t) := hs
    have hpl := plN_le s ((as0 t).map (·.1))
    rw [List.length_map] at hpl
    have e : rankK s (cD 0 t) = plN ((as0 t).map (·.1)) s := rank_leaf hs' s
    unfold rkLoop0
    rw [loopK_succ, rank_step0, gLf_enc hc, Option.bind_some, cond_f (b := !decide (0 = 0)) (by simp), gPl_enc (l := as0 t) hs' (by omega) (by omega) s hc, Option.bind_some, wrapI_of (by omega) (by omega), e]
    rfl
  | d + 1, n + 1, t, cs, m, hc, hn, hok, hs, hl, hm, hm2 => by
    have h4 : ∀ k ∈ asL t, okD 4 d k := hok.2
    have h0 : 1 ≤ (asL t).length := hok.1.1
    have h8 : (asL t).length ≤ 8 := hok.1.2
    have hs' : Srt ((asL t).flatMap (cD d)) := hs
    have hl' : cnt (asL t) ≤ 50000 := hl
    obtain ⟨k, hk, hA, hB⟩ := kid_split (x := s) h4 (by omega) hs'
    have hlt := (List.getElem?_eq_some_iff.1 hk).1
    have hkm := List.mem_of_getElem? hk
    have hsk : Srt (cD d k) := by
      have := hs'
      rw [flat_split hk, List.append_assoc] at this
      exact this.right.left
    have hin := rk_inner fu kk s root hc hk (by omega) hl' (some false) m (by omega) (loopK (enRk gLf gPl gKd) hRk fu (rkKr gLf gPl gKd kk) Try.f47 (fun _ => none) [1, 1, 1, 0, 0] 0 n) (kidN (asL t) s) 0 fu (by omega) (by omega)
    have hle := cnt_take_le (asL t) (kidN (asL t) s)
    have hct := cnt_take hk
    have hle2 := cnt_take_le (asL t) (kidN (asL t) s + 1)
    have hml := len_mem_flat hkm
    obtain ⟨es, ee⟩ := enc_ptr d k
    have hcn : (cD (d + 1) t).length = cnt (asL t) := rfl
    have ih := rk_loop fu hfu kk s root d n k es (m + cnt ((asL t).take (kidN (asL t) s))) ee (by omega) ((h4 k hkm).weaken (by omega)) hsk (by omega) (by omega) (by omega)
    have hr : rankK s (cD (d + 1) t) = cnt ((asL t).take (kidN (asL t) s)) + rankK s (cD d k) := by
      show rankK s ((asL t).flatMap (cD d)) = _
      rw [flat_split hk, rank_mid _ hA hB]
      rfl
    unfold rkLoop0 at ih ⊢
    rw [loopK_succ, rank_step0, gLf_enc hc, Option.bind_some, cond_t (b := !decide (d + 1 = 0)) (by simp), gKd_enc (ks := asL t) h4 hs' (by omega) (by omega) s hc, Option.bind_some, slAt2 (ks := asL t) hc, cond_t (by rw [decide_eq_true (by omega), decide_eq_true (by omega)]; rfl), Int.toNat_natCast, Nat.mul_one, Nat.mul_one, List.drop_zero, Nat.sub_zero]
    rw [show cnt ((asL t).take 0) = 0 from rfl, Nat.add_zero] at hin
    rw [hr, ← Nat.add_assoc, ← ih, ← ee]
    exact hin
def gRk (cs : List PV) (s : Ky) : Option Int := (dec (depF 30 (.eptr cs)) (.eptr cs)).bind fun t => bif gdP (depF 30 (.eptr cs)) t then some (rankK s (cD (depF 30 (.eptr cs)) t) : Int) else none
def hRank (g : List PV → Ky → Option Int) : HFn := ⟨fun bs xs k => match bs, xs with
  | [[.eptr cs]], [.ptr 0 0, .str s] => (g cs s).bind fun n => k [[.eptr cs]] (.int .i64 n)
  | [[.nilptr]], [.ptr 0 0, .str s] => k [[.nilptr]] (.int .i64 0)
  | [], [.nilptr, .str s] => k [] (.int .i64 0)
  | _, _ => none⟩
theorem ok_rank : HOK NGt Wt 47 (hRank gRk) := by
  refine hokX (l := lFo gLf gPl gKd) okl_fo allH_nil (h := hRk) Try.func47 rfl (by decide) ?_ ?_
  · intro R bs xs k
    simp only [hRank]
    split
    · rw [obind_assoc]; rfl
    all_goals rfl
  · intro bs xs r h
    simp only [hRank] at h
    split at h
    · rename_i cs s
      obtain ⟨p, hp, h⟩ := bind_some_inv h
      unfold gRk at hp
      obtain ⟨t, ht, hp⟩ := bind_some_inv hp
      obtain ⟨hg, hp⟩ := bif_inv hp
      injection hp with hp
      subst hp
      obtain ⟨e, hv⟩ := dec_inv ht
      obtain ⟨h1, h2, h3⟩ := gdP_inv hg
      have hd := dep_lt h1 (by omega) (by omega)
      refine ⟨2000, (rank_raw1 gLf gPl gKd 2000 _ cs s).trans ?_⟩
      have := rk_loop 2000 (Nat.le_refl _) (fun b v => some (b, v)) s cs _ 2000 t cs 0 e.symm (by omega) h1 h2 h3 (by omega) (by omega)
      rw [Nat.zero_add] at this
      exact this.trans h
    · exact ⟨0, (rank_raw0 gLf gPl gKd 0 _ _).trans h⟩
    · exact ⟨0, (rank_rawN gLf gPl gKd 0 _ _).trans h⟩
    · cases h
theorem rank_law {x : PV} {l : List (Ky × PV)} (h : RootIs x l) (hl : l.length ≤ 50000) (s : Ky) (K : List (List PV) → PV → Option R) : (hRank gRk).F [[x]] [.ptr 0 0, .str s] K = K [[x]] (.int .i64 (rankK s l : Int)) := by
  rcases h with ⟨rfl, rfl⟩ | ⟨d, t, rfl, h1, h2, rfl, hv⟩
  · rfl
  · obtain ⟨cs, e⟩ := enc_ptr d t
    have hg := gdP_root h1 h2 hl
    have hdep := gdP_dep hg
    have hrk : gRk cs s = some (rankK s (cD d t) : Int) := by
      unfold gRk
      rw [← e, hdep, dec_enc hv, Option.bind_some, hg, cond_true]
    rw [e]
    show ((gRk cs s).bind _) = _
    rw [hrk]
    rfl
/-! ## At -/
theorem at_inner (fu : Nat) (kk : List (List PV) → PV → Option R) (root : List PV) {d : Nat} {t : TrD PV (d + 1)} {cs : List PV} (hc : enc (d + 1) t = .eptr cs) (hl : (asL t).length ≤ 1000) (hcl : cnt (asL t) ≤ 50000) (K0 : St → Option R) :
    ∀ (m k n i : Nat), k + m = (asL t).length → m < n → i < cnt ((asL t).drop k) → i ≤ 100000 → ∃ (x : TrD PV d) (i' : Nat), x ∈ asL t ∧ i' < (cD d x).length ∧ (cD d x)[i']? = (((asL t).drop k).flatMap (cD d))[i]? ∧
      atLoop2 gLf fu kk (fun st => pnorm (hAt.loop.lookup 0) st K0) n (frAt2 (i : Int) (.eptr cs) (k : Int) (.eptr root)) = K0 (frAt0 (i' : Int) (enc d x) (.eptr root))
  | m, k, 0, i, hk, hn, hi, hi2 => by omega
  | 0, k, n + 1, i, hk, hn, hi, hi2 => by
    rw [List.drop_eq_nil_of_le (by omega)] at hi
    simp [cnt] at hi
  | m + 1, k, n + 1, i, hk, hn, hi, hi2 => by
    have hlt : k < (asL t).length := by omega
    have hkk : (asL t)[k]? = some (asL t)[k] := List.getElem?_eq_getElem hlt
    obtain ⟨es, ee, q⟩ := kidAt_enc (R := R) hkk
    have hdr := List.drop_eq_getElem_cons hlt
    by_cases hge : (cD d (asL t)[k]).length ≤ i
    · have hlen := len_mem_flat (List.getElem_mem hlt)
      have hcn : cnt (asL t) = ((asL t).flatMap (cD d)).length := rfl
      have hi3 : i - (cD d (asL t)[k]).length < cnt ((asL t).drop (k + 1)) := by
        have : cnt ((asL t).drop k) = (cD d (asL t)[k]).length + cnt ((asL t).drop (k + 1)) := by
          unfold cnt
          rw [hdr, List.flatMap_cons, List.length_append]
        omega
      obtain ⟨x, i', h1, h2, h3, h4⟩ := at_inner fu kk root hc hl hcl K0 m (k + 1) n (i - (cD d (asL t)[k]).length) (by omega) (by omega) hi3 (by omega)
      refine ⟨x, i', h1, h2, ?_, ?_⟩
      · rw [h3, hdr, List.flatMap_cons, List.getElem?_append_right hge]
      · rw [← h4]
        unfold atLoop2
        rw [loopK_succ, at_step2, slAt2 (ks := asL t) hc, q, numAt_enc ee, cond_t (decide_eq_true (by omega)), slAt2 (ks := asL t) hc, q, numAt_enc ee, wrapI_of (by omega) (by omega), wrapI_of (by omega) (by omega), show (i : Int) - ((cD d (asL t)[k]).length : Int) = ((i - (cD d (asL t)[k]).length : Nat) : Int) by omega]
        rfl
    · refine ⟨(asL t)[k], i, List.getElem_mem hlt, by omega, ?_, ?_⟩
      · rw [hdr, List.flatMap_cons, List.getElem?_append_left (by omega)]
      · unfold atLoop2
        rw [loopK_succ, at_step2, slAt2 (ks := asL t) hc, q, numAt_enc ee, cond_f (decide_eq_false (by omega)), slAt2 (ks := asL t) hc, q, ← ee]
theorem at_loop (fu : Nat) (hfu : 2000 ≤ fu) (kk : List (List PV) → PV → Option R) (root : List PV) : ∀ (d n : Nat) (t : TrD PV d) (cs : List PV) (i : Nat) (p : Ky × PV), enc d t = .eptr cs → d < n → okD 1 d t → (cD d t).length ≤ 50000 → (cD d t)[i]? = some p → (∀ q ∈ cD d t, vok q.2 = true) →
    atLoop0 gLf fu kk n (frAt0 (i : Int) (.eptr cs) (.eptr root)) = kk [[.eptr root]] (.tuple [.str p.1, p.2, .bool true])
  | d, 0, t, cs, i, p, hc, hn, hok, hl, hp, hv => by omega
  | 0, n + 1, t, cs, i, p, hc, hn, hok, hl, hp, hv => by
    have hp' : (as0 t)[i]? = some p := hp
    have hvp := hv p (List.mem_of_getElem? hp)
    unfold atLoop0
    rw [loopK_succ, at_step0, gLf_enc hc, Option.bind_some, cond_f (b := !decide (0 = 0)) (by simp), slAt0 (l := as0 t) hc, strsAt_eq hp', slAt1 (l := as0 t) hc, valsAt_eq hp' hvp, valP_eq hvp]
  | d + 1, n + 1, t, cs, i, p, hc, hn, hok, hl, hp, hv => by
    have h8 : (asL t).length ≤ 8 := hok.1.2
    have hi : i < cnt ((asL t).drop 0) := (List.getElem?_eq_some_iff.1 hp).1
    have hcl : cnt (asL t) ≤ 50000 := hl
    obtain ⟨x, i', h1, h2, h3, h4⟩ := at_inner fu kk root hc (by omega) hcl (loopK (enAt gLf) hAt fu (atKr gLf kk) Try.f52 (fun _ => none) [1, 1, 1, 0, 0] 0 n) (asL t).length 0 fu i (by omega) (by omega) hi (by have : cnt ((asL t).drop 0) = cnt (asL t) := rfl; omega)
    have hxl := len_mem_flat h1
    have hcn : cnt (asL t) = ((asL t).flatMap (cD d)).length := rfl
    obtain ⟨es, ee⟩ := enc_ptr d x
    have ih := at_loop fu hfu kk root d n x es i' p ee (by omega) ((hok.2 x h1).weaken (by omega)) (by omega) (h3.trans hp) (fun q hq => hv q (List.mem_flatMap.2 ⟨x, h1, hq⟩))
    unfold atLoop0 at ih ⊢
    rw [loopK_succ, at_step0, gLf_enc hc, Option.bind_some, cond_t (b := !decide (d + 1 = 0)) (by simp), ← ih, ← ee]
    exact h4
def gAt (cs : List PV) (i : Int) : Option (Ky × Int × Bool) := (dec (depF 30 (.eptr cs)) (.eptr cs)).bind fun t => bif gdP (depF 30 (.eptr cs)) t then
  (if i < 0 then some ([], valP (.int .i64 0), false) else match (cD (depF 30 (.eptr cs)) t)[i.toNat]? with
    | some p => some (p.1, valP p.2, true)
    | none => some ([], valP (.int .i64 0), false)) else none
def hAtF (g : List PV → Int → Option (Ky × Int × Bool)) : HFn := ⟨fun bs xs k => match bs, xs with
  | [[.eptr cs]], [.ptr 0 0, .int .i64 i] => (g cs i).bind fun r => k [[.eptr cs]] (.tuple [.str r.1, .int .i64 r.2.1, .bool r.2.2])
  | [[.nilptr]], [.ptr 0 0, .int .i64 i] => k [[.nilptr]] (.tuple [.str [], .int .i64 0, .bool false])
  | [], [.nilptr, .int .i64 i] => k [] (.tuple [.str [], .int .i64 0, .bool false])
  | _, _ => none⟩
theorem ok_at : HOK NGt Wt 52 (hAtF gAt) := by
  refine hokX (l := lLe gLf) (allOK_cons ok_leafT allOK_nil) (lh := [(39, hLen)]) (allH_cons ok_len allH_nil) (h := hAt) Try.func52 rfl (by decide) ?_ ?_
  · intro R bs xs k
    simp only [hAtF]
    split
    · rw [obind_assoc]; rfl
    all_goals rfl
  · intro bs xs r h
    simp only [hAtF] at h
    split at h
    · rename_i cs i
      obtain ⟨p, hp, h⟩ := bind_some_inv h
      unfold gAt at hp
      obtain ⟨t, ht, hp⟩ := bind_some_inv hp
      obtain ⟨hg, hp⟩ := bif_inv hp
      obtain ⟨e, hv⟩ := dec_inv ht
      obtain ⟨h1, h2, h3⟩ := gdP_inv hg
      have hd := dep_lt h1 (by omega) (by omega)
      refine ⟨2000, (at_raw1 gLf 2000 _ cs i).trans ?_⟩
      by_cases hi : i < 0
      · rw [if_pos hi] at hp
        injection hp with hp
        subst hp
        rw [cond_f (b := !decide (i < 0)) (by simp [hi])]
        exact h
      · rw [if_neg hi] at hp
        have hin : ((i.toNat : Nat) : Int) = i := by omega
        rw [cond_t (b := !decide (i < 0)) (by simp [hi]), numAt_enc e.symm, cond_t (b := !decide (i < 0)) (by simp [hi])]
        split at hp
        · rename_i q hq
          injection hp with hp
          subst hp
          have hlt := (List.getElem?_eq_some_iff.1 hq).1
          rw [cond_f (decide_eq_false (by omega)), ← hin, at_loop 2000 (Nat.le_refl _) _ cs _ 2000 t cs i.toNat q e.symm (by omega) h1 h3 hq hv, ← h, valP_eq (hv q (List.mem_of_getElem? hq))]
        · rename_i hq
          injection hp with hp
          subst hp
          have hge := List.getElem?_eq_none_iff.1 hq
          rw [cond_t (decide_eq_true (by omega))]
          exact h
    · rename_i i
      refine ⟨0, (at_raw0 gLf 0 _ i).trans ?_⟩
      by_cases hi : i < 0
      · rw [cond_f (b := !decide (i < 0)) (by simp [hi])]; exact h
      · rw [cond_t (b := !decide (i < 0)) (by simp [hi]), cond_t (b := !decide (i < 0)) (by simp [hi]), cond_t (decide_eq_true (by omega))]; exact h
    · rename_i i
      refine ⟨0, (at_rawN gLf 0 _ i).trans ?_⟩
      by_cases hi : i < 0
      · rw [cond_f (b := !decide (i < 0)) (by simp [hi])]; exact h
      · rw [cond_t (b := !decide (i < 0)) (by simp [hi]), cond_t (b := !decide (i < 0)) (by simp [hi]), cond_t (decide_eq_true (by omega))]; exact h
    · cases h
theorem at_law {x : PV} {l : List (Ky × PV)} (h : RootIs x l) (hl : l.length ≤ 50000) (i : Int) (K : List (List PV) → PV → Option R) : (hAtF gAt).F [[x]] [.ptr 0 0, .int .i64 i] K =
    K [[x]] (if i < 0 then .tuple [.str [], .int .i64 0, .bool false] else match l[i.toNat]? with
      | some p => .tuple [.str p.1, p.2, .bool true]
      | none => .tuple [.str [], .int .i64 0, .bool false]) := by
  rcases h with ⟨rfl, rfl⟩ | ⟨d, t, rfl, h1, h2, rfl, hv⟩
  · show K [[.nilptr]] _ = _
    split
    · rfl
    · rfl
  · obtain ⟨cs, e⟩ := enc_ptr d t
    have hg := gdP_root h1 h2 hl
    have hdep := gdP_dep hg
    have hat : gAt cs i = if i < 0 then some ([], valP (.int .i64 0), false) else match (cD d t)[i.toNat]? with
        | some p => some (p.1, valP p.2, true)
        | none => some ([], valP (.int .i64 0), false) := by
      unfold gAt
      rw [← e, hdep, dec_enc hv, Option.bind_some, hg, cond_true]
    rw [e]
    show ((gAt cs i).bind _) = _
    rw [hat]
    by_cases hi : i < 0
    · rw [if_pos hi, if_pos hi]; rfl
    · rw [if_neg hi, if_neg hi]
      rcases hq : (cD d t)[i.toNat]? with _ | p
      · rfl
      · simp only [Option.bind_some]
        rw [valP_eq (hv p (List.mem_of_getElem? hq))]
end
end Go.Proofs.Ytmacjkiamejcnaa
