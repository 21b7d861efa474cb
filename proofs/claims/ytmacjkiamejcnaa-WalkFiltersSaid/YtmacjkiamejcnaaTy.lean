/-
  The tree's methods: their contracts, over the list of keys and values that a tree holds.
-/
import Derived.Test.YtmacjkiamejcnaaTx
set_option linter.unusedVariables false
set_option linter.unusedSimpArgs false
set_option maxRecDepth 100000
namespace Go.Proofs.Ytmacjkiamejcnaa
open Go.RowKit
theorem splitL_len2 {α : Type} {l : List α} (h : (splitL l).length = 2) : ∀ x ∈ splitL l, 4 ≤ x.length := by
  intro x hx
  unfold splitL at hx h
  split at hx
  · rename_i h8; rw [if_pos h8] at h; simp at h
  · simp at hx
    rcases hx with rfl | rfl
    · simp; omega
    · simp; omega
theorem put_two {β : Type} {m d : Nat} {t : TrD β d} {k : Ky} {v : β} (h : okD m d t) (hm : 0 < m) (hs : Srt (cD d t)) (h2 : (putD d t k v).1.length = 2) : ∀ y ∈ (putD d t k v).1, okD 4 d y := by
  intro y hy
  have q := (put_spec (k := k) (v := v) h hm hs).2.2.2 y hy
  refine q.raise ?_
  cases d with
  | zero => exact splitL_len2 h2 y hy
  | succ d =>
    obtain ⟨x, hx, _, _⟩ := kid_split (x := k) h.2 (by have := h.1.1; omega) hs
    have e := putD_succ t (v := v) hx
    rw [e] at hy h2
    exact splitL_len2 h2 y hy
/-- a tree's root, and what the tree holds -/
def RootIs (x : PV) (l : List (Ky × PV)) : Prop := (x = .nilptr ∧ l = []) ∨ ∃ (d : Nat) (t : TrD PV d), x = enc d t ∧ okD (min 2 (d + 1)) d t ∧ Srt l ∧ cD d t = l ∧ (∀ p ∈ l, vok p.2 = true)
theorem RootIs.srt {x : PV} {l : List (Ky × PV)} (h : RootIs x l) : Srt l := by
  rcases h with ⟨_, rfl⟩ | ⟨d, t, _, _, h, _⟩
  · exact List.Pairwise.nil
  · exact h
theorem RootIs.vok {x : PV} {l : List (Ky × PV)} (h : RootIs x l) : ∀ p ∈ l, vok p.2 = true := by
  rcases h with ⟨_, rfl⟩ | ⟨d, t, _, _, _, _, h⟩
  · intro p hp; cases hp
  · exact h
theorem dep_lt {m d : Nat} {t : TrD PV d} (h : okD m d t) (hm : 0 < m) (hl : (cD d t).length ≤ 100000) : d < 30 := by
  have h1 := h.least
  by_cases hd : d < 30
  · exact hd
  · have : 4 ^ 30 ≤ 4 ^ d := Nat.pow_le_pow_right (by omega) (by omega)
    have h3 : 4 ^ d ≤ m * 4 ^ d := Nat.le_mul_of_pos_left _ hm
    omega
theorem okD_root {d : Nat} {t : TrD PV d} (h : okD (min 2 (d + 1)) d t) : okD 1 d t := h.weaken (by omega)
/-! ## families over the depth -/
theorem fok_fam {NG : Nat} {W : World → Prop} {f : FuncId} {q : Nat → PFn} {p : PFn} (hq : ∀ d, FOK NG W f (q d)) (hn : p.nat) (ho : p.own = false) (h : ∀ xs r, p.F xs (R := PV) some = some r → ∃ d, (q d).F xs (R := PV) some = some r) : FOK NG W f p where
  nat := hn
  call := by
    intro M xs vs r hW hng hg hr hF
    obtain ⟨d, hd⟩ := h xs r hF
    have := ((fok_weaken (hq d) (p' := ⟨(q d).F, false⟩) (hq d).nat rfl fun xs r h => ⟨r, h, Wk.refl r⟩).call M xs vs r hW hng hg hr hd)
    rcases this with ⟨v, w', k1, U', k2, k3, k4⟩ | ⟨k1, k2⟩
    · exact .inl ⟨v, w', k1, U', k2, k3, fun e => by rw [ho] at e; cases e⟩
    · refine .inr ⟨k1, k2.mono ?_⟩
      rintro e w' ⟨v, rfl, U', q2, q3, q4⟩
      exact ⟨v, rfl, U', q2, q3, fun e => by rw [ho] at e; cases e⟩
def gPuA (cs : List PV) (s : Ky) (v : PV) : Option (Nat × List PV × Bool) := gPu (depF 30 (.eptr cs)) cs s v
def gRmA (cs : List PV) (s : Ky) : Option (Bool × List PV) := gRm (depF 30 (.eptr cs)) cs s
theorem ok_putA : FOK NGt Wt 68 (tPut gPuA) := fok_fam ok_put (tPut_nat _) rfl (by
  intro xs r h
  simp only [tPut] at h
  split at h
  · rename_i cs s v; exact ⟨depF 30 (.eptr cs), h⟩
  · cases h)
theorem ok_remA : FOK NGt Wt 70 (tRem gRmA) := fok_fam ok_rem (tRem_nat _) rfl (by
  intro xs r h
  simp only [tRem] at h
  split at h
  · rename_i cs s; exact ⟨depF 30 (.eptr cs), h⟩
  · cases h)
def gLf (cs : List PV) : Option Bool := match cs with | [.sl kn 1 kl kc, .sl vn 1 vl vc, .sl (some ni) 1 il ic, .int .i64 c] => some ni | _ => none
theorem tLeaf_nat (g : List PV → Option Bool) : (tLeaf g).nat := by
  intro R xs k
  simp only [tLeaf]
  split
  · rw [obind_assoc]; rfl
  · rfl
theorem ok_leafT : FOK NGt Wt 71 (tLeaf gLf) := by
  refine fok_weaken ok_leaf (tLeaf_nat _) rfl ?_
  intro xs r' h
  simp only [tLeaf] at h
  split at h
  · obtain ⟨n, hn, h⟩ := bind_some_inv h
    injection h with h
    subst h
    unfold gLf at hn
    split at hn
    · injection hn with hn
      subst hn
      exact ⟨_, rfl, Wk.refl _⟩
    · cases hn
  · cases h
theorem gLf_enc {d : Nat} {t : TrD PV d} {cs : List PV} (h : enc d t = .eptr cs) : gLf cs = some (decide (d = 0)) := by
  cases d with
  | zero =>
    have e : enc 0 t = .eptr [.sl none 1 _ _, .sl none 1 _ _, .sl (some true) 1 0 [], .int .i64 _] := rfl
    rw [e] at h
    injection h with h
    subst h
    rfl
  | succ d =>
    have e : enc (d + 1) t = .eptr [.sl none 1 _ _, .sl (some true) 1 0 [], .sl (some false) 1 _ _, .int .i64 _] := rfl
    rw [e] at h
    injection h with h
    subst h
    rfl
theorem kidsOf_enc {S : Type} {d : Nat} {ks : List (TrD PV d)} {cs : List PV} (h : enc (d + 1) (ofL ks) = .eptr cs) (k : Nat → List PV → Option S) : kidsOf cs k = k ks.length (ks.map (enc d)) := by
  rw [enc_succ] at h
  injection h with h
  subst h
  rfl
theorem kidsOf_enc0 {S : Type} {l : List (Ky × PV)} {cs : List PV} (h : enc 0 (ofL0 l) = .eptr cs) (k : Nat → List PV → Option S) : kidsOf cs k = k 0 [] := by
  rw [enc_zero] at h
  injection h with h
  subst h
  rfl
/-! ## New, Len, Copy, From, Back -/
section
variable {R S : Type}
def hNew : HFn := ⟨fun bs xs k => match bs, xs with | [], [] => k [[.nilptr]] (.ptr 0 0) | _, _ => none⟩
theorem okE : AllOK NGt Wt [] := allOK_nil
theorem hokX {l : List (FuncId × PFn)} (hl : AllOK NGt Wt l) {lh : List (FuncId × HFn)} (hh : AllH NGt Wt lh) {f : FuncId} {fn : Func} (hf : Try.prog.funcs[f]? = some fn) (hb : fn.body.isSome = true) (hname : fn.name ≠ "runtime.NumGoroutine") {p : HFn} (hn : p.nat) {h : Hints}
    (hrun : ∀ bs xs r, p.F bs xs (R := List (List PV) × PV) (fun b v => some (b, v)) = some r → ∃ fuel, prunH (enTx l lh) h fuel fn bs xs (fun b v => some (b, v)) = some r) : HOK NGt Wt f p :=
  HnOK.of_run (en := enTx l lh) (en' := en []) (env_okR (env_okA wokt hl hh allI_nil allN_nil allC_nil) _) rfl rfl rfl hf hb hname hn hrun
theorem ok_new : HOK NGt Wt 36 hNew := by
  refine hokX okE allH_nil (h := h0) Try.func36 rfl (by decide) ?_ ?_
  · intro R bs xs k
    simp only [hNew]
    split <;> rfl
  · intro bs xs r h
    simp only [hNew] at h
    split at h
    · exact ⟨0, (new_raw _).trans h⟩
    · cases h
def hLen : HFn := ⟨fun bs xs k => match bs, xs with
  | [[.eptr cs]], [.ptr 0 0] => (cs.drop 3).head?.bind fun x => (x.asInt .i64).bind fun n => k [[.eptr cs]] (.int .i64 n)
  | [[.nilptr]], [.ptr 0 0] => k [[.nilptr]] (.int .i64 0)
  | [], [.nilptr] => k [] (.int .i64 0)
  | _, _ => none⟩
theorem ok_len : HOK NGt Wt 39 hLen := by
  refine hokX okE allH_nil (h := h0) Try.func39 rfl (by decide) ?_ ?_
  · intro R bs xs k
    simp only [hLen]
    split
    · rw [obind_assoc]; congr 1; funext x; rw [obind_assoc]; rfl
    all_goals rfl
  · intro bs xs r h
    simp only [hLen] at h
    split at h
    · exact ⟨0, (len_raw1 _ _).trans h⟩
    · exact ⟨0, (len_raw0 _).trans h⟩
    · exact ⟨0, (len_rawN _).trans h⟩
    · cases h
def hCopy : HFn := ⟨fun bs xs k => match bs, xs with
  | [[.eptr cs]], [.ptr 0 0] => k [[.eptr cs], [.eptr cs]] (.ptr 1 0)
  | [[.nilptr]], [.ptr 0 0] => k [[.nilptr], [.nilptr]] (.ptr 1 0)
  | [], [.nilptr] => k [] .nilptr
  | _, _ => none⟩
theorem ok_copy : HOK NGt Wt 44 hCopy := by
  refine hokX okE allH_nil (h := h0) Try.func44 rfl (by decide) ?_ ?_
  · intro R bs xs k
    simp only [hCopy]
    split <;> rfl
  · intro bs xs r h
    simp only [hCopy] at h
    split at h
    · exact ⟨0, (copy_raw1 _ _).trans h⟩
    · exact ⟨0, (copy_raw0 _).trans h⟩
    · exact ⟨0, (copy_rawN _).trans h⟩
    · cases h
def hFrom (f : FuncId) : HFn := ⟨fun bs xs k => match bs, xs with
  | [[.eptr cs]], [.ptr 0 0, .str s] => k [[.eptr cs], [.ptr 0 0], [.str s]] (.clo f [.ptr 1 0, .ptr 2 0])
  | [[.nilptr]], [.ptr 0 0, .str s] => k [[.nilptr], [.ptr 0 0], [.str s]] (.clo f [.ptr 1 0, .ptr 2 0])
  | [], [.nilptr, .str s] => k [[.nilptr], [.str s]] (.clo f [.ptr 0 0, .ptr 1 0])
  | _, _ => none⟩
theorem hFrom_nat (f : FuncId) : (hFrom f).nat := by
  intro R bs xs k
  simp only [hFrom]
  split <;> rfl
theorem ok_from : HOK NGt Wt 23 (hFrom 60) := by
  refine hokX okE allH_nil (h := h0) Try.func23 rfl (by decide) (hFrom_nat _) ?_
  intro bs xs r h
  simp only [hFrom] at h
  split at h
  · exact ⟨0, (from_raw1 _ _ _).trans h⟩
  · exact ⟨0, (from_raw0 _ _).trans h⟩
  · exact ⟨0, (from_rawN _ _).trans h⟩
  · cases h
theorem ok_back : HOK NGt Wt 49 (hFrom 75) := by
  refine hokX okE allH_nil (h := h0) Try.func49 rfl (by decide) (hFrom_nat _) ?_
  intro bs xs r h
  simp only [hFrom] at h
  split at h
  · exact ⟨0, (back_raw1 _ _ _).trans h⟩
  · exact ⟨0, (back_raw0 _ _).trans h⟩
  · exact ⟨0, (back_rawN _ _).trans h⟩
  · cases h
theorem len_law {x : PV} {l : List (Ky × PV)} (h : RootIs x l) (K : List (List PV) → PV → Option R) : hLen.F [[x]] [.ptr 0 0] K = K [[x]] (.int .i64 (l.length : Int)) := by
  rcases h with ⟨rfl, rfl⟩ | ⟨d, t, rfl, h1, h2, rfl, _⟩
  · rfl
  · cases d with
    | zero => rfl
    | succ d => rfl
theorem copy_law {x : PV} {l : List (Ky × PV)} (h : RootIs x l) (K : List (List PV) → PV → Option R) : hCopy.F [[x]] [.ptr 0 0] K = K [[x], [x]] (.ptr 1 0) := by
  rcases h with ⟨rfl, rfl⟩ | ⟨d, t, rfl, h1, h2, rfl, _⟩
  · rfl
  · obtain ⟨cs, e⟩ := enc_ptr d t
    rw [e]; rfl
theorem from_law {x : PV} {l : List (Ky × PV)} (h : RootIs x l) (f : FuncId) (s : Ky) (K : List (List PV) → PV → Option R) : (hFrom f).F [[x]] [.ptr 0 0, .str s] K = K [[x], [.ptr 0 0], [.str s]] (.clo f [.ptr 1 0, .ptr 2 0]) := by
  rcases h with ⟨rfl, rfl⟩ | ⟨d, t, rfl, h1, h2, rfl, _⟩
  · rfl
  · obtain ⟨cs, e⟩ := enc_ptr d t
    rw [e]; rfl
/-! ## Put -/
def hTPut (gu : List PV → Ky → PV → Option (Nat × List PV × Bool)) : HFn := ⟨fun bs xs k => match bs, xs with
  | [[.eptr cs]], [.ptr 0 0, .str s, .int .i64 v] => (gu cs s (.int .i64 v)).bind fun r => kidAt r.1 r.2.1 0 fun es => bif decide (1 < (r.1 : Int)) then p_ab.F [.sl (some false) 1 r.1 r.2.1] fun y => k [[y]] (.bool r.2.2) else k [[.eptr es]] (.bool r.2.2)
  | [[.nilptr]], [.ptr 0 0, .str s, .int .i64 v] => p_lf.F [.sl (some false) 1 1 [.str s], .sl (some false) 1 1 [.int .i64 v]] fun y => k [[y]] (.bool true)
  | [], [.nilptr, .str s, .int .i64 v] => k [] (.bool false)
  | _, _ => none⟩
theorem kidAt_nat {n : Nat} {c : List PV} {i : Int} (f : List PV → Option R) (k : R → Option S) : kidAt n c i (fun es => (f es).bind k) = (kidAt n c i f).bind k := by
  unfold kidAt
  rw [bif_bind, obind_assoc]
  simp only [obind_assoc]
theorem ok_tput : HOK NGt Wt 37 (hTPut gPuA) := by
  refine hokX (l := lTp gPuA) (allOK_cons ok_putA (allOK_cons ok_ab (allOK_cons ok_lf allOK_nil))) allH_nil (h := h0) Try.func37 rfl (by decide) ?_ ?_
  · intro R bs xs k
    simp only [hTPut]
    split
    · rw [obind_assoc]
      congr 1
      funext r
      rw [← kidAt_nat]
      congr 1
      funext es
      cases decide (1 < (r.1 : Int)) with
      | true =>
        simp only [cond_true]
        refine (ab_nat _ _).trans (Eq.trans ?_ (congrArg (fun o => Option.bind o _) (ab_nat _ _)).symm)
        rw [obind_assoc]
        rfl
      | false => rfl
    all_goals rfl
  · intro bs xs r h
    simp only [hTPut] at h
    split at h
    · exact ⟨0, (tput_raw1 _ _ _ _ _).trans h⟩
    · exact ⟨0, (tput_raw0 _ _ _ _).trans h⟩
    · exact ⟨0, (tput_rawN _ _ _ _).trans h⟩
    · cases h
theorem put_law {x : PV} {l : List (Ky × PV)} (h : RootIs x l) (hl : l.length ≤ 40000) (s : Ky) (v : Int) :
    ∃ x', RootIs x' (insK s (.int .i64 v) l) ∧ ∀ {R : Type} (K : List (List PV) → PV → Option R), (hTPut gPuA).F [[x]] [.ptr 0 0, .str s, .int .i64 v] K = K [[x']] (.bool (!hasK s l)) := by
  rcases h with ⟨rfl, rfl⟩ | ⟨d, t, rfl, h1, h2, rfl, hv⟩
  · refine ⟨enc 0 (ofL0 [(s, .int .i64 v)]), .inr ⟨0, ofL0 [(s, .int .i64 v)], rfl, ?_, ?_, rfl, ?_⟩, fun K => rfl⟩
    · exact ⟨Nat.le_refl _, by show 1 ≤ 8; omega⟩
    · exact List.pairwise_singleton _ _
    · intro p hp; simp [insK] at hp; subst hp; rfl
  · obtain ⟨cs, e⟩ := enc_ptr d t
    have hd := dep_lt (okD_root h1) (by omega) (by omega)
    have hdep := depF_enc (okD_root h1) (by omega) hd
    have hgd : gdP d t = true := by
      unfold gdP
      rw [(okB_iff 1 d t).2 (okD_root h1), (srtB_iff _).2 h2, decide_eq_true (by omega)]
      rfl
    have hgu : gPuA cs s (.int .i64 v) = some ((encs d (putD d t s (.int .i64 v)).1).1, (encs d (putD d t s (.int .i64 v)).1).2, (putD d t s (.int .i64 v)).2) := by
      unfold gPuA
      rw [← e, hdep]
      unfold gPu
      rw [← e, dec_enc hv, Option.bind_some, hgd, cond_true]
    obtain ⟨r1, r2, r3, r4⟩ := put_spec (k := s) (v := .int .i64 v) h1 (by omega) h2
    have hins : Srt (insK s (.int .i64 v) (cD d t)) := h2.ins
    have hvi : ∀ p ∈ insK s (.int .i64 v) (cD d t), vok p.2 = true := vok_ins rfl hv
    have hli : (insK s (.int .i64 v) (cD d t)).length ≤ 40001 := by rw [ins_len h2]; split <;> omega
    rcases r3 with r3 | r3
    · obtain ⟨y, hy⟩ : ∃ y, (putD d t s (.int .i64 v)).1 = [y] := List.length_eq_one_iff.1 r3
      refine ⟨enc d y, .inr ⟨d, y, rfl, ?_, hins, ?_, hvi⟩, fun {R} K => ?_⟩
      · exact (r4 y (by rw [hy]; exact List.mem_cons_self)).weaken (by omega)
      · rw [← r1, hy, List.flatMap_singleton]
      · rw [e]
        show ((gPuA cs s (.int .i64 v)).bind _) = _
        obtain ⟨es, ee, q⟩ := kidAt_enc (R := R) (ks := [y]) (i := 0) (k := y) rfl
        rw [hgu, hy, Option.bind_some, show (kidAt (encs d [y]).1 (encs d [y]).2 0 : (List PV → Option R) → Option R) = kidAt [y].length ([y].map (enc d)) ((0 : Nat) : Int) from rfl, q, cond_f (show decide (1 < (((encs d [y]).1 : Nat) : Int)) = false from rfl), ← ee, r2]
    · have h4 := put_two h1 (by omega) h2 r3
      obtain ⟨y, z, hyz⟩ : ∃ y z, (putD d t s (.int .i64 v)).1 = [y, z] := by
        match hh : (putD d t s (.int .i64 v)).1, r3 with
        | [y, z], _ => exact ⟨y, z, rfl⟩
      rw [hyz] at h4 r1
      refine ⟨enc (d + 1) (ofL [y, z]), .inr ⟨d + 1, ofL [y, z], rfl, ?_, hins, r1, hvi⟩, fun {R} K => ?_⟩
      · refine ⟨⟨?_, ?_⟩, h4⟩
        · show min 2 (d + 1 + 1) ≤ 2; omega
        · show 2 ≤ 8; omega
      · rw [e]
        show ((gPuA cs s (.int .i64 v)).bind _) = _
        obtain ⟨es, ee, q⟩ := kidAt_enc (R := R) (ks := [y, z]) (i := 0) (k := y) rfl
        rw [hgu, hyz, Option.bind_some, show (kidAt (encs d [y, z]).1 (encs d [y, z]).2 0 : (List PV → Option R) → Option R) = kidAt [y, z].length ([y, z].map (enc d)) ((0 : Nat) : Int) from rfl, q, cond_t (show decide (1 < (((encs d [y, z]).1 : Nat) : Int)) = true from rfl)]
        have := ab_enc (R := R) h4 (by show 2 ≤ 1000; omega) (by rw [r1]; omega) fun w => K [[w]] (.bool (putD d t s (.int .i64 v)).2)
        rw [r2] at this ⊢
        exact this
end
end Go.Proofs.Ytmacjkiamejcnaa
