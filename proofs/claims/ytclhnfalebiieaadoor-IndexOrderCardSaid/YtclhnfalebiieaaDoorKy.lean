/-
  Keys by the evaluator: old contracts: first, long, One, Next.
-/
import Derived.Test.YtclhnfalebiieaaDoorKab
import Derived.Test.YtclhnfalebiieaaDoorKeysG
import Derived.Test.YtclhnfalebiieaaDoorRefA
set_option linter.unusedVariables false
set_option linter.unusedSimpArgs false
namespace Go.Proofs.YtclhnfalebiieaaDoor
open Go.RowKit

def p_first : PFn := ⟨fun xs k => match xs with | [] => k (.bool true) | _ => none, false⟩
theorem ok_first : FOK NGk Tabs 10 p_first := by
  refine fok_calls Tryd.func10 (by kernel_rfl) (by decide) ?_ rfl ?_
  · intro R xs k
    simp only [p_first]
    split <;> rfl
  · intro xs r M vs hW h hr
    simp only [p_first] at h
    split at h
    · simp only [Option.some.injEq] at h
      subst h
      simp only [RelT] at hr
      subst hr
      refine (first_any M.w hW).mono ?_
      rintro e w' ⟨rfl, hbl⟩
      exact ⟨_, rfl, hbl, fun U' _ => rfl⟩
    · cases h
theorem bindV_nat {R : Type} {a : Option (List Val)} {g : List Val → Bool} {v : List Val → PV} {k : PV → Option R} :
    (a.bind fun A => bif g A then k (v A) else none) = (a.bind fun A => bif g A then some (v A) else none).bind k := by
  cases a with
  | none => rfl
  | some a => exact cond_nat
theorem bindV_inv {a : Option (List Val)} {g : List Val → Bool} {v : List Val → PV} {r : PV} (h : (a.bind fun A => bif g A then some (v A) else none) = some r) : ∃ A, a = some A ∧ g A = true ∧ r = v A := by
  obtain ⟨A, h1, h⟩ := Option.bind_eq_some_iff.1 h
  cases hg : g A <;> rw [hg] at h
  · cases h
  · injection h with h
    exact ⟨A, h1, hg, h.symm⟩
def p_long : PFn := ⟨fun xs k => match xs with | [.sl _ 4 n c] => (decV n c).bind fun vs => bif true then k (.bool (longB vs)) else none | _ => none, false⟩
theorem ok_long : FOK NGk Tabs 11 p_long := by
  refine fok_calls Tryd.func11 (by kernel_rfl) (by decide) ?_ rfl ?_
  · intro R xs k
    simp only [p_long]
    split
    · exact bindV_nat (g := fun _ => true)
    · rfl
  · intro xs r M vs hW h hr
    simp only [p_long] at h
    split at h
    · rename_i nl n c
      obtain ⟨ws, h1, _, rfl⟩ := bindV_inv (g := fun _ => true) h
      obtain ⟨rfl, rfl⟩ := decV_inv h1
      obtain ⟨v, rfl, h2⟩ := relT1 hr
      obtain ⟨A, c, rfl, hs⟩ := sl_vals h2
      refine (long_any M.w A ws.length c ws hs).mono ?_
      rintro e w' ⟨rfl, hbl⟩
      exact ⟨_, rfl, hbl, fun U' _ => rfl⟩
    · cases h
theorem rel_val {M : Mem} {a n c : Int} {s : List UInt8} {v : Value} (h : RelD M (.agg [.int .i64 a, .int .i64 n, .int .i64 c, .str s]) v) : v = .agg #[.int .i64 a, .int .i64 n, .int .i64 c, .string ⟨s.toArray⟩] := by
  simp only [RelD, RelL] at h
  obtain ⟨_, rfl, _, _, rfl, _, rfl, _, _, rfl, _, rfl, _, _, rfl, _, rfl, _, _, rfl, _, rfl, rfl⟩ := h
  rfl
theorem val_rel (M : Mem) (a n c : Int) (s : List UInt8) : RelD M (.agg [.int .i64 a, .int .i64 n, .int .i64 c, .str s]) (.agg #[.int .i64 a, .int .i64 n, .int .i64 c, .string ⟨s.toArray⟩]) := by
  simp only [RelD, RelL]
  exact ⟨_, rfl, _, _, rfl, rfl, rfl, _, _, rfl, rfl, rfl, _, _, rfl, rfl, rfl, _, _, rfl, rfl, rfl, rfl⟩
def p_by8 : PFn := ⟨fun xs k => match xs with | [.int .i64 a] => k (.str (be8 a)) | _ => none, false⟩
theorem ok_by8 : FOK NGk Tabs 49 p_by8 := by
  refine fok_calls Tryd.func49 (by kernel_rfl) (by decide) ?_ rfl ?_
  · intro R xs k
    simp only [p_by8]
    split <;> rfl
  · intro xs r M vs hW h hr
    simp only [p_by8] at h
    split at h
    · rename_i a
      simp only [Option.some.injEq] at h
      subst h
      obtain ⟨v, rfl, h2⟩ := relT1 hr
      simp only [RelD] at h2
      subst h2
      refine (bytes8_any a M.w).mono ?_
      rintro e w' ⟨rfl, hbl⟩
      exact ⟨_, rfl, hbl, fun U' _ => rfl⟩
    · cases h
theorem right_B (v : Val) : rightB v.kind v.n v.scale v.s = right v := by
  unfold rightB right scB
  rw [Bool.eq_iff_iff]
  by_cases h0 : v.kind = 0
  · simp [h0, and_assoc]
  · rw [show (v.kind == 0) = false by simpa using h0, cond_false, if_neg h0]
    by_cases h1 : v.kind = 1
    · simp [h1, and_assoc]
    · rw [show (v.kind == 1) = false by simpa using h1, cond_false, if_neg h1]
      by_cases h2 : v.kind = 2
      · simp [h2, and_assoc]
      · rw [show (v.kind == 2) = false by simpa using h2, cond_false, if_neg h2]
        by_cases h3 : v.kind = 3
        · simp [h3, and_assoc]
        · rw [show (v.kind == 3) = false by simpa using h3, cond_false, if_neg h3]
          by_cases h4 : v.kind = 4
          · simp [h4, and_assoc]
          · rw [show (v.kind == 4) = false by simpa using h4, cond_false, if_neg h4]
            by_cases h5 : v.kind = 5
            · simp [h5, and_assoc]
            · simp [h5]
theorem plainA_cs (v : Val) : [PV.int .i64 (bif rightB v.kind v.n v.scale v.s then v.kind else 0), .int .i64 (bif rightB v.kind v.n v.scale v.s then v.n else 0), .int .i64 (bif rightB v.kind v.n v.scale v.s then v.scale else 0), .str (bif rightB v.kind v.n v.scale v.s then v.s else [])] = V4.cs (plain v) := by
  unfold plain
  rw [right_B]
  cases right v <;> rfl
def catO {R : Type} (x y : List UInt8) (k : Option R) : Option R := bif decide (x.length + y.length ≤ 9223372036854775807) then k else none
theorem catO_eq {R : Type} {x y : List UInt8} {k : Option R} (h : x.length + y.length ≤ 9223372036854775807) : catO x y k = k := cond_t (decide_eq_true h)
def u8w (x : Int) : UInt8 := UInt8.ofNat (IntKind.u8.wrap x).toNat
def hOn : Hints := ⟨[], [(1, ⟨[(3, false), (4, false), (5, false)], [3]⟩)]⟩
def frOn (a n c : Int) (s t : List UInt8) (i : Int) : St := frame 72 [(3, (.ptr 3 0, 0)), (4, (.str t, 0)), (5, (.int .i64 i, 0))] [(3, [(.int .i64 a, 0), (.int .i64 n, 0), (.int .i64 c, 0), (.str s, 0)])]
noncomputable def lOn : List (FuncId × PFn) := [(13, p_plain), (49, p_by8)]
noncomputable def onLoop (fu n : Nat) (st : St) : Option PV := loopF (en lOn) hOn fu false Tryd.f32 [1, 1, 1, 0, 1, 0, 1, 1, 1, 1, 1, 1, 1, 0, 0, 1, 0] 1 n st
def onBody (a n c : Int) (L : Option PV) : Option PV :=
  bif a == 1 then catO [u8w a] [u8w n] (some (.str [u8w a, u8w n])) else
  bif a == 2 then catO [u8w a] (be8 n) (some (.str (u8w a :: be8 n))) else
  bif a == 3 then catO [u8w a] [u8w c] (catO [u8w a, u8w c] (be8 n) (some (.str (u8w a :: u8w c :: be8 n)))) else
  bif a == 4 then bif a == 4 then L else some (.str [u8w a]) else bif a == 5 then L else some (.str [u8w a])
theorem on_raw (fu : Nat) (a n c : Int) (s : List UInt8) : prun (en lOn) hOn fu false Tryd.f32 [.agg [.int .i64 a, .int .i64 n, .int .i64 c, .str s]] =
    bif decide (s.length ≤ 1000000) then onBody (bif rightB a n c s then a else 0) (bif rightB a n c s then n else 0) (bif rightB a n c s then c else 0)
      (onLoop fu fu (frOn (bif rightB a n c s then a else 0) (bif rightB a n c s then n else 0) (bif rightB a n c s then c else 0) (bif rightB a n c s then s else []) [u8w (bif rightB a n c s then a else 0)] 0)) else none := by kernel_rfl
def cut1O {R : Type} (s : List UInt8) (i : Int) (K : List UInt8 → Option R) : Option R :=
  bif decide (0 ≤ IntKind.i64.wrap (i + 1)) && decide (IntKind.i64.wrap (i + 1) ≤ (s.length : Int)) then bif decide (0 ≤ i) && decide (i ≤ ((IntKind.i64.wrap (i + 1)).toNat : Int)) then K ((s.take (IntKind.i64.wrap (i + 1)).toNat).drop i.toNat) else none else none
theorem cut1O_eq {R : Type} {s : List UInt8} {i : Nat} {K : List UInt8 → Option R} (h : i < s.length) (hs : s.length ≤ 2000000) : cut1O s (i : Int) K = K [s[i]] := by
  unfold cut1O
  rw [wrapI_of (by omega) (by omega), cond_t (by rw [decide_eq_true (by omega), decide_eq_true (by omega)]; rfl), cond_t (by rw [decide_eq_true (by omega), decide_eq_true (by omega)]; rfl), show ((i : Int) + 1).toNat = i + 1 by omega, Int.toNat_natCast]
  congr 1
  rw [List.take_add_one, List.getElem?_eq_getElem h, Option.toList_some, List.drop_left' (by rw [List.length_take]; omega)]
theorem on_step (fu : Nat) (a n c : Int) (s t : List UInt8) (i : Int) (K : St → Option PV) :
    stepF (en lOn) hOn fu false Tryd.f32 [1, 1, 1, 0, 1, 0, 1, 1, 1, 1, 1, 1, 1, 0, 0, 1, 0] (frOn a n c s t i) (fun st => pnorm (hOn.loop.lookup 1) st K) =
    bif decide (i < (s.length : Int)) then cut1O s i fun y => catO t y (ixS s i fun d => bif (d.toNat : Int) == 0 then catO (t ++ y) [255] (K (frOn a n c s (t ++ y ++ [255]) (IntKind.i64.wrap (i + 1)))) else K (frOn a n c s (t ++ y) (IntKind.i64.wrap (i + 1))))
    else catO t [0, 1] (some (.str (t ++ [0, 1]))) := by kernel_rfl
theorem u8_zero (d : UInt8) : ((d.toNat : Int) == 0) = decide (d = 0) := by
  rw [Bool.eq_iff_iff]
  simp only [beq_iff_eq, decide_eq_true_eq]
  constructor
  · intro e; apply UInt8.toNat_inj.1; simp only [UInt8.reduceToNat]; omega
  · intro e; subst e; rfl
theorem on_loop (fu : Nat) (a n c : Int) (s : List UInt8) (hs : s.length ≤ 1000000) (t0 : List UInt8) (ht : t0.length ≤ 10) : ∀ (k i m : Nat), i + k = s.length → k < m →
    onLoop fu m (frOn a n c s (t0 ++ escTo (s.take i)) (i : Int)) = some (.str (t0 ++ escTo s ++ [0, 1]))
  | k, i, 0, _, h => by omega
  | 0, i, m + 1, hi, hn => by
    unfold onLoop
    have h2 := escTo_length (s.take i)
    rw [List.length_take] at h2
    rw [loopF_succ, on_step, cond_f (decide_eq_false (by omega)), catO_eq (by simp only [List.length_append, List.length_cons, List.length_nil]; omega), List.take_of_length_le (by omega)]
  | k + 1, i, m + 1, hi, hn => by
    unfold onLoop
    have hil : i < s.length := by omega
    have hc := List.getElem?_eq_getElem hil
    have h2 := escTo_length (s.take i)
    rw [List.length_take] at h2
    have ih := on_loop fu a n c s hs t0 ht k (i + 1) m (by omega) (by omega)
    unfold onLoop at ih
    rw [List.take_add_one, hc, Option.toList_some, escTo_append] at ih
    rw [loopF_succ, on_step, cond_t (decide_eq_true (by omega)), cut1O_eq hil (by omega), catO_eq (by simp only [List.length_append, List.length_cons, List.length_nil]; omega), ixS_eq hc, u8_zero, wrapI_of (by omega) (by omega)]
    by_cases h0 : s[i] = 0
    · rw [decide_eq_true h0, cond_true, catO_eq (by simp only [List.length_append, List.length_cons, List.length_nil]; omega)]
      rw [h0] at ih ⊢
      rw [← ih]
      simp [escTo]
    · rw [decide_eq_false h0, cond_false, ← ih]
      simp [escTo, h0]
theorem on_body (fu : Nat) (v : Val) (hr : right v = true) (hs : v.s.length ≤ 1000000) (hf : v.s.length < fu) : onBody v.kind v.n v.scale (onLoop fu fu (frOn v.kind v.n v.scale v.s [u8w v.kind] 0)) = some (.str (enc0 v)) := by
  have hL := on_loop fu v.kind v.n v.scale v.s hs [u8w v.kind] (by simp) v.s.length 0 fu (by omega) hf
  rw [show (([u8w v.kind] : List UInt8) ++ escTo (v.s.take 0)) = [u8w v.kind] by simp [escTo], show (((0 : Nat) : Int)) = 0 from rfl] at hL
  rw [hL]
  have hb8 := be8_length v.n
  unfold right at hr
  unfold onBody enc0
  split at hr
  · rename_i hk
    rw [hk]; rfl
  split at hr
  · rename_i hk
    simp only [decide_eq_true_eq] at hr
    rw [hk]
    obtain ⟨h, _, _⟩ := hr
    rcases h with h | h <;> rw [h] <;> rfl
  split at hr
  · rename_i hk
    rw [hk]
    refine (catO_eq (show ([u8w 2] : List UInt8).length + (be8 v.n).length ≤ _ by rw [hb8]; decide)).trans ?_
    rfl
  split at hr
  · rename_i hk
    simp only [decide_eq_true_eq] at hr
    rw [hk]
    refine (catO_eq (show ([u8w 3] : List UInt8).length + ([u8w v.scale] : List UInt8).length ≤ _ by simp)).trans ((catO_eq (show ([u8w 3, u8w v.scale] : List UInt8).length + (be8 v.n).length ≤ _ by rw [hb8]; simp)).trans ?_)
    have e : u8w v.scale = UInt8.ofNat v.scale.toNat := by unfold u8w; rw [IntKind.wrap_u8]; congr 2; omega
    rw [e]; rfl
  split at hr
  · rename_i hk
    rw [hk]; rfl
  split at hr
  · rename_i hk
    rw [hk]; rfl
  · cases hr
def p_One : PFn := ⟨fun xs k => match xs with | [.agg [.int .i64 a, .int .i64 n, .int .i64 c, .str s]] => bif decide (s.length ≤ 1000000) then k (.str (enc ⟨a, n, c, s⟩)) else none | _ => none, false⟩
theorem ok_One : FOK NGk Tabs 32 p_One := by
  refine fok wokk (allOK_cons ok_plain (allOK_cons ok_by8 allOK_nil)) (h := hOn) Tryd.func32 rfl (by decide) ?_ ?_
  · intro R xs k
    simp only [p_One]
    split
    · exact cond_nat
    · rfl
  · intro xs r h
    simp only [p_One] at h
    split at h
    · rename_i a n c s
      rcases hb : decide (s.length ≤ 1000000) with _ | _ <;> rw [hb] at h
      · cases h
      · refine ⟨1000001, (on_raw _ a n c s).trans ?_⟩
        rw [hb, ← h, cond_true, cond_true]
        simp only [decide_eq_true_eq] at hb
        have e := plainA_cs ⟨a, n, c, s⟩
        simp only [V4.cs, List.cons.injEq, PV.int.injEq, true_and, PV.str.injEq, and_true] at e
        obtain ⟨e1, e2, e3, e4⟩ := e
        rw [e1, e2, e3, e4]
        have hl : (plain ⟨a, n, c, s⟩).s.length ≤ 1000000 := by unfold plain; split; exact hb; simp [vnull]
        exact on_body 1000001 (plain ⟨a, n, c, s⟩) (right_plain _) hl (by omega)
    · cases h
/-- what comes of keys.Next -/
def nxA (r : Option (Val × List UInt8)) : Val := r.elim vnull (·.1)
def nxR (r : Option (Val × List UInt8)) : List UInt8 := r.elim [] (·.2)
def nxV (l : List UInt8) : PV :=
  .tuple [.agg [.int .i64 (nxA (nextV l)).kind, .int .i64 (nxA (nextV l)).n, .int .i64 (nxA (nextV l)).scale, .str (nxA (nextV l)).s], .sl none 1 (nxR (nextV l)).length (bC (nxR (nextV l))), .bool (nextV l).isSome]
def p_KeysNext : PFn := ⟨fun xs k => match xs with | [.sl _ 1 n c] => (decY n c).bind fun l => bif decide (l.length ≤ 1000000) then k (nxV l) else none | _ => none, false⟩
theorem sl_bytes {M : Mem} {nl : Option Bool} {l : List UInt8} {v : Value} (h : RelD M (.sl nl 1 l.length (bC l)) v) : ∃ A c, v = .slice A l.length c ∧ Sl M.w 1 A l.length c (bvs l) := by
  simp only [RelD] at h
  obtain ⟨A, c, us, rfl, hnc, hcm, _, _, hl, hr, hx⟩ := h
  have hus : us = bvs l := by
    clear hx hl hcm hnc
    induction l generalizing us with
    | nil => exact (by simpa only [bC, List.map_nil, RelL] using hr : us = [])
    | cons b l ih =>
      have hr : RelL M (bytePV b :: bC l) us := hr
      simp only [RelL, bytePV, RelD] at hr
      obtain ⟨u, us', rfl, _, rfl, h3⟩ := hr
      rw [ih us' h3]; rfl
  subst hus
  refine ⟨A, c, rfl, by rw [bvs_length]; omega, hnc, hcm, fun hn => ?_⟩
  rcases hx with hx | ⟨b, o, rfl, hc⟩
  · have := bvs_length l
    rw [hx] at this
    simp only [List.length_nil] at this
    omega
  · refine ⟨b, o, rfl, ?_, fun j u hu => (hc j u hu).1⟩
    have h0 : 0 < (bvs l).length := by rw [bvs_length]; omega
    have : (bvs l)[0]? = some ((bvs l)[0]'h0) := List.getElem?_eq_getElem h0
    exact World.block_lt_of_cell? M.w _ (hc 0 _ this).1
theorem rel_nil1 {M : Mem} : RelD M (.sl none 1 0 []) (.slice none 0 0) := by
  simp only [RelD]
  exact ⟨none, 0, [], rfl, Nat.le_refl _, Nat.zero_le _, fun b hb => (by cases hb), fun _ => rfl, rfl, rfl, Or.inl rfl⟩
theorem rel_next {M : Mem} {x : Val} {r : PV} {u : Value} {b : Bool} (h : RelD M r u) : RelD M (.tuple [.agg [.int .i64 x.kind, .int .i64 x.n, .int .i64 x.scale, .str x.s], r, .bool b]) (.tuple #[.agg #[.int .i64 x.kind, .int .i64 x.n, .int .i64 x.scale, .string ⟨x.s.toArray⟩], u, .bool b]) := by
  simp only [RelD, RelT, RelL]
  exact ⟨_, rfl, _, _, rfl, ⟨_, rfl, _, _, rfl, rfl, rfl, _, _, rfl, rfl, rfl, _, _, rfl, rfl, rfl, _, _, rfl, rfl, rfl, rfl⟩, _, _, rfl, h, _, _, rfl, rfl, rfl⟩
theorem ok_KeysNext : FOK NGk Tabs 18 p_KeysNext := by
  refine fok_new Tryd.func18 (by kernel_rfl) (by decide) ?_ rfl ?_
  · intro R xs k
    simp only [p_KeysNext]
    split
    · exact bindY_nat
    · rfl
  · intro xs r M vs hW h hr
    simp only [p_KeysNext] at h
    split at h
    · rename_i nl n c
      obtain ⟨l, h1, hg, rfl⟩ := bindY_inv h
      obtain ⟨rfl, rfl⟩ := decY_inv h1
      simp only [decide_eq_true_eq] at hg
      obtain ⟨v, rfl, h2⟩ := relT1 hr
      obtain ⟨A, c, rfl, hs⟩ := sl_bytes h2
      refine (keysNext_any M.w A l.length c l hs (by omega) hW).mono ?_
      rintro e w' ⟨hbl, he⟩
      unfold nxV
      rcases hn : nextV l with _ | ⟨x, rest⟩ <;> rw [hn] at he
      · simp only at he
        subst he
        exact ⟨_, rfl, hbl, fun U' hU => rel_next (x := vnull) (b := false) rel_nil1⟩
      · simp only at he
        obtain ⟨A', c', rfl, ho⟩ := he
        exact ⟨_, rfl, hbl, fun U' hU => rel_next (x := x) (b := true) (rel_own ho hU)⟩
    · cases h
end Go.Proofs.YtclhnfalebiieaaDoor
