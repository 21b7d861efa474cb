/-
  TreeWalks: what it computes.
-/
import Derived.Test.YtmacjkiamejcnaaWe
import Derived.Test.YtmacjkiamejcnaaWb
set_option linter.unusedVariables false
set_option linter.unusedSimpArgs false
set_option maxRecDepth 100000
namespace Go.Proofs.Ytmacjkiamejcnaa
open Go.RowKit
def One (a : List (Ky × PV)) : Prop := ∀ p ∈ a, p.1.length = 1
theorem wk_loop0 (ks : List UInt8) (hk : ks.length ≤ 200) (fu : Nat) (s : Int) (nl : Option Bool) : ∀ (m i n : Nat) (x : PV) (a : List (Ky × PV)), i + m = ks.length → m < n → RootIs x a → a.length ≤ i → One a →
    ∃ x' a', RootIs x' a' ∧ a'.length ≤ 200 ∧ One a' ∧ wkLoop fu n (frWk0 s x nl ks.length (ks.map bytePV) (ks.length : Int) (i : Int)) = wkTail fu (frWk1 s x')
  | m, i, 0, x, a, hi, hn, hx, ha, ho => by omega
  | 0, i, n + 1, x, a, hi, hn, hx, ha, ho => by
    refine ⟨x, a, hx, by omega, ho, ?_⟩
    unfold wkLoop
    rw [loopF_succ, wk_step0 fu s hx.isR]
    unfold wkR0
    rw [cond_f (decide_eq_false (by omega))]
  | m + 1, i, n + 1, x, a, hi, hn, hx, ha, ho => by
    have hp : ks[i]? = some ks[i] := List.getElem?_eq_getElem (by omega)
    obtain ⟨x', hx', ex⟩ := put_law hx (by omega) [UInt8.ofNat (ks[i].toNat : Int).toNat] (i : Int)
    have la : (insK [UInt8.ofNat (ks[i].toNat : Int).toNat] (.int .i64 (i : Int)) a).length ≤ i + 1 := by rw [ins_len hx.srt]; split <;> omega
    obtain ⟨x2, a2, h1, h2, h3, h4⟩ := wk_loop0 ks hk fu s nl m (i + 1) n x' _ (by omega) (by omega) hx' la (fun p hp => by
      rcases mem_ins hp with rfl | hp
      · rfl
      · exact ho p hp)
    refine ⟨x2, a2, h1, h2, h3, ?_⟩
    rw [← h4]
    unfold wkLoop
    rw [loopF_succ, wk_step0 fu s hx.isR]
    unfold wkR0
    rw [cond_t (decide_eq_true (by omega)), u8At_eq hp, ex]
    simp only [on1]
    rw [wrapI_of (by omega) (by omega)]
    rfl
/-- the key ahead -/
def lastK (pre : List (Ky × PV)) : Ky := (pre.getLast?.map (·.1)).getD []
theorem lastK_app (pre : List (Ky × PV)) (p : Ky × PV) : lastK (pre ++ [p]) = p.1 := by simp [lastK]
theorem wk_walk {R : Type} (fu : Nat) (sn : Nat) (hs : sn ≤ 255) (q : Ky) {w : PV} {l : List (Ky × PV)} (hw : RootIs w l) (hl : l.length ≤ 200) (ho : One l) : ∀ (L pre : List (Ky × PV)) (r : PV) (b : List (Ky × PV)) (G : List (List PV) → Out → Bool → Option R), l = pre ++ L → pre.length < 1 + sn → RootIs r b → b.length ≤ 200 + pre.length →
    ∃ r' last q', IsR r' ∧ walkY (wkY fu) L [[.ptr 2 0], [.str q], [r]] (.fr (wkBx (sn : Int) q (pre.length : Int) (lastK pre) r w) none .nil) G =
      if l.length < 1 + sn then G [[.ptr 2 0], [.str q'], [r']] (.fr (wkBx (sn : Int) q' (l.length : Int) last r' w) none .nil) true
      else G [[.ptr 2 0], [.str q'], [r']] (.fr (wkBx (sn : Int) q' ((1 + sn : Nat) : Int) last r' w) (some (.exit 2)) .nil) false
  | [], pre, r, b, G, he, hlt, hr, hb => by
    rw [List.append_nil] at he
    subst he
    exact ⟨r, lastK l, q, hr.isR, by rw [if_pos hlt]; rfl⟩
  | p :: L, pre, r, b, G, he, hlt, hr, hb => by
    have hpl : p ∈ l := by rw [he]; simp
    have hle : pre.length + 1 + L.length = l.length := by rw [he]; simp; omega
    have hv := hw.vok p hpl
    have hsrt := hw.srt
    have hget : getK p.1 l = some p.2 := by
      unfold getK
      have hns : ∀ x ∈ pre, (x.1 == p.1) = false := fun x hx => by
        have h1 : Op.bytesLess x.1 p.1 = true := Srt.cross (A := pre) (B := p :: L) (by rw [← he]; exact hsrt) hx List.mem_cons_self
        have := kl_ne h1
        simpa using this
      rw [he, List.find?_append, List.find?_eq_none.2 (fun x hx => by rw [hns x hx]; decide)]
      simp
    have hhas : hasK p.1 l = true := by rw [← get_has, hget]; rfl
    have hlast : (bif decide (0 < ((pre.length : Nat) : Int)) then (Op.bytesLess p.1 (lastK pre) || p.1 == lastK pre) else false) = false := by
      rcases hp : pre.getLast? with _ | z
      · have : pre = [] := List.getLast?_eq_none_iff.1 hp
        subst this
        rfl
      · have hz : z ∈ pre := List.mem_of_getLast? hp
        have h1 : Op.bytesLess z.1 p.1 = true := Srt.cross (A := pre) (B := p :: L) (by rw [← he]; exact hsrt) hz List.mem_cons_self
        have e : lastK pre = z.1 := by simp [lastK, hp]
        rw [e, kl_asym h1, show (p.1 == z.1) = false by simpa using (kl_ne h1).symm]
        cases decide (0 < ((pre.length : Nat) : Int)) <;> rfl
    obtain ⟨r1, hr1, e1⟩ := del_law hr (by omega) p.1
    have hd := del_len (k := p.1) hr.srt
    have lb1 : (delK p.1 b).length ≤ b.length := by rw [hd]; split <;> omega
    obtain ⟨r2, hr2, e2⟩ := put_law hr1 (by omega) ([120] ++ p.1) 0
    have lb2 : (insK ([120] ++ p.1) (.int .i64 0) (delK p.1 b)).length ≤ 200 + (pre ++ [p]).length := by
      rw [ins_len hr1.srt, List.length_append]
      have : ([p] : List (Ky × PV)).length = 1 := rfl
      split <;> omega
    have hst : (wkY fu).F (R := List (List PV) × Out × Bool) [[.ptr 2 0], [.str q], [r]] (.fr (wkBx (sn : Int) q (pre.length : Int) (lastK pre) r w) none .nil) [.str p.1, p.2] (fun b o v => some (b, o, v)) =
      bif decide (pre.length + 1 = 1 + sn) then some ([[.ptr 2 0], [.str q], [r2]], .fr (wkBx (sn : Int) q ((pre ++ [p]).length : Int) (lastK (pre ++ [p])) r2 w) (some (.exit 2)) .nil, false)
      else some ([[.ptr 2 0], [.str q], [r2]], .fr (wkBx (sn : Int) q ((pre ++ [p]).length : Int) (lastK (pre ++ [p])) r2 w) none .nil, true) := by
      have h0 := wk_step (R := List (List PV) × Out × Bool) fu (sn : Int) q q (pre.length : Int) (lastK pre) (r0 := r) hr.isR hw.isR p.1 (valP p.2) (fun b o v => some (b, o, v))
      rw [valP_eq hv] at h0
      rw [h0]
      unfold wkR
      rw [get_law hw (by omega), hget, hhas, Option.getD_some]
      rw [show (PV.tuple [p.2, .bool true]) = .tuple [.int .i64 (valP p.2), .bool true] by rw [valP_eq hv]]
      simp only [onG]
      rw [show (valP p.2 == valP p.2) = true by simp, hlast, cond_f (by rfl), e1]
      simp only [on1]
      rw [cond_t (decide_eq_true (by rw [ho p hpl]; decide)), e2]
      simp only
      rw [wrapI_of (x := (pre.length : Int) + 1) (by omega) (by omega), wrapI_of (x := (sn : Int)) (by omega) (by omega), wrapI_of (x := 1 + (sn : Int)) (by omega) (by omega), lastK_app,
        show ((pre.length : Int) + 1) = ((pre ++ [p]).length : Int) by simp]
      by_cases hq : pre.length + 1 = 1 + sn
      · rw [cond_t (b := decide _) (decide_eq_true hq), cond_t (by simp; omega)]
      · rw [cond_f (b := decide _) (decide_eq_false hq), cond_f (by simp; omega)]
    simp only [walkY]
    unfold yF
    rw [hst]
    by_cases hq : pre.length + 1 = 1 + sn
    · refine ⟨r2, lastK (pre ++ [p]), q, hr2.isR, ?_⟩
      rw [cond_t (b := decide _) (decide_eq_true hq), Option.bind_some, if_neg (by omega)]
      show (bif shpB [[.ptr 2 0], [.str q], [r2]] then _ else none) = _
      rw [shp_of hr2.isR, cond_true, cond_false, show (pre ++ [p]).length = 1 + sn by simp; omega]
    · obtain ⟨r', last, q', i1, i2⟩ := wk_walk (R := R) fu sn hs q hw hl ho L (pre ++ [p]) r2 _ G (by rw [he]; simp) (by simp; omega) hr2 lb2
      refine ⟨r', last, q', i1, ?_⟩
      rw [← i2, cond_f (b := decide _) (decide_eq_false hq), Option.bind_some]
      show (bif shpB [[.ptr 2 0], [.str q], [r2]] then _ else none) = _
      rw [shp_of hr2.isR, cond_true, cond_true]
theorem wk_true (ks : List UInt8) (sn : Nat) (hs : sn ≤ 255) (nl : Option Bool) : prun enW hWk 2000 false fWk [.sl nl 1 ks.length (ks.map bytePV), .int .u8 (sn : Int)] = some (.bool true) := by
  rw [wk_raw]
  by_cases hk : 200 < ks.length
  · rw [cond_t (decide_eq_true (by omega))]
  · rw [cond_f (decide_eq_false (by omega))]
    obtain ⟨x, a, h1, h2, h3, h4⟩ := wk_loop0 ks (by omega) 2000 (sn : Int) nl ks.length 0 2000 .nilptr [] (by omega) (by omega) (.inl ⟨rfl, rfl⟩) (by simp) (fun p hp => by cases hp)
    refine h4.trans ?_
    rw [wk_tail _ _ h1.isR, from_walk h1 (by omega), from_nil]
    obtain ⟨r, last, q, i1, i2⟩ := wk_walk (R := PV) 2000 sn hs [] h1 h2 h3 a [] x a (fun bs o b => wkEnd (wkK 2000) bs o) rfl (by show 0 < 1 + sn; omega) h1 (by simp; omega)
    refine Eq.trans i2 ?_
    have fin : ∀ m : Nat, (m : Int) = (if (1 + sn : Nat) < a.length then ((1 + sn : Nat) : Int) else (a.length : Int)) → wkK 2000 (wkSt [[.ptr 162 0], [.str q], [r]] (wkBx (sn : Int) q (m : Int) last r x) .nil) = some (.bool true) := fun m hm => by
      rw [wk_over _ _ _ _ _ i1 h1.isR, len_law h1]
      simp only [onI]
      rw [wrapI_of (x := (sn : Int)) (by omega) (by omega), wrapI_of (x := 1 + (sn : Int)) (by omega) (by omega), cond_t]
      rw [beq_iff_eq, hm]
      split <;> split <;> omega
    by_cases hlt : a.length < 1 + sn
    · rw [if_pos hlt, wk_end0 _ _ _ _ _ i1]
      exact fin a.length (by rw [if_neg (by omega)])
    · rw [if_neg hlt, wk_end2 _ _ _ _ _ i1]
      exact fin (1 + sn) (by split <;> omega)
end Go.Proofs.Ytmacjkiamejcnaa
