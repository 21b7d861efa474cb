/-
  Nodes: a node of a small size has a value; the law EvalLogic in plain terms.
-/
import Derived.Test.YtelckbphbkebkaaGreatDoorVi
set_option linter.unusedVariables false
set_option linter.unusedSimpArgs false
set_option maxRecDepth 100000
namespace Go.Proofs.YtelckbphbkebkaaGreatDoor
open Go.RowKit

/-! ## well formed; of a small size -/
def wfN : Nat → NdC → Prop
  | 0, _ => False
  | D + 1, x => inI x.v.n = true ∧ ∃ l, x.n = l.length ∧ x.c = ndC l ∧ ∀ y ∈ l, wfN D y
def Sm : Nat → NdC → Prop
  | 0, _ => False
  | f + 1, x => okV x.v = true ∧ ∃ l, x.n = l.length ∧ x.c = ndC l ∧ ∀ y ∈ l, Sm f y
theorem szL_ok {g : NdC → Option Int} {B : Int} (hB : 4001 ≤ B) (hB2 : B ≤ 1000000) : ∀ (l : List NdC) (k : Int), (∀ y ∈ l, ∃ w, g y = some w ∧ 1 ≤ w ∧ w ≤ B) → 1 ≤ k → k ≤ 2000 + B →
    ∃ r, szL g k l = some r ∧ 1 ≤ r ∧ r ≤ 2000 + B ∧ (r ≤ 2000 → k ≤ r ∧ ∀ y ∈ l, ∃ w, g y = some w ∧ w ≤ r)
  | [], k, _, h1, h2 => ⟨k, rfl, h1, h2, fun _ => ⟨by omega, by simp⟩⟩
  | y :: ys, k, hl, h1, h2 => by
    rw [szL]
    by_cases hk : 2000 < k
    · exact ⟨2001, cond_t (decide_eq_true hk), by omega, by omega, fun h => by omega⟩
    · obtain ⟨w, hw, w1, w2⟩ := hl y (by simp)
      obtain ⟨r, e, r1, r2, r3⟩ := szL_ok hB hB2 ys (k + w) (fun y hy => hl y (by simp [hy])) (by omega) (by omega)
      refine ⟨r, ?_, r1, r2, fun h => ?_⟩
      · rw [cond_f (decide_eq_false hk), hw, Option.bind_some, wrapI_of (by omega) (by omega)]; exact e
      · obtain ⟨a, b⟩ := r3 h
        refine ⟨by omega, fun z hz => ?_⟩
        rcases List.mem_cons.1 hz with rfl | hz
        · exact ⟨w, hw, by omega⟩
        · exact b z hz
theorem sz_ok : ∀ (f D : Nat) (dep : Int) (x : NdC), wfN D x → 0 ≤ dep → dep < (f : Int) → f ≤ 100 → ∃ r, szS f dep x = some r ∧ 1 ≤ r ∧ r ≤ 4001 + 2000 * (f : Int) ∧ (r ≤ 2000 → Sm f x)
  | 0, D, dep, x, h, h0, h1, h2 => by omega
  | f + 1, 0, dep, x, h, h0, h1, h2 => h.elim
  | f + 1, D + 1, dep, x, h, h0, h1, h2 => by
    obtain ⟨hi, l, hn, hc, hl⟩ := h
    rw [szS, hn, hc, decNd_of, Option.bind_some]
    by_cases hd : dep = 0
    · subst hd
      exact ⟨2001, rfl, by omega, by omega, fun h => by omega⟩
    · rw [show (dep == 0) = false by simpa using hd, Bool.false_or]
      by_cases hm : 2000 < maxI (maxI (l.length : Int) (x.v.s.length : Int)) (x.op.length : Int)
      · exact ⟨2001, cond_t (decide_eq_true hm), by omega, by omega, fun h => by omega⟩
      · rw [decide_eq_false hm, cond_false, wrapI_of (x := dep - 1) (by omega) (by omega)]
        have hm' := hm
        unfold maxI at hm'
        have hs : (x.v.s.length : Int) ≤ 2000 ∧ (x.op.length : Int) ≤ 2000 := by
          split at hm' <;> split at hm' <;> omega
        have hk : sz0 x = 1 + (x.v.s.length : Int) + (x.op.length : Int) := by
          unfold sz0
          rw [wrapI_of (x := 1 + (x.v.s.length : Int)) (by omega) (by omega), wrapI_of (by omega) (by omega)]
        have ih := fun y (hy : y ∈ l) => sz_ok f D (dep - 1) y (hl y hy) (by omega) (by omega) (by omega)
        obtain ⟨r, e, r1, r2, r3⟩ := szL_ok (g := szS f (dep - 1)) (B := 4001 + 2000 * (f : Int)) (by omega) (by omega) l (sz0 x) (fun y hy => by
          obtain ⟨w, a, b, c, _⟩ := ih y hy
          exact ⟨w, a, b, c⟩) (by omega) (by omega)
        refine ⟨r, e, r1, by omega, fun h => ⟨?_, l, hn, hc, fun y hy => ?_⟩⟩
        · unfold okV
          rw [hi, decide_eq_true (by omega)]; rfl
        · obtain ⟨w, a, b⟩ := (r3 h).2 y hy
          obtain ⟨w', a', _, _, c⟩ := ih y hy
          rw [a] at a'
          injection a' with a'
          exact c (by omega)
/-! ## more depth changes nothing -/
theorem bind_mono {α β : Type} {o o' : Option α} {k k' : α → Option β} {r : β} (h1 : ∀ a, o = some a → o' = some a) (h2 : ∀ a, k a = some r → k' a = some r) (h : o.bind k = some r) : o'.bind k' = some r := by
  obtain ⟨a, ha, hk⟩ := Option.bind_eq_some_iff.1 h
  rw [h1 a ha]
  exact h2 a hk
theorem cond_mono {β : Type} {c : Bool} {A A' B B' : Option β} {r : β} (h1 : A = some r → A' = some r) (h2 : B = some r → B' = some r) (h : (bif c then A else B) = some r) : (bif c then A' else B') = some r := by
  cases c
  · exact h2 h
  · exact h1 h
theorem lgS_mono {g g' : Ev1} (h : ∀ y r, g y = some r → g' y = some r) {op : List UInt8} {l : List NdC} {r : Val × Int} (hr : lgS g op l = some r) : lgS g' op l = some r :=
  bind_mono (fun _ h => h) (fun y => bind_mono (h y) (fun a => cond_mono id (cond_mono id (bind_mono (fun _ h => h) (fun y => bind_mono (h y) (fun b => id)))))) hr
theorem alS_mono {g g' : Ev1} (h : ∀ y r, g y = some r → g' y = some r) : ∀ {l : List NdC} {r : List Val × Int}, alS g l = some r → alS g' l = some r
  | [], r, hr => hr
  | y :: ys, r, hr => bind_mono (h y) (fun a => cond_mono id (bind_mono (fun _ => alS_mono h) (fun _ => id))) hr
theorem biS_mono {g g' : Ev1} (h : ∀ y r, g y = some r → g' y = some r) {op : List UInt8} {l : List NdC} {r : Val × Int} (hr : biS g op l = some r) : biS g' op l = some r :=
  cond_mono (lgS_mono h) (cond_mono (bind_mono (fun _ => alS_mono h) fun _ => id) id) hr
theorem evB_mono {g g' : Ev1} (h : ∀ y r, g y = some r → g' y = some r) {x : NdC} {l : List NdC} {row : List Val} {r : Val × Int} (hr : evB g x l row = some r) : evB g' x l row = some r :=
  cond_mono id (cond_mono id (cond_mono id (cond_mono (biS_mono h) (bind_mono (fun _ h => h) fun y => bind_mono (h y) fun _ => id)))) hr
theorem evS_mono1 : ∀ (f : Nat) (row : List Val) (x : NdC) (r : Val × Int), evS f row x = some r → evS (f + 1) row x = some r
  | 0, row, x, r, h => by cases h
  | f + 1, row, x, r, h => bind_mono (fun _ h => h) (fun l => bind_mono (fun _ => evB_mono (evS_mono1 f row)) (fun _ => id)) h
theorem evS_le {f : Nat} {row : List Val} {x : NdC} {r : Val × Int} (h : evS f row x = some r) : ∀ k, evS (f + k) row x = some r
  | 0 => h
  | k + 1 => evS_mono1 _ _ _ _ (evS_le h k)
/-! ## a value -/
def Gd1 (g : Ev1) (y : NdC) : Prop := ∃ r, g y = some r ∧ gd r.1 = true
theorem cond_gd {c : Bool} {A B : Option (Val × Int)} (h1 : c = true → ∃ r, A = some r ∧ gd r.1 = true) (h2 : c = false → ∃ r, B = some r ∧ gd r.1 = true) : ∃ r, (bif c then A else B) = some r ∧ gd r.1 = true := by
  cases c
  · exact h2 rfl
  · exact h1 rfl
theorem null_gd (e : Int) : ∃ r : Val × Int, some (vnull, e) = some r ∧ gd r.1 = true := ⟨_, rfl, rfl⟩
theorem lgS_some {g : Ev1} {op : List UInt8} {a b : NdC} {t : List NdC} (ha : Gd1 g a) (hb : Gd1 g b) : ∃ r, lgS g op (a :: b :: t) = some r ∧ gd r.1 = true := by
  obtain ⟨p, ha, pa⟩ := ha
  obtain ⟨q, hb, pb⟩ := hb
  unfold lgS
  rw [show (a :: b :: t)[0]? = some a from rfl, Option.bind_some, ha, Option.bind_some, show (a :: b :: t)[1]? = some b from rfl, Option.bind_some, hb, Option.bind_some]
  exact cond_gd (fun _ => null_gd _) fun _ => cond_gd (fun _ => ⟨_, rfl, gd_tv _⟩) fun _ => cond_gd (fun _ => null_gd _) fun _ => cond_gd (fun _ => ⟨_, rfl, gd_tv _⟩) fun _ => ⟨_, rfl, gd_tv _⟩
theorem biS_some {g : Ev1} {op : List UInt8} {a b : NdC} {t : List NdC} (ha : Gd1 g a) (hb : Gd1 g b) : ∃ r, biS g op (a :: b :: t) = some r ∧ gd r.1 = true := by
  unfold biS
  refine cond_gd (fun _ => lgS_some ha hb) fun _ => cond_gd (fun _ => ?_) fun h => ?_
  · obtain ⟨p, ha, pa⟩ := ha
    obtain ⟨q, hb, pb⟩ := hb
    show ∃ r, ((alS g [a, b]).bind _) = some r ∧ _
    rw [alS, ha, Option.bind_some, alS, hb, Option.bind_some, alS, Option.bind_some]
    rcases hp : (p.2 == 0) with _ | _ <;> simp only [Bool.not_false, Bool.not_true, cond_true, cond_false, Option.bind_some, hp]
    · exact null_gd _
    · rcases hq : (q.2 == 0) with _ | _ <;> simp only [Bool.not_false, Bool.not_true, cond_true, cond_false, Option.bind_some, hq]
      · exact null_gd _
      · exact cond_gd (fun _ => ⟨_, rfl, gd_cp _ _ _⟩) fun _ => ⟨_, rfl, gd_ar _ pa pb⟩
  · simp at h
def okR (row : List Val) : Prop := ∀ v ∈ row, inI v.n = true ∧ v.s.length ≤ 250
theorem row_at {row : List Val} (h : okR row) (i : Nat) : inI (row.getD i vnull).n = true ∧ (row.getD i vnull).s.length ≤ 250 := by
  rw [List.getD_eq_getElem?_getD]
  rcases hg : row[i]? with _ | v
  · exact ⟨rfl, by simp [vnull]⟩
  · exact h v (List.mem_of_getElem? hg)
theorem evB_some {g : Ev1} {x : NdC} {l : List NdC} {row : List Val} (hx : okV x.v = true) (hr : okR row) (hl : ∀ y ∈ l, Gd1 g y) : ∃ r, evB g x l row = some r ∧ gd r.1 = true := by
  unfold evB
  refine cond_gd (fun _ => null_gd _) fun h0 => cond_gd (fun _ => ?_) fun h1 => cond_gd (fun _ => ?_) fun h2 => cond_gd (fun h3 => ?_) fun h3 => ?_
  · simp only [okV, Bool.and_eq_true] at hx
    exact ⟨_, cond_t hx.2, gd_rt hx.1⟩
  · have e := row_at hr x.slot.toNat
    refine ⟨_, cond_t (decide_eq_true (by omega)), ?_⟩
    unfold colS
    cases decide (x.slot < 0)
    · cases decide ((row.length : Int) ≤ x.slot)
      · exact gd_rt e.1
      · rfl
    · rfl
  · have h3 : x.k = 3 := by simpa using h3
    rw [h3] at h0
    simp only [Bool.or_eq_false_iff, decide_eq_false_iff_not] at h0
    have h4 : ¬ ((l.length : Int) < 2) := h0.2
    match l, hl, h4 with
    | a :: b :: t, hl, _ => exact biS_some (hl a (by simp)) (hl b (by simp))
    | [a], _, h4 => exact absurd (show ((1 : Nat) : Int) < 2 by decide) h4
    | [], _, h4 => exact absurd (show ((0 : Nat) : Int) < 2 by decide) h4
  · simp only [Bool.or_eq_false_iff, decide_eq_false_iff_not] at h0
    have hk : 1 ≤ kdI x.k := by
      have := h0.1
      unfold kdI at this ⊢
      rw [h1, h2, h3] at this ⊢
      simp only [cond_false] at this ⊢
      revert this
      cases (x.k == 2) <;> cases (x.k == 4) <;> cases (x.k == 6) <;> simp
    have h4 := h0.2
    match l, hl, h4 with
    | [], _, h4 => exact absurd (show (([] : List NdC).length : Int) < kdI x.k by simp; omega) h4
    | a :: t, hl, _ =>
      obtain ⟨p, ha, pa⟩ := hl a (by simp)
      rw [show (a :: t)[0]? = some a from rfl, Option.bind_some, ha, Option.bind_some]
      exact cond_gd (fun _ => null_gd _) fun _ => cond_gd (fun _ => ⟨_, rfl, gd_bo _⟩) fun _ => cond_gd (fun _ => ⟨_, rfl, gd_cast _ _ pa⟩) fun _ => ⟨_, rfl, gd_un _ pa⟩
theorem ev_some {row : List Val} (hr : okR row) : ∀ (f : Nat) (x : NdC), Sm f x → Gd1 (evS f row) x
  | 0, x, h => h.elim
  | f + 1, x, h => by
    obtain ⟨hx, l, hn, hc, hl⟩ := h
    obtain ⟨r, e, g⟩ := evB_some (g := evS f row) hx hr (fun y hy => ev_some hr f y (hl y hy))
    exact ⟨r, evS_succ f row hn hc e g, g⟩

end Go.Proofs.YtelckbphbkebkaaGreatDoor
