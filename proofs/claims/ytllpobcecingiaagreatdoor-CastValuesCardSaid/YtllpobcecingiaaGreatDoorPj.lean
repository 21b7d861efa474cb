/-
  How the invariant is kept where boxes are made and written, and where a claim is used up or made.
-/
import Derived.Test.YtllpobcecingiaaGreatDoorPo4
set_option linter.unusedVariables false
set_option linter.unusedSimpArgs false
namespace Go.Proofs.YtllpobcecingiaaGreatDoor
open Go.RowKit

section
variable {NG : Nat} {M0 : Mem} {st : St} {a : Act} {M : Mem} {β κ : Nat → Option Nat}

theorem Inv.box_lt (h : Inv NG M0 st a M β κ) {id b : Nat} (hb : β id = some b) : b < M.w.heap.size := by
  obtain ⟨cs, arr, e, _, h2, _⟩ := h.box id b hb
  exact heap_lt h2

theorem clr_fst (c : Nat) (x : TV) : (clr c x).1 = x.1 := by unfold clr; split <;> rfl
theorem clr_tag (c : Nat) {M : Mem} {κ : Nat → Option Nat} {x : TV} {v : Value} (h : TagOK M κ x.1 x.2 v) : TagOK M (fun t => if t = c then none else κ t) (clr c x).1 (clr c x).2 v := by
  unfold clr
  split
  · exact .inl rfl
  · rename_i hc
    rcases h with h | ⟨nl, sz, n, cells, hx, h⟩
    · exact .inl h
    · refine .inr ⟨nl, sz, n, cells, hx, ?_⟩
      rcases h with h | ⟨h2, g, hk, ho⟩
      · exact .inl h
      · refine .inr ⟨h2, g, ?_, ho⟩
        show (if x.2 = c then none else κ x.2) = some g
        rw [if_neg (fun e => hc (by simp [← e, h2]))]
        exact hk
theorem BoxOK.clr (c : Nat) {M : Mem} {κ : Nat → Option Nat} {cs : List TV} {arr : List Value} (h : BoxOK M κ cs arr) : BoxOK M (fun t => if t = c then none else κ t) (cs.map (Go.Proofs.YtllpobcecingiaaGreatDoor.clr c)) arr :=
  ⟨by simp [h.1], fun j x hx => by
    rw [List.getElem?_map] at hx
    rcases hj : cs[j]? with _ | y
    · rw [hj] at hx; simp at hx
    · rw [hj] at hx
      simp at hx
      subst hx
      obtain ⟨u, h1, h2, h3, h4⟩ := h.2 j y hj
      exact ⟨u, h1, h2, by rw [clr_fst]; exact h3, clr_tag c h4⟩⟩

/-- a claim is given up -/
theorem Inv.drop (h : Inv NG M0 st a M β κ) (c : Nat) : Inv NG M0 (st.clr c) a M β (fun t => if t = c then none else κ t) where
  below := h.below
  baseU := h.baseU
  ng := h.ng
  defers := h.defers
  len := by simp [St.clr, h.len]
  slot := by
    intro t x hx
    simp only [St.clr, List.getElem?_map] at hx
    rcases ht : st.ρ[t]? with _ | y
    · rw [ht] at hx; simp at hx
    · rw [ht] at hx
      simp at hx
      subst hx
      obtain ⟨v, h1, h2, h3⟩ := h.slot t y ht
      exact ⟨v, h1, by rw [clr_fst]; exact h2, clr_tag c h3⟩
  box := by
    intro id b hb
    obtain ⟨cs, arr, e, h1, h2, h3, h4, h5⟩ := h.box id b hb
    exact ⟨cs.map (Go.Proofs.YtllpobcecingiaaGreatDoor.clr c), arr, e, by simp [St.clr, List.getElem?_map, h1], h2, h3.clr c, h4, h5⟩
  alive := by
    intro id cs hc
    simp only [St.clr, List.getElem?_map] at hc
    rcases hi : st.bx[id]? with _ | o
    · rw [hi] at hc; simp at hc
    · rw [hi] at hc
      cases o with
      | none => simp at hc
      | some ds => exact h.alive id ds hi
  binj := h.binj
  kinj := by
    intro t t' g h1 h2
    by_cases e1 : t = c
    · simp [e1] at h1
    · by_cases e2 : t' = c
      · simp [e2] at h2
      · rw [if_neg e1] at h1; rw [if_neg e2] at h2; exact h.kinj t t' g h1 h2
  kbox := by
    intro t g id b h1 h2
    by_cases e1 : t = c
    · simp [e1] at h1
    · rw [if_neg e1] at h1; exact h.kbox t g id b h1 h2
  klow := by
    intro t g h1
    by_cases e1 : t = c
    · simp [e1] at h1
    · rw [if_neg e1] at h1; exact h.klow t g h1
  khigh := by
    intro t g h1
    by_cases e1 : t = c
    · simp [e1] at h1
    · rw [if_neg e1] at h1; exact h.khigh t g h1

/-- a block that nobody names is written -/
theorem Inv.move (h : Inv NG M0 st a M β κ) {M' : Mem} {g : Nat} (hm : Move M M' (some g)) (h0 : M0.w.heap.size ≤ g) (hκ : ∀ c, κ c ≠ some g) (hβ : ∀ id, β id ≠ some g) : Inv NG M0 st a M' β κ where
  below := h.below.trans ⟨hm.os, hm.tape, hm.output, hm.size, fun b hb => (hm.block b (Nat.lt_of_lt_of_le hb h.below.size) (by simp; omega)).1⟩
  baseU := fun b hb => (hm.block b (Nat.lt_of_lt_of_le hb h.below.size) (by simp; omega)).2.trans (h.baseU b hb)
  ng := h.ng
  defers := h.defers
  len := h.len
  slot := fun t x hx => let ⟨v, h1, h2, h3⟩ := h.slot t x hx; ⟨v, h1, h2.mono hm.le (fun _ _ h => h), h3.move hm (fun g' hg e => hκ x.2 (by rw [hg]; exact e))⟩
  box := fun id b hb => by
    obtain ⟨cs, arr, e, h1, h2, h3, h4, h5⟩ := h.box id b hb
    obtain ⟨k1, k2⟩ := hm.block b (heap_lt h2) (fun e => hβ id (by rw [hb]; exact e))
    exact ⟨cs, arr, e, h1, k1.trans h2, h3.move hm (fun c g' hg e => hκ c (by rw [hg]; exact e)), k2.trans h4, h5⟩
  alive := h.alive
  binj := h.binj
  kinj := h.kinj
  kbox := h.kbox
  klow := h.klow
  khigh := fun c g hk => Nat.lt_of_lt_of_le (h.khigh c g hk) hm.size

theorem TagOK.name {M : Mem} {κ : Nat → Option Nat} {c g : Nat} (hc : κ c = none) {x : PV} {t : Nat} {v : Value} (h : TagOK M κ x t v) : TagOK M (fun t => if t = c then some g else κ t) x t v := by
  rcases h with h | ⟨nl, sz, n, cells, hx, h⟩
  · exact .inl h
  · refine .inr ⟨nl, sz, n, cells, hx, ?_⟩
    rcases h with h | ⟨h2, g', hk, ho⟩
    · exact .inl h
    · refine .inr ⟨h2, g', ?_, ho⟩
      show (if t = c then some g else κ t) = some g'
      rw [if_neg (fun e => by rw [e, hc] at hk; cases hk)]
      exact hk
/-- a block of the call's own gets a claim's name -/
theorem Inv.name (h : Inv NG M0 st a M β κ) {c g : Nat} (hc : κ c = none) (h0 : M0.w.heap.size ≤ g) (h1 : g < M.w.heap.size) (hκ : ∀ c, κ c ≠ some g) (hβ : ∀ id, β id ≠ some g) : Inv NG M0 st a M β (fun t => if t = c then some g else κ t) where
  below := h.below
  baseU := h.baseU
  ng := h.ng
  defers := h.defers
  len := h.len
  slot := fun t x hx => let ⟨v, h1, h2, h3⟩ := h.slot t x hx; ⟨v, h1, h2, h3.name hc⟩
  box := fun id b hb => by
    obtain ⟨cs, arr, e, h1, h2, h3, h4, h5⟩ := h.box id b hb
    exact ⟨cs, arr, e, h1, h2, ⟨h3.1, fun j x hx => let ⟨u, k1, k2, k3, k4⟩ := h3.2 j x hx; ⟨u, k1, k2, k3, k4.name hc⟩⟩, h4, h5⟩
  alive := h.alive
  binj := h.binj
  kinj := by
    intro t t' g' h1 h2
    by_cases e1 : t = c <;> by_cases e2 : t' = c
    · rw [e1, e2]
    · rw [if_pos e1] at h1; rw [if_neg e2] at h2; injection h1 with h1; subst h1; exact (hκ _ h2).elim
    · rw [if_neg e1] at h1; rw [if_pos e2] at h2; injection h2 with h2; subst h2; exact (hκ _ h1).elim
    · rw [if_neg e1] at h1; rw [if_neg e2] at h2; exact h.kinj t t' g' h1 h2
  kbox := by
    intro t g' id b h1 h2
    by_cases e1 : t = c
    · rw [if_pos e1] at h1; injection h1 with h1; subst h1; intro e; subst e; exact hβ id h2
    · rw [if_neg e1] at h1; exact h.kbox t g' id b h1 h2
  klow := by
    intro t g' h2
    by_cases e1 : t = c
    · rw [if_pos e1] at h2; injection h2 with h2; subst h2; exact h0
    · rw [if_neg e1] at h2; exact h.klow t g' h2
  khigh := by
    intro t g' h2
    by_cases e1 : t = c
    · rw [if_pos e1] at h2; injection h2 with h2; subst h2; exact h1
    · rw [if_neg e1] at h2; exact h.khigh t g' h2

theorem BoxOK.same {M : Mem} {κ : Nat → Option Nat} {cs : List TV} {arr : List Value} (h : BoxOK M κ cs arr) : BoxOK M κ cs arr := h

/-- a new box -/
theorem Inv.addBox (h : Inv NG M0 st a M β κ) {d g : Nat} {cs : List TV} {arr : Array Value} {e : TypeId} (hg : M.w.heap[g]? = some (.cells arr e (0, 0))) (hU : M.U g = 0) (h0 : M0.w.heap.size ≤ g) (hκ : ∀ c, κ c ≠ some g) (hβ : ∀ id, β id ≠ some g) (hd : st.bx[d]? = some none)
    (hc : BoxOK M κ cs arr.toList) : Inv NG M0 ⟨st.ρ.set d (.ptr d 0, 0), st.bx.set d (some cs)⟩ (a.put (some d) (.pointer (some ⟨g, 0, none⟩))) M (fun id => if id = d then some g else β id) κ := by
  have hβd : β d = none := by
    rcases hb : β d with _ | b
    · rfl
    · obtain ⟨cs, _, _, h1, _⟩ := h.box d b hb
      rw [hd] at h1
      cases h1
  have hmono : ∀ id b, β id = some b → (if id = d then some g else β id) = some b := fun id b hb => by
    rw [if_neg (fun e => by rw [e, hβd] at hb; cases hb)]; exact hb
  have hI : Inv NG M0 ⟨st.ρ, st.bx.set d (some cs)⟩ a M (fun id => if id = d then some g else β id) κ :=
    { below := h.below
      baseU := h.baseU
      ng := h.ng
      defers := h.defers
      len := h.len
      slot := fun t x hx => let ⟨v, h1, h2, h3⟩ := h.slot t x hx; ⟨v, h1, h2.mono M.le_refl hmono, h3⟩
      box := by
        intro id b hb
        by_cases e1 : id = d
        · rw [if_pos e1] at hb
          injection hb with hb
          subst hb; subst e1
          have hlt : id < st.bx.length := (List.getElem?_eq_some_iff.1 hd).1
          exact ⟨cs, arr, e, by simp [hlt], hg, hc, hU, h0⟩
        · rw [if_neg e1] at hb
          obtain ⟨cs', arr', e', h1, h2⟩ := h.box id b hb
          exact ⟨cs', arr', e', by simp only; rw [List.getElem?_set_ne (Ne.symm e1)]; exact h1, h2⟩
      alive := by
        intro id cs' hc'
        by_cases e1 : id = d
        · exact ⟨g, by rw [if_pos e1]⟩
        · simp only at hc'
          rw [List.getElem?_set_ne (Ne.symm e1)] at hc'
          obtain ⟨b, hb⟩ := h.alive id cs' hc'
          exact ⟨b, by rw [if_neg e1]; exact hb⟩
      binj := by
        intro id id' b h1 h2
        by_cases e1 : id = d <;> by_cases e2 : id' = d
        · rw [e1, e2]
        · rw [if_pos e1] at h1; rw [if_neg e2] at h2; injection h1 with h1; subst h1; exact (hβ _ h2).elim
        · rw [if_neg e1] at h1; rw [if_pos e2] at h2; injection h2 with h2; subst h2; exact (hβ _ h1).elim
        · rw [if_neg e1] at h1; rw [if_neg e2] at h2; exact h.binj id id' b h1 h2
      kinj := h.kinj
      kbox := by
        intro c g' id b h1 h2
        by_cases e1 : id = d
        · rw [if_pos e1] at h2; injection h2 with h2; subst h2; intro e; subst e; exact hκ c h1
        · rw [if_neg e1] at h2; exact h.kbox c g' id b h1 h2
      klow := h.klow
      khigh := h.khigh }
  exact hI.put (some d) (x := (.ptr d 0, 0)) ⟨g, by simp, rfl⟩ (.inl rfl)

/-- a box is written -/
theorem Inv.setBox (h : Inv NG M0 st a M β κ) {id b : Nat} {cs : List TV} {arr : Array Value} {e : TypeId} (hb : β id = some b) (hh : M.w.heap[b]? = some (.cells arr e (0, 0))) {new : List Value} (hnew : new.length = arr.size)
    (hc : BoxOK M κ cs new) : Inv NG M0 { st with bx := st.bx.set id (some cs) } a ⟨M.w.setRow b new.toArray, M.U⟩ β κ := by
  obtain ⟨cs0, arr0, e0, k1, k2, k3, k4, k5⟩ := h.box id b hb
  have hm : Move M ⟨M.w.setRow b new.toArray, M.U⟩ (some b) :=
    { os := rfl, tape := rfl, output := rfl, size := by simp [World.setRow]
      block := fun b' hb' hne => ⟨setRow_other _ _ _ _ (fun e => hne (by rw [e])), rfl⟩
      le := fun b' o u h1 h2 => by
        by_cases e1 : b' = b
        · subst e1; rw [k4] at h2; omega
        · exact ⟨(cell_setRow_other _ _ _ _ e1).trans h1, h2⟩ }
  have hκ : ∀ c, κ c ≠ some b := fun c hk => h.kbox c b id b hk hb rfl
  exact
    { below := h.below.trans ⟨rfl, rfl, rfl, by simp [World.setRow], fun b' hb' => setRow_other _ _ _ _ (by omega)⟩
      baseU := h.baseU
      ng := h.ng
      defers := h.defers
      len := h.len
      slot := fun t x hx => let ⟨v, h1, h2, h3⟩ := h.slot t x hx; ⟨v, h1, h2.mono hm.le (fun _ _ h => h), h3.move hm (fun g' hg e => hκ x.2 (by rw [hg]; exact e))⟩
      box := by
        intro id' b' hb'
        by_cases e1 : id' = id
        · subst e1
          rw [hb] at hb'
          injection hb' with hb'
          subst hb'
          have hlt : id' < st.bx.length := (List.getElem?_eq_some_iff.1 k1).1
          exact ⟨cs, new.toArray, e, by simp [hlt], setRow_heap _ _ _ _ _ _ hh, by simpa using hc.move hm (fun c g' hg e => hκ c (by rw [hg]; exact e)), k4, k5⟩
        · obtain ⟨cs', arr', e', h1, h2, h3, h4, h5⟩ := h.box id' b' hb'
          have hne : b' ≠ b := fun e2 => e1 (h.binj id' id b (by rw [← e2]; exact hb') hb)
          exact ⟨cs', arr', e', by simp only; rw [List.getElem?_set_ne (Ne.symm e1)]; exact h1, (setRow_other _ _ _ _ hne).trans h2, h3.move hm (fun c g' hg e => hκ c (by rw [hg]; exact e)), h4, h5⟩
      alive := by
        intro id' cs' hc'
        by_cases e1 : id' = id
        · exact ⟨b, by rw [e1]; exact hb⟩
        · simp only at hc'
          rw [List.getElem?_set_ne (Ne.symm e1)] at hc'
          exact h.alive id' cs' hc'
      binj := h.binj
      kinj := h.kinj
      kbox := h.kbox
      klow := h.klow
      khigh := fun c g hk => Nat.lt_of_lt_of_le (h.khigh c g hk) hm.size }
end

/-! ## cells of what is boxed, stored, built -/
theorem pcells_ok {M : Mem} {β κ : Nat → Option Nat} {x : TV} {v : Value} {cs : List TV} (h : pcells x = some cs) (hd : allData cs = true) (hr : RelS M β x.1 v) (ht : TagOK M κ x.1 x.2 v) : BoxOK M κ cs v.cells.toList := by
  have one : ∀ {y : TV} {u : Value}, u.oneCell' = true → RelD M y.1 u → TagOK M κ y.1 y.2 u → BoxOK M κ [y] [u] := fun {y u} h1 h2 h3 =>
    ⟨rfl, fun j z hz => by
      cases j with
      | zero => simp at hz; subst hz; exact ⟨u, rfl, h1, h2, h3⟩
      | succ j => simp at hz⟩
  obtain ⟨x, c⟩ := x
  cases x <;> simp only [pcells, Option.some.injEq, reduceCtorEq] at h <;> subst h
  case agg cs =>
    obtain ⟨vs, rfl, h1⟩ := rel_agg hr
    simpa [Value.cells] using BoxOK.of_rel h1
  case bool b => obtain rfl := rel_bool hr; exact one rfl rfl (.inl rfl)
  case int k n => obtain rfl := rel_int hr; exact one rfl rfl (.inl rfl)
  case str s => obtain rfl := rel_str hr; exact one rfl rfl (.inl rfl)
  case sl nl sz n cells =>
    have hr' : RelD M (.sl nl sz n cells) v := hr
    have hr2 := hr'
    simp only [RelD] at hr2
    obtain ⟨A, c', _, rfl, _⟩ := hr2
    exact one rfl hr' ht
  case nilptr => obtain rfl : v = .pointer none := hr; exact one rfl rfl (.inl rfl)
  case nptr => obtain ⟨ad, rfl⟩ : ∃ ad, v = .pointer (some ad) := hr; exact one rfl ⟨ad, rfl⟩ (.inl rfl)
  case nilIface => obtain rfl : v = .nilIface := hr; exact one rfl rfl (.inl rfl)
  case iface t y =>
    have hr' : RelD M (.iface t y) v := hr
    have hr2 := hr'
    simp only [RelD] at hr2
    obtain ⟨u, rfl, _⟩ := hr2
    exact one rfl hr' (.inl rfl)
  case nilFunc => obtain rfl : v = .nilFunc := hr; exact one rfl rfl (.inl rfl)

theorem CT.fits_ok {M : Mem} {t : CT} {v : Value} (h : t.fits v = true) : v.oneCell' = true ∧ RelD M t.zero v := by
  unfold CT.fits at h
  split at h
  · simp at h
    obtain ⟨rfl, rfl⟩ := h
    exact ⟨rfl, rfl⟩
  · simp at h; subst h; exact ⟨rfl, rfl⟩
  · rename_i s
    simp at h
    refine ⟨rfl, ?_⟩
    show Value.string s = .string ⟨([] : List UInt8).toArray⟩
    congr 1
    apply ByteArray.ext
    simpa using h
  · simp at h
    obtain ⟨rfl, rfl⟩ := h
    refine ⟨rfl, ?_⟩
    simp only [CT.zero, RelD]
    exact ⟨none, 0, [], rfl, Nat.le_refl _, Nat.zero_le _, by simp, by simp, by simp, rfl, .inl rfl⟩
  · exact ⟨rfl, rfl⟩
  · exact ⟨rfl, rfl⟩
  · exact ⟨rfl, rfl⟩
  · exact ⟨h, trivial⟩
  · cases h
theorem fitsAll_ok {M : Mem} : ∀ {ts : List CT} {vs : List Value}, fitsAll ts vs = true → RelL M (ts.map CT.zero) vs
  | [], [], _ => rfl
  | [], _ :: _, h => by simp [fitsAll] at h
  | _ :: _, [], h => by simp [fitsAll] at h
  | t :: ts, v :: vs, h => by
    simp only [fitsAll, Bool.and_eq_true] at h
    obtain ⟨h1, h2⟩ := CT.fits_ok (M := M) h.1
    exact ⟨v, vs, rfl, h1, h2, fitsAll_ok h.2⟩
theorem zeroPV_ok {P : Program} {t : TypeId} {cs : List PV} (h : zeroPV P t = some cs) : ∃ i z, P.info? t = some i ∧ i.zero = some z ∧ i.size = z.cells.size ∧ ∀ M, RelL M cs z.cells.toList := by
  unfold zeroPV at h
  split at h
  · rename_i z hz
    obtain ⟨hf, h⟩ := ite_inv h
    injection h with h
    subst h
    simp only [Bool.and_eq_true, beq_iff_eq] at hf
    obtain ⟨i, hi, hz⟩ := bind_some_inv hz
    refine ⟨i, z, hi, hz, ?_, fun M => fitsAll_ok hf.1⟩
    have := hf.2
    simp only [szOf, hi, Option.map_some, Option.getD_some] at this
    exact this
  · cases h

end Go.Proofs.YtllpobcecingiaaGreatDoor
