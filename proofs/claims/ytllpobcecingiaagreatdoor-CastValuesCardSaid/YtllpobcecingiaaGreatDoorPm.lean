/-
  Each operation, part 7: claims (make, append), len, max, min, calls.
-/
import Derived.Test.YtllpobcecingiaaGreatDoorPl
set_option linter.unusedVariables false
set_option linter.unusedSimpArgs false
namespace Go.Proofs.YtllpobcecingiaaGreatDoor
open Go.RowKit

/-- the block that a claim names -/
def tagBlock (κ : Nat → Option Nat) (c : Nat) : Option Nat := if 2 ≤ c then κ c else none

section
variable {en : Env} {NG : Nat} {W : World → Prop} {st : St} {o : Oper}

theorem Inv.owned {M0 : Mem} {a : Act} {M M' : Mem} {β κ : Nat → Option Nat} (hI : Inv NG M0 st a M β κ) {c d : Nat} {ex : Option Nat} (hex : ex = none ∨ ∃ g, ex = some g ∧ 2 ≤ c ∧ κ c = some g) (hm : Move M M' ex)
    {nl : Option Bool} {sz n : Nat} {cells : List PV} {u : Value} (hr : RelD M' (.sl nl sz n cells) u) (hu : Free u ∨ ∃ g, OwnAt M' g sz u ∧ (M.w.heap.size ≤ g ∨ (2 ≤ c ∧ κ c = some g))) :
    ∃ κ', Inv NG M0 ⟨((st.clr c).clr (d + 2)).ρ.set d (.sl nl sz n cells, d + 2), ((st.clr c).clr (d + 2)).bx⟩ (a.put (some d) u) M' β κ' := by
  have I1 := (hI.drop c).drop (d + 2)
  have hnot : ∀ g, κ c = some g → ∀ t, (if t = d + 2 then none else if t = c then none else κ t) ≠ some g := by
    intro g hg t ht
    by_cases e1 : t = d + 2
    · simp [e1] at ht
    · rw [if_neg e1] at ht
      by_cases e2 : t = c
      · simp [e2] at ht
      · rw [if_neg e2] at ht
        exact e2 (hI.kinj t c g ht hg)
  have I2 : Inv NG M0 ((st.clr c).clr (d + 2)) a M' β (fun t => if t = d + 2 then none else if t = c then none else κ t) := by
    rcases hex with rfl | ⟨g, rfl, h2, hk⟩
    · exact I1.grow hm
    · exact I1.move hm (hI.klow c g hk) (hnot g hk) (fun id hb => hI.kbox c g id g hk hb rfl)
  rcases hu with hu | ⟨g, ho, hg⟩
  · exact ⟨_, I2.put (some d) (x := (.sl nl sz n cells, d + 2)) (RelS.of_data hr) (.inr ⟨_, _, _, _, rfl, .inl hu⟩)⟩
  · have hlow : M0.w.heap.size ≤ g := by
      rcases hg with hg | ⟨_, hk⟩
      · exact Nat.le_trans hI.below.size hg
      · exact hI.klow c g hk
    have hκ : ∀ t, (if t = d + 2 then none else if t = c then none else κ t) ≠ some g := by
      rcases hg with hg | ⟨_, hk⟩
      · intro t ht
        by_cases e1 : t = d + 2
        · simp [e1] at ht
        · rw [if_neg e1] at ht
          by_cases e2 : t = c
          · simp [e2] at ht
          · rw [if_neg e2] at ht
            have := hI.khigh t g ht
            omega
      · exact hnot g hk
    have hβ : ∀ id, β id ≠ some g := by
      rcases hg with hg | ⟨_, hk⟩
      · intro id hb
        have := hI.box_lt hb
        omega
      · exact fun id hb => hI.kbox c g id g hk hb rfl
    have I3 := I2.name (c := d + 2) (g := g) (by simp) hlow ho.lt hκ hβ
    exact ⟨_, I3.put (some d) (x := (.sl nl sz n cells, d + 2)) (RelS.of_data hr) (.inr ⟨_, _, _, _, rfl, .inr ⟨by simp, g, by simp, ho⟩⟩)⟩

theorem sim_own {c : Nat} {nl : Option Bool} {sz n : Nat} {cells : List PV} (h : ∀ (M0 : Mem) (a : Act) (M : Mem) (β κ : Nat → Option Nat), Inv NG M0 st a M β κ → GOK en M0 → W M0.w →
    ∃ u M' ex, (execOp a.eval o).run en.P M.w = .ok (.value u) M'.w ∧ (ex = none ∨ ∃ g, ex = some g ∧ 2 ≤ c ∧ κ c = some g) ∧ Move M M' ex ∧ RelD M' (.sl nl sz n cells) u ∧
      (Free u ∨ ∃ g, OwnAt M' g sz u ∧ (M.w.heap.size ≤ g ∨ (2 ≤ c ∧ κ c = some g)))) : Sim en NG W st o (.own c (.sl nl sz n cells)) := by
  intro M0 a M β κ hI hG hW st' hst next Q hn
  obtain ⟨u, M', ex, h1, h2, h3, h4, h5⟩ := h M0 a M β κ hI hG hW
  simp only [papply] at hst
  split at hst
  · rename_i d hd
    injection hst with hst
    subst hst
    obtain ⟨κ', hI'⟩ := hI.owned (d := d) h2 h3 h4 h5
    rw [← hd] at hI'
    exact wp_value h1 (hn _ M' β κ' hI')
  · cases hst

theorem wrap64_in {n : Int} (h0 : 0 ≤ n) (h1 : n ≤ 9223372036854775807) : IntKind.wrap .i64 n = n := by
  have : IntKind.wrap .i64 n = if (true && decide (n % 18446744073709551616 ≥ 9223372036854775808)) = true then n % 18446744073709551616 - 18446744073709551616 else n % 18446744073709551616 := rfl
  rw [this]
  split <;> simp_all <;> omega

theorem sim_makeSlice {t : TypeId} (hT : TypesOK en.P t) {l c : Operand} (ho : o.op = .makeSlice t l c) {act : PAct} (h : presolve en st o some = some act) : Sim en NG W st o act := by
  simp only [presolve, ho] at h
  split at h
  · rename_i e k n k' m he hl hc
    have he := elemT_spec he
    have hie := hT.sl e he
    split at h
    · rename_i z hz
      obtain ⟨i, zv, hi, hzv, hsz, hr⟩ := zeroPV_ok hz
      obtain ⟨hzl, h⟩ := ite_inv h
      simp only [Bool.and_eq_true, beq_iff_eq, decide_eq_true_eq] at hzl
      obtain ⟨hb, h⟩ := bif_inv h
      simp only [Bool.and_eq_true, decide_eq_true_eq] at hb
      obtain ⟨⟨⟨h0, hnm⟩, hby⟩, hmx⟩ := hb
      injection h with h
      subst h
      have hzs : zv.cells.size = szOf en.P e := by rw [← hsz]; simp [szOf, hi]
      have hbi : i.bytes = bytesOf en.P e := by simp [bytesOf, hi]
      refine sim_own fun M0 a M β κ hI hG _ => ?_
      have hl' := (hI.ev hG 0 l).1
      have hc' := (hI.ev hG 0 c).1
      rw [hl] at hl'
      rw [hc] at hc'
      have hl' := rel_int hl'
      have hc' := rel_int hc'
      have hrn : RelL M ((List.replicate n.toNat z).flatten) (List.replicate n.toNat zv.cells.toList).flatten := (hr M).rep _
      have harr := rep_flat zv.cells (by omega) m.toNat
      have hpre : (List.replicate m.toNat zv.cells.toList).flatten = (List.replicate n.toNat zv.cells.toList).flatten ++ (List.replicate (m.toNat - n.toNat) zv.cells.toList).flatten := by
        rw [← List.flatten_append, List.replicate_append_replicate]
        congr 2
        omega
      have hlen : ((List.replicate n.toNat z).flatten).length = n.toNat * szOf en.P e := by rw [hrn.length]; simp [hzs]
      have hcm : m.toNat ≤ maxLen := by simp only [maxLen]; omega
      have hrel := rel_new (M := M) (w1 := M.w) (Below.refl _ _) (arr := (Array.range (m.toNat * zv.cells.size)).map fun i => zv.cells[i % zv.cells.size]!) (e := e) (fr := (0, 0)) (sz := szOf en.P e) (n := n.toNat) (cap := m.toNat) hrn hlen (by omega) hcm (fun j u hu => by
        rw [← Array.getElem?_toList, harr, hpre, List.getElem?_append_left (List.getElem?_eq_some_iff.1 hu).1]
        exact hu)
      refine ⟨_, M.lay (M.w.alloc (.cells ((Array.range (m.toNat * zv.cells.size)).map fun i => zv.cells[i % zv.cells.size]!) e)) M.w.heap.size _, none, ?_, .inl rfl, Move.lay (below_alloc (Below.refl _ _) _) (Nat.le_refl _) _, hrel, .inr ⟨M.w.heap.size, ⟨⟨n.toNat, m.toNat, _, e, rfl, heap_alloc_new M.w _, by omega, hcm, by simp [hzs], ?_⟩⟩, .inl (Nat.le_refl _)⟩⟩
      · have e1 := wrap64_in h0 (by omega : n ≤ 9223372036854775807)
        have e2 := wrap64_in (by omega : 0 ≤ m) hmx
        have hbig : ¬ (i.bytes * m > 2 ^ 48) := by
          rw [hbi]
          have : m * (bytesOf en.P e : Int) ≤ (140737488355328 : Nat) := hby
          rw [Int.mul_comm] at this
          omega
        have hcond : ¬ ((m < 0 ∨ (2 : Int) ^ 48 < i.bytes * m) ∨ n < 0 ∨ m < n) := by omega
        by_cases hz0 : m.toNat * szOf en.P e = 0
        · have hm0 : m.toNat = 0 := by
            rcases Nat.eq_zero_or_pos m.toNat with h | h
            · exact h
            · have := Nat.mul_pos h hzl.2; omega
          have hm0' : m = 0 := by omega
          have hn0' : n = 0 := by omega
          subst hm0'; subst hn0'
          have e3 : ∀ (f : Nat → Value), Array.map f (Array.range 0) = #[] := fun f => by apply Array.ext'; simp
          simp [execOp, ho, Instr.makeSlice, run_und he, hl', hc', asInt, asIntOf, typeInfo, hi, e1, size_run hie, newRow, Mem.lay]
          rw [e3, e3]
        · simp only [execOp, ho, Instr.makeSlice, Sem.run_bind, run_und he, Result.andThen_ok, hl', hc', asInt, asIntOf, typeInfo, run_program, hi, Sem.run_pure, e1, e2]
          rw [if_neg (by simp only [Bool.or_eq_true, decide_eq_true_eq]; omega)]
          simp only [Sem.run_bind, run_askRoom, Result.andThen_ok, size_run hie, if_neg hz0, zero_run hi hzv, Sem.run_pure, newRow, run_newObj]
          rw [hzs]
          rfl
      · simp only [Mem.lay, if_true]
        rw [← hrn.length, hlen]
    · cases h
  · cases h

/-! ### append -/
theorem append_nothing {P : Program} {w : World} {t u ty e e' : TypeId} {n cap c : Nat} {A B : Option Addr} (ht : P.underlying t = some (.slice e)) (hu : P.underlying u = some (.slice e')) (hi : (P.info? e).isSome = true) (hnc : n ≤ cap) :
    (Builtin.append_ #[t, u] ty #[.slice A n cap, .slice B 0 c]).run P w = .ok (.slice A n cap) w := by
  cases B with
  | none => cases A <;> simp [Builtin.append_, run_und ht, run_und hu, size_run hi, Builtin.lenOf, hnc, Builtin.firstCells, storeCells]
  | some b => cases A <;> simp [Builtin.append_, run_und ht, run_und hu, size_run hi, Builtin.lenOf, hnc, Builtin.firstCells, storeCells, loadCells, loadCellsFrom]

theorem append_type {P : Program} {w : World} {t u ty e e' : TypeId} (ht : P.underlying t = some (.slice e)) (hu : P.underlying u = some (.slice e')) (x y : Value) : (Builtin.append_ #[t, u] ty #[x, y]).run P w = (Builtin.append_ #[t, t] ty #[x, y]).run P w := by
  cases x <;> simp [Builtin.append_, run_und ht, run_und hu]

theorem run_append_room' {P : Program} (w : World) (t ty e e' : TypeId) (i : TypeInfo) (ht : P.underlying t = some (.slice e)) (hi : P.info? e = some i)
    (g sLen sCap : Nat) (cur : Array Value) (hg : w.heap[g]? = some (.cells cur e' (0, 0)))
    (a : Addr) (m c : Nat) (news : List Value) (hl : news.length = m * i.size) (hnews : ∀ j u, news[j]? = some u → w.cell? (a.add j) = some u) (h1 : ∀ u ∈ news, u.oneCell' = true)
    (hroom : sLen + m ≤ sCap) (hfit : sLen * i.size + news.length ≤ cur.size) :
    (Builtin.append_ #[t, t] ty #[.slice (some ⟨g, 0, none⟩) sLen sCap, .slice (some a) m c]).run P w =
      .ok (.slice (some ⟨g, 0, none⟩) (sLen + m) sCap) (w.setRow g (cur.toList.take (sLen * i.size) ++ news ++ cur.toList.drop (sLen * i.size + news.length)).toArray) := by
  have hf := run_firstCells_some (P := P) w i.size m a m c news hl hnews
  have hst := run_storeCells_at P g (sLen * i.size) e' news 0 cur w hg (by simpa using hfit) h1
  simp only [Nat.add_zero] at hst
  simp [Builtin.append_, run_underlying ht, sizeOf, typeInfo, hi, Builtin.lenOf, hroom, hf, Addr.add_lit, hst]

theorem append_ok {M : Mem} {κ : Nat → Option Nat} {t u ty e e' : TypeId} (hT : TypesOK en.P t) {nl nl' : Option Bool} {sz n m c : Nat} {cells cells' : List PV} {v w' : Value} (ht : en.P.underlying t = some (.slice e)) (hu : en.P.underlying u = some (.slice e')) (hsz : szOf en.P e = sz) (hpos : 0 < sz)
    (hz : (zeroPV en.P e).isSome = true)
    (hlen : n + m ≤ 9223372036854775807) (hby : (n + m) * bytesOf en.P e ≤ roomB) (hr : RelD M (.sl nl sz n cells) v) (hr' : RelD M (.sl nl' sz m cells') w') (hc : c ≠ 0) (htag : TagOK M κ (.sl nl sz n cells) c v) (hU : ∀ g, 2 ≤ c → κ c = some g → True) :
    ∃ r M' ex, (Builtin.append_ #[t, u] ty #[v, w']).run en.P M.w = .ok r M'.w ∧ (ex = none ∨ ∃ g, ex = some g ∧ 2 ≤ c ∧ κ c = some g) ∧ Move M M' ex ∧
      RelD M' (.sl (nl.map (· && (m == 0))) sz (n + m) (cells ++ cells')) r ∧ (Free r ∨ ∃ g, OwnAt M' g sz r ∧ (M.w.heap.size ≤ g ∨ (2 ≤ c ∧ κ c = some g))) := by
  have hie := hT.sl e ht
  obtain ⟨z, hz⟩ := Option.isSome_iff_exists.1 hz
  obtain ⟨i, zv, hi, hzv, hisz, _⟩ := zeroPV_ok hz
  have hs : i.size = sz := by rw [← hsz]; simp [szOf, hi]
  have hb : i.bytes = bytesOf en.P e := by simp [bytesOf, hi]
  have hzs : zv.cells.size = sz := by rw [← hs]; exact hisz.symm
  have htag' : Free v ∨ (2 ≤ c ∧ ∃ g, κ c = some g ∧ OwnAt M g sz v) := by
    rcases htag with h | ⟨_, _, _, _, he, h⟩
    · exact (hc h).elim
    · injection he with _ e2 _ _
      rw [e2]
      exact h
  simp only [RelD] at hr hr'
  obtain ⟨A, cap, vs, rfl, h1, h2, h3, h4, h5, h6, h7⟩ := hr
  obtain ⟨B, c', vs', rfl, k1, k2, k3, k4, k5, k6, k7⟩ := hr'
  have hlv : vs.length = n * sz := by rw [← h6.length]; exact h5
  have hlv' : vs'.length = m * sz := by rw [← k6.length]; exact k5
  have hcl : (cells ++ cells').length = (n + m) * sz := by rw [List.length_append, h5, k5, Nat.add_mul]
  rcases Nat.eq_zero_or_pos m with hm0 | hm0
  · -- nothing is appended
    subst hm0
    have e1 : cells' = [] := List.eq_nil_of_length_eq_zero (by rw [k5]; simp)
    subst e1
    refine ⟨_, M, none, append_nothing ht hu hie h1, .inl rfl, Move.refl M, ?_, ?_⟩
    · simp only [RelD, List.append_nil, Nat.add_zero]
      refine ⟨A, cap, vs, rfl, h1, h2, ?_, h4, h5, h6, h7⟩
      intro b hb
      cases nl with
      | none => simp at hb
      | some b' => simp at hb; subst hb; exact h3 _ rfl
    · rcases htag' with h | ⟨h2, g, hk, ho⟩
      · exact .inl h
      · exact .inr ⟨g, ho, .inr ⟨h2, hk⟩⟩
  · -- something is
    have hne : vs' ≠ [] := by intro e; rw [e] at hlv'; have := Nat.mul_pos hm0 hpos; simp at hlv'; omega
    rcases k7 with k7 | ⟨b, off, rfl, k7⟩
    · exact (hne k7).elim
    have hnews : ∀ j u, vs'[j]? = some u → M.w.cell? ((⟨b, off, none⟩ : Addr).add j) = some u := fun j u hj => by rw [addr_add]; exact (k7 j u hj).1
    have hmap : nl.map (· && (m == 0)) = nl.map fun _ => false := by
      have : (m == 0) = false := by simp; omega
      rw [this]
      cases nl <;> simp
    -- a new block
    have grow : ∀ (M1 : World) (arr : Array Value) (newCap : Nat), M1.heap.size = M.w.heap.size → Below M.w.heap.size M.w M1 → n + m ≤ newCap → newCap ≤ maxLen → arr.size = newCap * sz → (∀ (j : Nat) (u : Value), (vs ++ vs')[j]? = some u → arr[j]? = some u) →
        ∃ M' ex, M'.w = M1.alloc (.cells arr e) ∧ (ex = none ∨ ∃ g, ex = some g ∧ 2 ≤ c ∧ κ c = some g) ∧ Move M M' ex ∧ RelD M' (.sl (nl.map fun _ => false) sz (n + m) (cells ++ cells')) (.slice (some ⟨M.w.heap.size, 0, none⟩) (n + m) newCap) ∧
          (Free (.slice (some ⟨M.w.heap.size, 0, none⟩) (n + m) newCap) ∨ ∃ g, OwnAt M' g sz (.slice (some ⟨M.w.heap.size, 0, none⟩) (n + m) newCap) ∧ (M.w.heap.size ≤ g ∨ (2 ≤ c ∧ κ c = some g))) := by
      intro M1 arr newCap hsz1 hb1 hc1 hc2 hc3 hc4
      have hrel := rel_new (M := M) (w1 := M1) hb1 (arr := arr) (e := e) (fr := (0, 0)) (sz := sz) (n := n + m) (cap := newCap) (h6.append k6) hcl hc1 hc2 hc4
      refine ⟨M.lay (M1.alloc (.cells arr e)) M1.heap.size (vs ++ vs').length, none, rfl, .inl rfl, Move.lay (below_alloc hb1 _) hb1.size _, ?_, .inr ⟨M.w.heap.size, ⟨⟨n + m, newCap, arr, e, rfl, ?_, hc1, hc2, hc3, ?_⟩⟩, .inl (Nat.le_refl _)⟩⟩
      · rw [hsz1] at hrel ⊢
        simp only [RelD] at hrel ⊢
        obtain ⟨A', cc, ws, q1, q2, q3, q4, q5⟩ := hrel
        refine ⟨A', cc, ws, q1, q2, q3, ?_, q5⟩
        intro bb hbb
        cases nl with
        | none => simp at hbb
        | some b' => simp at hbb; subst hbb; exact q4 _ rfl
      · show (M1.alloc _).heap[M.w.heap.size]? = _
        rw [← hsz1]
        exact heap_alloc_new M1 _
      · simp only [Mem.lay, hsz1, if_true]
        rw [List.length_append, hlv, hlv', Nat.add_mul]
    have hdrew : Below M.w.heap.size M.w M.w.drew := (Below.refl _ _).drew
    have hrm : (n + m) * i.bytes ≤ 140737488355328 := by rw [hb]; exact hby
    have hml : n + m ≤ maxLen := by simp only [maxLen]; omega
    rw [append_type ht hu, hmap]
    by_cases hroom : n + m ≤ cap
    · -- room behind: the claim's own block
      have hown : 2 ≤ c ∧ ∃ g, κ c = some g ∧ OwnAt M g sz (.slice A n cap) := by
        rcases htag' with ⟨A', n', e⟩ | h
        · injection e with _ e1 e2
          omega
        · exact h
      obtain ⟨hc2, g, hk, ho⟩ := hown
      obtain ⟨n', cap', cur, e0, q1, q2, q3, q4, q5, q6⟩ := ho.ex
      injection q1 with q11 q12 q13
      subst q11; subst q12; subst q13
      have hcs : n * i.size + vs'.length ≤ cur.size := by rw [hs, hlv', q5, ← Nat.add_mul]; exact Nat.mul_le_mul_right _ hroom
      have hrun := run_append_room' (P := en.P) M.w t ty e e0 i ht hi g n cap cur q2 ⟨b, off, none⟩ m c' vs' (by rw [hs]; exact hlv') hnews k6.one hroom hcs
      rw [hs] at hrun hcs
      have hvs : cur.toList.take (n * sz) = vs := by
        rcases h7 with h7 | ⟨b', o', e', h7⟩
        · rw [h7] at hlv ⊢
          simp at hlv
          rw [← hlv]
          rfl
        · injection e' with e'
          injection e' with e1 e2
          subst e1; subst e2
          apply List.ext_getElem?
          intro j
          by_cases hj : j < n * sz
          · have hj' : vs[j]? = some (vs[j]'(by omega)) := List.getElem?_eq_getElem (by omega)
            have := (h7 j _ hj').1
            rw [Nat.zero_add, cell_of_row _ _ _ cur e0 (0, 0) q2] at this
            rw [List.getElem?_take_of_lt hj, hj', ← this]
            simp
          · rw [List.getElem?_eq_none (by simp; omega), List.getElem?_eq_none (by omega)]
      let M' : Mem := ⟨M.w.setRow g (cur.toList.take (n * sz) ++ vs' ++ cur.toList.drop (n * sz + vs'.length)).toArray, fun b => if b = g then (n + m) * sz else M.U b⟩
      have hnewsz : (cur.toList.take (n * sz) ++ vs' ++ cur.toList.drop (n * sz + vs'.length)).length = cur.size := by simp; omega
      have hcell : ∀ j, (M.w.setRow g (cur.toList.take (n * sz) ++ vs' ++ cur.toList.drop (n * sz + vs'.length)).toArray).cell? ⟨g, j, none⟩ = (cur.toList.take (n * sz) ++ vs' ++ cur.toList.drop (n * sz + vs'.length))[j]? := fun j => by
        rw [cell_setRow_same _ _ _ _ _ _ _ q2]
        simp
      have hmove : Move M M' (some g) :=
        { os := rfl, tape := rfl, output := rfl, size := by simp [M', World.setRow]
          block := fun b' hb' hne => ⟨setRow_other _ _ _ _ (fun e => hne (by rw [e])), by simp only [M']; rw [if_neg (fun e => hne (by rw [e]))]⟩
          le := fun b' o' x hx hlt => by
            by_cases e1 : b' = g
            · subst e1
              rw [q6] at hlt
              refine ⟨?_, by simp only [M', if_true]; exact Nat.lt_of_lt_of_le hlt (Nat.mul_le_mul_right _ (Nat.le_add_right _ _))⟩
              show (M.w.setRow _ _).cell? _ = _
              rw [hcell, List.append_assoc, List.getElem?_append_left (by simp; omega), List.getElem?_take_of_lt hlt]
              rw [cell_of_row _ _ _ cur e0 (0, 0) q2] at hx
              simpa using hx
            · exact ⟨(cell_setRow_other _ _ _ _ e1).trans hx, by simp only [M']; rw [if_neg e1]; exact hlt⟩ }
      refine ⟨_, M', some g, hrun, .inr ⟨g, rfl, hc2, hk⟩, hmove, ?_, .inr ⟨g, ⟨⟨n + m, cap, _, e0, rfl, setRow_heap _ _ _ _ _ _ q2, hroom, q4, by simpa [q5] using hnewsz, by simp [M']⟩⟩, .inr ⟨hc2, hk⟩⟩⟩
      simp only [RelD]
      refine ⟨_, cap, vs ++ vs', rfl, hroom, q4, ?_, by simp, hcl, (h6.append k6).mono' hmove.le, .inr ⟨g, 0, rfl, ?_⟩⟩
      · intro bb hbb
        cases nl with
        | none => simp at hbb
        | some b' => simp at hbb; subst hbb; rfl
      · intro j x hj
        have hlt : j < (n + m) * sz := by
          have := (List.getElem?_eq_some_iff.1 hj).1
          rw [List.length_append, hlv, hlv', ← Nat.add_mul] at this
          exact this
        refine ⟨?_, by simp only [M', if_true, Nat.zero_add]; exact hlt⟩
        show (M.w.setRow _ _).cell? _ = _
        rw [Nat.zero_add, hcell, hvs, List.getElem?_append_left (by rw [List.length_append, hlv, hlv', ← Nat.add_mul]; exact hlt)]
        exact hj
    · -- a new array
      have hfit := growslice_fits (need := n + m) (old := cap) (by omega) hrm
      have hge := grownCap_ge M.w (n + m) cap e
      have hcm : grownCap M.w (n + m) cap e ≤ maxLen := grownCap_le_maxLen M.w (n + m) cap e hml
      have harr : ∀ (k : Nat), (vs.toArray ++ vs'.toArray ++ Builtin.zeroCells zv.cells k).size = (n + m + k) * sz := fun k => by
        rw [Array.size_append, Array.size_append, size_zeroCells, hzs]
        simp only [List.size_toArray, hlv, hlv']
        rw [← Nat.add_mul, ← Nat.add_mul]
      have hgetj : ∀ (k : Nat) (j : Nat) (x : Value), (vs ++ vs')[j]? = some x → (vs.toArray ++ vs'.toArray ++ Builtin.zeroCells zv.cells k)[j]? = some x := fun k j x hj => by
        rw [Array.getElem?_append_left (by simp; have := (List.getElem?_eq_some_iff.1 hj).1; simpa using this)]
        simpa using hj
      cases A with
      | none =>
        have hcap0 : cap = 0 := h4 rfl
        subst hcap0
        have hn0 : n = 0 := by omega
        subst hn0
        have hv0 : vs = [] := List.eq_nil_of_length_eq_zero (by rw [hlv]; simp)
        subst hv0
        have hrun := run_append_nil (P := en.P) M.w t ty e i zv ht hi hzv ⟨b, off, none⟩ m c' vs' (by rw [hs]; exact hlv') hnews hm0 (by omega) (by simp only [Nat.zero_add] at hrm; omega)
        simp only [Nat.zero_add] at hge hcm hml
        obtain ⟨M', ex, g1, g2, g3, g4, g5⟩ := grow M.w.drew (vs'.toArray ++ Builtin.zeroCells zv.cells (grownCap M.w m 0 e - m)) (grownCap M.w m 0 e) rfl hdrew (by omega) hcm (by have := harr (grownCap M.w m 0 e - m); simp only [Nat.zero_add] at this; rw [show (#[] : Array Value) = ([] : List Value).toArray from rfl] at *; simpa [show m + (grownCap M.w m 0 e - m) = grownCap M.w m 0 e by omega] using this) (fun j x hj => by have := hgetj (grownCap M.w m 0 e - m) j x hj; simpa using this)
        simp only [Nat.zero_add] at g4 g5 ⊢
        exact ⟨_, M', ex, by rw [hrun, g1], g2, g3, g4, g5⟩
      | some ad =>
        have holds : ∀ j x, vs[j]? = some x → M.w.cell? (ad.add j) = some x := by
          rcases h7 with h7 | ⟨b', o', e', h7⟩
          · intro j x hj; rw [h7] at hj; simp at hj
          · injection e' with e'
            subst e'
            intro j x hj
            rw [addr_add]
            exact (h7 j x hj).1
        have hrun := run_append_grow (P := en.P) M.w t ty e i zv ht hi hzv ad n cap vs (by rw [hs]; exact hlv) holds ⟨b, off, none⟩ m c' vs' (by rw [hs]; exact hlv') hnews (by omega) (by omega) hfit
        obtain ⟨M', ex, g1, g2, g3, g4, g5⟩ := grow M.w.drew _ (grownCap M.w (n + m) cap e) rfl hdrew hge hcm (by have := harr (grownCap M.w (n + m) cap e - (n + m)); rw [show n + m + (grownCap M.w (n + m) cap e - (n + m)) = grownCap M.w (n + m) cap e by omega] at this; exact this) (hgetj _)
        exact ⟨_, M', ex, by rw [hrun, g1], g2, g3, g4, g5⟩
end

end Go.Proofs.YtllpobcecingiaaGreatDoor
