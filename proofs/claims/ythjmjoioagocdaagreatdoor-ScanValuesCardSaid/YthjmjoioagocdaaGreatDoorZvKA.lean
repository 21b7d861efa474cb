/-
  Lemmas, part K1: what the claim needs of the texts of wip/tpl.
-/
import Derived.Sort.Walk0
import Derived.Laws.Cells
import Derived.Test.YthjmjoioagocdaaGreatDoorZvPC
import Derived.Test.YthjmjoioagocdaaGreatDoorZvBA
section
set_option linter.unusedVariables false
set_option linter.unusedSimpArgs false
namespace Go.Proofs.YthjmjoioagocdaaGreatDoor
open Go.RowKit
def NGk : Nat := 2
theorem tabs_size {w : World} (h : Tabs w) : NGk ≤ w.heap.size := by
  have := (h.2 0 (by decide)).1
  exact World.block_lt_of_cell? w _ this
theorem wokk : WOK NGk Tabs := by
  intro w w' h hW
  have hc : ∀ (b o : Nat), b < NGk → w'.cell? ⟨b, o, none⟩ = w.cell? ⟨b, o, none⟩ := by
    intro b o hb
    unfold World.cell?
    simp only [h b hb]
  refine ⟨fun c hlt => ?_, fun i hi => ?_⟩
  · rw [hc _ _ (by decide)]; exact hW.1 c hlt
  · rw [hc _ _ (by decide), hc _ _ (by decide)]; exact hW.2 i hi
theorem cond_nat {R : Type} {b : Bool} {x : PV} {k : PV → Option R} : (bif b then k x else none) = (bif b then some x else none).bind k := by cases b <;> rfl
def p_valid : PFn := ⟨fun xs k => match xs with | [.str s] => bif decide (s.length ≤ 1000000) then k (.bool (Lib.validD s)) else none | _ => none, false⟩
theorem ok_valid : FOK NGk Tabs 135 p_valid := by
  refine fok_calls Tryz.func135 (by kernel_rfl) (by decide) ?_ rfl ?_
  · intro R xs k
    simp only [p_valid]
    split
    · exact cond_nat
    · rfl
  · intro xs r M vs hW h hr
    simp only [p_valid] at h
    split at h
    · rename_i s
      rcases hb : decide (s.length ≤ 1000000) with _ | _ <;> rw [hb] at h
      · cases h
      · simp only [cond_true, Option.some.injEq] at h
        subst h
        simp only [decide_eq_true_eq] at hb
        obtain ⟨v, rfl, h1⟩ := relT1 hr
        simp only [RelD] at h1
        subst h1
        refine (valid_any s M.w (by omega) hW).mono ?_
        rintro e w' ⟨rfl, hbl⟩
        exact ⟨_, rfl, hbl, fun U' _ => rfl⟩
    · cases h
def p_utf : PFn := p_valid
theorem ok_utf : FOK NGk Tabs 74 p_utf := by
  refine fok_calls Tryz.func74 (by kernel_rfl) (by decide) ?_ rfl ?_
  · intro R xs k
    simp only [p_utf, p_valid]
    split
    · exact cond_nat
    · rfl
  · intro xs r M vs hW h hr
    simp only [p_utf, p_valid] at h
    split at h
    · rename_i s
      rcases hb : decide (s.length ≤ 1000000) with _ | _ <;> rw [hb] at h
      · cases h
      · simp only [cond_true, Option.some.injEq] at h
        subst h
        simp only [decide_eq_true_eq] at hb
        obtain ⟨v, rfl, h1⟩ := relT1 hr
        simp only [RelD] at h1
        subst h1
        refine (utf_any s M.w (by omega)).mono ?_
        rintro e w' ⟨rfl, rfl⟩
        exact ⟨_, rfl, Below.refl _ _, fun U' _ => rfl⟩
    · cases h
def scB (s : Int) : Bool := decide (0 ≤ s) && decide (s ≤ 6)
def p_sc : PFn := ⟨fun xs k => match xs with | [.int .i64 s] => k (.bool (scB s)) | _ => none, false⟩
theorem sc_raw1 (l : List (FuncId × PFn)) (s : Int) (fuel : Nat) : prun (en l) ⟨[], []⟩ fuel false Tryz.f134 [.int .i64 s] = some (.bool (decide (0 ≤ s) && decide (s ≤ 6))) := by kernel_rfl
theorem sc_raw2 (l : List (FuncId × PFn)) (s : Int) (fuel : Nat) : prun (en l) ⟨[], []⟩ fuel false Tryz.f73 [.int .i64 s] = some (.bool (decide (0 ≤ s) && decide (s ≤ 6))) := by kernel_rfl
theorem ok_scR : FOK NGk Tabs 134 p_sc := by
  refine fok wokk allOK_nil (h := ⟨[], []⟩) Tryz.func134 rfl (by decide) ?_ ?_
  · intro R xs k
    simp only [p_sc]
    split <;> rfl
  · intro xs r h
    simp only [p_sc] at h
    split at h
    · exact ⟨0, (sc_raw1 [] _ 0).trans h⟩
    · cases h
theorem ok_scS : FOK NGk Tabs 73 p_sc := by
  refine fok wokk allOK_nil (h := ⟨[], []⟩) Tryz.func73 rfl (by decide) ?_ ?_
  · intro R xs k
    simp only [p_sc]
    split <;> rfl
  · intro xs r h
    simp only [p_sc] at h
    split at h
    · exact ⟨0, (sc_raw2 [] _ 0).trans h⟩
    · cases h
/-- is it a right value? -/
def rightB (a n c : Int) (s : List UInt8) : Bool :=
  bif a == 0 then n == 0 && (c == 0 && s == []) else
  bif a == 1 then (n == 0 || n == 1) && (c == 0 && s == []) else
  bif a == 2 then c == 0 && s == [] else
  bif a == 3 then s == [] && scB c else
  bif a == 4 then n == 0 && (c == 0 && (decide (s.length ≤ 200) && Lib.validD s)) else
  bif a == 5 then n == 0 && (c == 0 && decide (s.length ≤ 200)) else false
def utO {R : Type} (s : List UInt8) (k : Bool → Option R) : Option R := bif decide (s.length ≤ 1000000) then k (Lib.validD s) else none
noncomputable def lRight : List (FuncId × PFn) := [(134, p_sc), (135, p_valid)]
def eq4 (a a' n n' c c' : Int) (s s' : List UInt8) : Bool := a == a' && (n == n' && (c == c' && (s == s' && true)))
def rightBody (a n c : Int) (s : List UInt8) : Option PV :=
  bif a == 0 then some (.bool (eq4 a 0 n 0 c 0 s [])) else
  bif a == 1 then some (.bool (eq4 a 1 n (IntKind.i64.wrap (BitVec.ofInt IntKind.i64.bits n &&& BitVec.ofInt IntKind.i64.bits 1).toNat) c 0 s [])) else
  bif a == 2 then some (.bool (eq4 a 2 n n c 0 s [])) else
  bif a == 3 then bif eq4 a 3 n n c c s [] then some (.bool (scB c)) else some (.bool false) else
  bif a == 4 then bif eq4 a 4 n 0 c 0 s s && decide ((s.length : Int) ≤ 200) then utO s fun b => some (.bool b) else some (.bool false) else
  bif a == 5 then some (.bool (eq4 a 5 n 0 c 0 s s && decide ((s.length : Int) ≤ 200))) else some (.bool false)
theorem vright_raw (a n c : Int) (s : List UInt8) : prun (en lRight) ⟨[], []⟩ 0 false Tryz.f109 [.agg [.int .i64 a, .int .i64 n, .int .i64 c, .str s]] = rightBody a n c s := by kernel_rfl
theorem and_one (n : Int) : IntKind.i64.wrap (BitVec.ofInt IntKind.i64.bits n &&& BitVec.ofInt IntKind.i64.bits 1).toNat = n % 2 := by
  have h : (BitVec.ofInt IntKind.i64.bits n &&& BitVec.ofInt IntKind.i64.bits 1).toNat = (n % 2).toNat := by
    rw [BitVec.toNat_and]
    have h1 : (BitVec.ofInt IntKind.i64.bits 1).toNat = 1 := rfl
    have h2 : (BitVec.ofInt IntKind.i64.bits n).toNat = (n % 18446744073709551616).toNat := BitVec.toNat_ofInt ..
    rw [h1, h2, Nat.and_one_is_mod]
    omega
  rw [h, wrapI_of (by omega) (by omega)]
  omega
theorem right_body (a n c : Int) (s : List UInt8) (hs : s.length ≤ 1000000) : rightBody a n c s = some (.bool (rightB a n c s)) := by
  unfold rightBody rightB eq4
  simp only [Bool.and_true]
  have hl : decide ((s.length : Int) ≤ 200) = decide (s.length ≤ 200) := by congr 1; simp only [eq_iff_iff]; omega
  have hn : (n == n % 2) = (n == 0 || n == 1) := by
    rw [Bool.eq_iff_iff]
    simp only [Bool.or_eq_true, beq_iff_eq]
    omega
  rw [and_one, hn, hl]
  by_cases h0 : a = 0
  · subst h0; rfl
  · rw [show (a == 0) = false by simpa using h0]
    by_cases h1 : a = 1
    · subst h1; rfl
    · rw [show (a == 1) = false by simpa using h1]
      by_cases h2 : a = 2
      · subst h2; simp
      · rw [show (a == 2) = false by simpa using h2]
        by_cases h3 : a = 3
        · subst h3
          simp only [cond_false, cond_true, beq_self_eq_true, Bool.true_and]
          cases s == [] <;> rfl
        · rw [show (a == 3) = false by simpa using h3]
          by_cases h4 : a = 4
          · subst h4
            simp only [cond_false, cond_true, beq_self_eq_true, Bool.true_and, Bool.and_true]
            unfold utO
            rw [decide_eq_true hs]
            cases n == 0 <;> cases c == 0 <;> cases decide (s.length ≤ 200) <;> rfl
          · rw [show (a == 4) = false by simpa using h4]
            by_cases h5 : a = 5
            · subst h5
              simp only [cond_false, cond_true, beq_self_eq_true, Bool.true_and, Bool.and_true]
              cases n == 0 <;> cases c == 0 <;> rfl
            · rw [show (a == 5) = false by simpa using h5]; rfl
def p_rightV : PFn := ⟨fun xs k => match xs with | [.agg [.int .i64 a, .int .i64 n, .int .i64 c, .str s]] => bif decide (s.length ≤ 1000000) then k (.bool (rightB a n c s)) else none | _ => none, false⟩
theorem ok_rightV : FOK NGk Tabs 109 p_rightV := by
  refine fok wokk (allOK_cons ok_scR (allOK_cons ok_valid allOK_nil)) (h := ⟨[], []⟩) Tryz.func109 rfl (by decide) ?_ ?_
  · intro R xs k
    simp only [p_rightV]
    split
    · exact cond_nat
    · rfl
  · intro xs r h
    simp only [p_rightV] at h
    split at h
    · rename_i a n c s
      rcases hb : decide (s.length ≤ 1000000) with _ | _ <;> rw [hb] at h
      · cases h
      · simp only [decide_eq_true_eq] at hb
        exact ⟨0, (vright_raw a n c s).trans ((right_body a n c s hb).trans h)⟩
    · cases h
noncomputable def lRRight : List (FuncId × PFn) := [(73, p_sc), (74, p_utf)]
def rr4 (a n c : Int) (s : List UInt8) : Option PV :=
  bif !decide (200 < (s.length : Int)) && a == 4 then utO s fun b => bif !b then some (.bool false) else some (.bool (eq4 a a n 0 c 0 s s))
  else bif !decide (200 < (s.length : Int)) && a == 4 then none else bif decide (200 < (s.length : Int)) || (a == 4 && false) then some (.bool false) else some (.bool (eq4 a a n 0 c 0 s s))
def rrightBody (a n c : Int) (s : List UInt8) : Option PV :=
  bif a == 0 then some (.bool (eq4 a a n 0 c 0 s [])) else
  bif a == 1 then bif !(n == 0) && !(n == 1) then some (.bool false) else some (.bool (eq4 a a n n c 0 s [])) else
  bif a == 2 then some (.bool (eq4 a a n n c 0 s [])) else
  bif a == 3 then bif !scB c then some (.bool false) else some (.bool (eq4 a a n n c c s [])) else
  bif a == 4 then bif a == 4 then rr4 a n c s else some (.bool false) else
  bif a == 5 then rr4 a n c s else some (.bool false)
theorem rright_raw (a n c : Int) (s : List UInt8) : prun (en lRRight) ⟨[], []⟩ 0 false Tryz.f44 [.agg [.int .i64 a, .int .i64 n, .int .i64 c, .str s]] = rrightBody a n c s := by kernel_rfl
theorem rright_body (a n c : Int) (s : List UInt8) (hs : s.length ≤ 1000000) : rrightBody a n c s = some (.bool (rightB a n c s)) := by
  unfold rrightBody rightB rr4 utO eq4
  simp only [Bool.and_true]
  have hl : decide (200 < (s.length : Int)) = !decide (s.length ≤ 200) := by
    rw [Bool.eq_iff_iff]; simp; omega
  rw [hl, decide_eq_true hs]
  by_cases h0 : a = 0
  · subst h0; rfl
  · rw [show (a == 0) = false by simpa using h0]
    by_cases h1 : a = 1
    · subst h1
      simp only [cond_false, cond_true, beq_self_eq_true, Bool.true_and]
      cases n == 0 <;> cases n == 1 <;> rfl
    · rw [show (a == 1) = false by simpa using h1]
      by_cases h2 : a = 2
      · subst h2; simp
      · rw [show (a == 2) = false by simpa using h2]
        by_cases h3 : a = 3
        · subst h3
          simp only [cond_false, cond_true, beq_self_eq_true, Bool.true_and]
          cases s == [] <;> cases scB c <;> rfl
        · rw [show (a == 3) = false by simpa using h3]
          by_cases h4 : a = 4
          · subst h4
            simp only [cond_false, cond_true, beq_self_eq_true, Bool.true_and, Bool.and_true]
            cases n == 0 <;> cases c == 0 <;> cases decide (s.length ≤ 200) <;> cases Lib.validD s <;> rfl
          · rw [show (a == 4) = false by simpa using h4]
            by_cases h5 : a = 5
            · subst h5
              simp only [cond_false, cond_true, beq_self_eq_true, Bool.true_and, Bool.and_true]
              cases n == 0 <;> cases c == 0 <;> cases decide (s.length ≤ 200) <;> rfl
            · rw [show (a == 5) = false by simpa using h5]; rfl
theorem ok_rightR : FOK NGk Tabs 44 p_rightV := by
  refine fok wokk (allOK_cons ok_scS (allOK_cons ok_utf allOK_nil)) (h := ⟨[], []⟩) Tryz.func44 rfl (by decide) ?_ ?_
  · intro R xs k
    simp only [p_rightV]
    split
    · exact cond_nat
    · rfl
  · intro xs r h
    simp only [p_rightV] at h
    split at h
    · rename_i a n c s
      rcases hb : decide (s.length ≤ 1000000) with _ | _ <;> rw [hb] at h
      · cases h
      · simp only [decide_eq_true_eq] at hb
        exact ⟨0, (rright_raw a n c s).trans ((rright_body a n c s hb).trans h)⟩
    · cases h
/-- a value: its cells -/
def valA (a n c : Int) (s : List UInt8) : PV := .agg [.int .i64 a, .int .i64 n, .int .i64 c, .str s]
def plainA (a n c : Int) (s : List UInt8) : PV := valA (bif rightB a n c s then a else 0) (bif rightB a n c s then n else 0) (bif rightB a n c s then c else 0) (bif rightB a n c s then s else [])
theorem plain_raw (a n c : Int) (s : List UInt8) : prun (en [(44, p_rightV)]) ⟨[], []⟩ 0 false Tryz.f76 [.agg [.int .i64 a, .int .i64 n, .int .i64 c, .str s]] =
    bif decide (s.length ≤ 1000000) then bif rightB a n c s then some (valA a n c s) else some (valA 0 0 0 []) else none := by kernel_rfl
def p_plain : PFn := ⟨fun xs k => match xs with | [.agg [.int .i64 a, .int .i64 n, .int .i64 c, .str s]] => bif decide (s.length ≤ 1000000) then k (plainA a n c s) else none | _ => none, false⟩
theorem ok_plain : FOK NGk Tabs 76 p_plain := by
  refine fok wokk (allOK_cons ok_rightR allOK_nil) (h := ⟨[], []⟩) Tryz.func76 rfl (by decide) ?_ ?_
  · intro R xs k
    simp only [p_plain]
    split
    · exact cond_nat
    · rfl
  · intro xs r h
    simp only [p_plain] at h
    split at h
    · rename_i a n c s
      rcases hb : decide (s.length ≤ 1000000) with _ | _ <;> rw [hb] at h
      · cases h
      · refine ⟨0, (plain_raw a n c s).trans ?_⟩
        rw [hb, ← h]
        unfold plainA
        cases rightB a n c s <;> rfl
    · cases h
end Go.Proofs.YthjmjoioagocdaaGreatDoor
end
section
set_option linter.unusedVariables false
set_option linter.unusedSimpArgs false
namespace Go.Proofs.YthjmjoioagocdaaGreatDoor
open Go.RowKit
def bC (l : List UInt8) : List PV := l.map bytePV
/-- the bytes that cells are -/
def byC : List PV → Option (List UInt8)
  | [] => some []
  | .int .u8 d :: l => if 0 ≤ d ∧ d < 256 then (byC l).map fun t => UInt8.ofNat d.toNat :: t else none
  | _ => none
theorem byC_bC : ∀ (l : List UInt8), byC (bC l) = some l
  | [] => rfl
  | c :: l => by
    have hc := c.toNat_lt
    show (if 0 ≤ (c.toNat : Int) ∧ (c.toNat : Int) < 256 then (byC (bC l)).map fun t => UInt8.ofNat (c.toNat : Int).toNat :: t else none) = _
    rw [if_pos (by omega), byC_bC l]
    simp
theorem byC_inv : ∀ {c : List PV} {l : List UInt8}, byC c = some l → c = bC l
  | [], l, h => by simp [byC] at h; subst h; rfl
  | x :: c, l, h => by
    unfold byC at h
    split at h
    · rename_i e; cases e
    · rename_i d l' e
      injection e with e1 e2
      subst e1 e2
      split at h
      · rename_i hd
        obtain ⟨t, ht, rfl⟩ := Option.map_eq_some_iff.1 h
        rw [byC_inv ht]
        show PV.int .u8 d :: bC t = bytePV (UInt8.ofNat d.toNat) :: bC t
        congr 1
        unfold bytePV
        congr 1
        simp
        omega
      · cases h
    · cases h
/-- a slice of bytes -/
def decY (n : Nat) (c : List PV) : Option (List UInt8) := (byC c).bind fun l => if n = l.length then some l else none
theorem decY_bC (l : List UInt8) : decY l.length (bC l) = some l := by unfold decY; rw [byC_bC]; simp
theorem decY_inv {n : Nat} {c : List PV} {l : List UInt8} (h : decY n c = some l) : n = l.length ∧ c = bC l := by
  unfold decY at h
  obtain ⟨m, hm, h⟩ := Option.bind_eq_some_iff.1 h
  split at h
  · rename_i hl
    injection h with h
    subst h
    exact ⟨hl, byC_inv hm⟩
  · cases h
def roomY {R : Type} (l m : Nat) (x : Option R) : Option R := bif decide (l + m ≤ 9223372036854775807) && decide ((l + m) * 1 ≤ 140737488355328) then x else none
theorem roomY_eq {R : Type} {l m : Nat} {x : Option R} (h : l + m ≤ 1000000) : roomY l m x = x := by
  unfold roomY
  exact cond_t (by rw [decide_eq_true (by omega), decide_eq_true (by omega)]; rfl)
theorem pbytes_bC : ∀ (l : List UInt8), pbytes (bC l) = some l
  | [] => rfl
  | c :: l => by
    have hc := c.toNat_lt
    show pbytes (PV.int .u8 (c.toNat : Int) :: bC l) = _
    simp only [pbytes, pbytes_bC l]
    have : PV.asInt .u8 (PV.int .u8 (c.toNat : Int)) = some (c.toNat : Int) := rfl
    rw [this]
    simp
theorem bindY_nat {R : Type} {a : Option (List UInt8)} {g : List UInt8 → Bool} {v : List UInt8 → PV} {k : PV → Option R} :
    (a.bind fun A => bif g A then k (v A) else none) = (a.bind fun A => bif g A then some (v A) else none).bind k := by
  cases a with
  | none => rfl
  | some a => exact cond_nat
theorem bindY_inv {a : Option (List UInt8)} {g : List UInt8 → Bool} {v : List UInt8 → PV} {r : PV} (h : (a.bind fun A => bif g A then some (v A) else none) = some r) : ∃ A, a = some A ∧ g A = true ∧ r = v A := by
  obtain ⟨A, h1, h⟩ := Option.bind_eq_some_iff.1 h
  cases hg : g A <;> rw [hg] at h
  · cases h
  · injection h with h
    exact ⟨A, h1, hg, h.symm⟩
end Go.Proofs.YthjmjoioagocdaaGreatDoor
set_option linter.unusedVariables false
set_option linter.unusedSimpArgs false
namespace Go.Proofs.YthjmjoioagocdaaGreatDoor
open Go.RowKit
/-- bytes as a number, the greatest first -/
def be (l : List UInt8) : Nat := l.foldl (fun u c => u * 256 + c.toNat) 0
end Go.Proofs.YthjmjoioagocdaaGreatDoor
set_option linter.unusedVariables false
set_option linter.unusedSimpArgs false
namespace Go.Proofs.YthjmjoioagocdaaGreatDoor
open Go.RowKit
theorem clone_raw (v : Bool) (l0 : Nat) (c0 : List PV) : prun (en []) ⟨[], []⟩ 0 false Tryz.f80 [.sl (some v) 1 l0 c0] =
    bif v then some (.sl (some true) 1 0 []) else roomY 0 l0 (some (.sl ((some false).map (· && (l0 == 0))) 1 (0 + l0) ([] ++ c0))) := by kernel_rfl
def p_clone : PFn := ⟨fun xs k => match xs with | [.sl (some v) 1 n c] => (decY n c).bind fun l => bif decide (l.length ≤ 100000) then k (.sl (some v) 1 (bif v then 0 else l.length) (bC (bif v then [] else l))) else none | _ => none, false⟩
theorem ok_clone : FOK NGk Tabs 80 p_clone := by
  refine fok wokk allOK_nil (h := ⟨[], []⟩) Tryz.func80 rfl (by decide) ?_ ?_
  · intro R xs k
    simp only [p_clone]
    split
    · exact bindY_nat
    · rfl
  · intro xs r h
    simp only [p_clone] at h
    split at h
    · rename_i v n c
      obtain ⟨l, h1, hg, rfl⟩ := bindY_inv h
      obtain ⟨rfl, rfl⟩ := decY_inv h1
      simp only [decide_eq_true_eq] at hg
      refine ⟨0, (clone_raw v _ _).trans ?_⟩
      cases v
      · rw [cond_false, roomY_eq (by omega), Nat.zero_add]
        simp
      · rfl
    · cases h
end Go.Proofs.YthjmjoioagocdaaGreatDoor
set_option linter.unusedVariables false
set_option linter.unusedSimpArgs false
namespace Go.Proofs.YthjmjoioagocdaaGreatDoor
open Go.RowKit
def numI (a b : Int) : Int := bif decide (a < b) then -1 else bif decide (b < a) then 1 else 0
theorem numI_lt {a b : Int} (h : a < b) : numI a b = -1 := by unfold numI; rw [decide_eq_true h]; rfl
theorem numI_gt {a b : Int} (h : b < a) : numI a b = 1 := by unfold numI; rw [decide_eq_false (by omega), decide_eq_true h]; rfl
/-- how texts compare -/
def txtL : List UInt8 → List UInt8 → Int
  | [], [] => 0
  | [], _ :: _ => -1
  | _ :: _, [] => 1
  | a :: x, b :: y => bif a == b then txtL x y else numI (a.toNat : Int) (b.toNat : Int)
def ixS {R : Type} (s : List UInt8) (i : Int) (K : UInt8 → Option R) : Option R := bif decide (0 ≤ i) && decide (i < (s.length : Int)) then s[i.toNat]?.bind K else none
theorem ixS_eq {R : Type} {s : List UInt8} {i : Nat} {c : UInt8} {K : UInt8 → Option R} (h : s[i]? = some c) : ixS s (i : Int) K = K c := by
  have := (List.getElem?_eq_some_iff.1 h).1
  unfold ixS
  rw [cond_t (by rw [decide_eq_true (by omega), decide_eq_true (by omega)]; rfl), Int.toNat_natCast, h]
  rfl
end Go.Proofs.YthjmjoioagocdaaGreatDoor
set_option linter.unusedVariables false
set_option linter.unusedSimpArgs false
namespace Go.Proofs.YthjmjoioagocdaaGreatDoor
open Go.RowKit
abbrev V4 := Val
def V4.cs (v : Val) : List PV := [.int .i64 v.kind, .int .i64 v.n, .int .i64 v.scale, .str v.s]
def valsC (vs : List V4) : List PV := vs.flatMap V4.cs
theorem vals_at : ∀ {vs : List V4} {i : Nat} {v : V4}, vs[i]? = some v → ((valsC vs).drop (i * 4)).take 4 = V4.cs v
  | v :: vs, 0, w, h => by
    simp only [List.getElem?_cons_zero, Option.some.injEq] at h
    subst h
    rfl
  | v :: vs, i + 1, w, h => by
    simp only [List.getElem?_cons_succ] at h
    have ih := vals_at h
    have e : (valsC (v :: vs)).drop ((i + 1) * 4) = (valsC vs).drop (i * 4) := by
      show (V4.cs v ++ valsC vs).drop _ = _
      rw [show (i + 1) * 4 = (V4.cs v).length + i * 4 by simp only [V4.cs, List.length_cons, List.length_nil]; omega, ← List.drop_drop, List.drop_left]
    rw [e, ih]
def ixV {R : Type} (len : Nat) (c : List PV) (i : Int) (K : Int → Int → Int → List UInt8 → Option R) : Option R :=
  bif decide (0 ≤ i) && decide (i < (len : Int)) then
    ((c.drop (i.toNat * 4)).take 4).head?.bind fun v => (PV.asInt .i64 v).bind fun a => ((c.drop (i.toNat * 4)).take 4).tail.head?.bind fun v => (PV.asInt .i64 v).bind fun n =>
    ((c.drop (i.toNat * 4)).take 4).tail.tail.head?.bind fun v => (PV.asInt .i64 v).bind fun b => ((c.drop (i.toNat * 4)).take 4).tail.tail.tail.head?.bind fun v => v.asStr.bind fun s => K a n b s else none
theorem ixV_eq {R : Type} {vs : List V4} {i : Nat} {v : V4} {K : Int → Int → Int → List UInt8 → Option R} (h : vs[i]? = some v) : ixV vs.length (valsC vs) (i : Int) K = K v.kind v.n v.scale v.s := by
  have := (List.getElem?_eq_some_iff.1 h).1
  unfold ixV
  rw [cond_t (by rw [decide_eq_true (by omega), decide_eq_true (by omega)]; rfl), Int.toNat_natCast, vals_at h]
  rfl
end Go.Proofs.YthjmjoioagocdaaGreatDoor
set_option linter.unusedVariables false
set_option linter.unusedSimpArgs false
namespace Go.Proofs.YthjmjoioagocdaaGreatDoor
open Go.RowKit
/-- a function whose contract is known: it returns a value that may lie in new memory, and leaves what was there -/
theorem fok_new {NG : Nat} {W : World → Prop} {f : FuncId} {fn : Func} (hf : Tryz.prog.funcs[f]? = some fn) (hb : fn.body.isSome = true) (hname : fn.name ≠ "runtime.NumGoroutine") {p : PFn} (hn : p.nat) (ho : p.own = false)
    (hrun : ∀ (xs : List PV) (r : PV) (M : Mem) (vs : List Value), W M.w → p.F xs (R := PV) some = some r → RelT M xs vs → Calls Tryz.prog f vs.toArray M.w fun e w' => ∃ v, e = .returned v ∧ Below M.w.heap.size M.w w' ∧
      ∀ U', (∀ b o, M.w.heap.size ≤ b → o < 18446744073709551616 → o < U' b) → RelD ⟨w', U', M.y⟩ r v) : FOK NG W f p where
  nat := hn
  call := by
    intro M xs vs r hW hng hg hr hF
    have hb' : ¬ fn.body = none := by intro e; rw [e] at hb; cases hb
    refine .inr ⟨?_, (hrun xs r M vs hW hF hr).mono ?_⟩
    · show (callFunc f vs.toArray).run Tryz.prog M.w = _
      simp [callFunc, hf]
      rw [if_neg hname, if_neg hb']
    · rintro e w' ⟨v, rfl, h1, h2⟩
      refine ⟨v, rfl, fun b => if b < M.w.heap.size then M.U b else 18446744073709551616, Move.mk0 h1 fun b hb => if_pos hb, h2 _ ?_, fun h => by rw [ho] at h; cases h⟩
      intro b o hb ho
      rw [if_neg (by omega)]
      exact ho
theorem rel_bvs (M : Mem) : ∀ (l : List UInt8), RelL M (bC l) (bvs l)
  | [] => rfl
  | c :: l => by
    show RelL M (bytePV c :: bC l) (bv c :: bvs l)
    simp only [RelL, RelD]
    exact ⟨_, _, rfl, rfl, rfl, rel_bvs M l⟩
theorem rel_own {w' : World} {y : Handed} {U' : Nat → Nat} {B : Nat} {e : TypeId} {v : Value} {l : List UInt8} (h : w'.ownsRow B e 1 v l.length (bvs l)) (hU : ∀ b o, B ≤ b → o < 18446744073709551616 → o < U' b) :
    RelD ⟨w', U', y⟩ (.sl none 1 l.length (bC l)) v := by
  simp only [RelD]
  rcases h.2 with ⟨rfl, hx⟩ | ⟨g, cap, cur, rfl, hg, hh, hnc, hcm, hsz, ht⟩
  · have : l = [] := List.length_eq_zero_iff.1 hx
    subst this
    refine ⟨none, 0, [], rfl, Nat.le_refl _, Nat.zero_le _, ?_, fun _ => rfl, rfl, rfl, Or.inl rfl⟩
    intro b hb
    cases hb
  · have hlt := (h.lt g rfl).2
    refine ⟨_, cap, bvs l, rfl, hnc, hcm, ?_, ?_, ?_, rel_bvs _ l, Or.inr ⟨g, 0, rfl, fun j u hu => ⟨?_, ?_⟩⟩⟩
    · intro b hb; cases hb
    · intro e; cases e
    · simp [bC]
    · have := h.cells (g := g) rfl j u hu
      rw [← this]
      congr 1
      unfold Addr.add
      split <;> simp_all
    · refine hU g _ hg ?_
      have : j < (bvs l).length := (List.getElem?_eq_some_iff.1 hu).1
      rw [bvs_length] at this
      unfold maxLen at hcm
      omega
end Go.Proofs.YthjmjoioagocdaaGreatDoor
set_option linter.unusedVariables false
set_option linter.unusedSimpArgs false
namespace Go.Proofs.YthjmjoioagocdaaGreatDoor
open Go.RowKit
theorem relL_vals {M : Mem} : ∀ (vs : List Val) (us : List Value), RelL M (valsC vs) us → us = vcs vs
  | [], us, h => by
    have h : RelL M [] us := h
    simp only [RelL] at h
    exact h
  | v :: vs, us, h => by
    have h : RelL M (.int .i64 v.kind :: .int .i64 v.n :: .int .i64 v.scale :: .str v.s :: valsC vs) us := h
    simp only [RelL, RelD] at h
    obtain ⟨_, _, rfl, _, rfl, _, _, rfl, _, rfl, _, _, rfl, _, rfl, _, us', rfl, _, rfl, hq⟩ := h
    have e : us' = vcs vs := relL_vals vs us' hq
    rw [e]
    try rfl
theorem sl_vals {M : Mem} {nl : Option Bool} {vs : List Val} {v : Value} (h : RelD M (.sl nl 4 vs.length (valsC vs)) v) : ∃ A c, v = .slice A vs.length c ∧ Sl M.w 4 A vs.length c (vcs vs) := by
  simp only [RelD] at h
  obtain ⟨A, c, us, rfl, hnc, hcm, _, _, hl, hr, hx⟩ := h
  obtain rfl := relL_vals _ _ hr
  refine ⟨A, c, rfl, vcs_length vs, hnc, hcm, fun hn => ?_⟩
  rcases hx with hx | ⟨b, o, rfl, hc⟩
  · have := vcs_length vs
    rw [hx] at this
    simp only [List.length_nil] at this
    omega
  · refine ⟨b, o, rfl, ?_, fun j u hu => (hc j u hu).1⟩
    have h0 : 0 < (vcs vs).length := by rw [vcs_length]; omega
    have : (vcs vs)[0]? = some ((vcs vs)[0]'h0) := List.getElem?_eq_getElem h0
    exact World.block_lt_of_cell? M.w _ (hc 0 _ this).1
/-- the values that cells are -/
def vlC : List PV → Option (List Val)
  | [] => some []
  | .int .i64 a :: .int .i64 n :: .int .i64 c :: .str s :: l => (vlC l).map fun t => ⟨a, n, c, s⟩ :: t
  | _ => none
theorem vlC_vals : ∀ (vs : List Val), vlC (valsC vs) = some vs
  | [] => rfl
  | v :: vs => by
    show (vlC (valsC vs)).map (fun t => (⟨v.kind, v.n, v.scale, v.s⟩ : Val) :: t) = _
    rw [vlC_vals vs]; rfl
theorem vlC_inv : ∀ {c : List PV} {vs : List Val}, vlC c = some vs → c = valsC vs
  | c, vs, h => by
    unfold vlC at h
    split at h
    · injection h with h; subst h; rfl
    · rename_i a n b s l
      obtain ⟨t, ht, rfl⟩ := Option.map_eq_some_iff.1 h
      rw [vlC_inv ht]; rfl
    · cases h
def decV (n : Nat) (c : List PV) : Option (List Val) := (vlC c).bind fun vs => if n = vs.length then some vs else none
theorem decV_vals (vs : List Val) : decV vs.length (valsC vs) = some vs := by unfold decV; rw [vlC_vals]; simp
theorem decV_inv {n : Nat} {c : List PV} {vs : List Val} (h : decV n c = some vs) : n = vs.length ∧ c = valsC vs := by
  unfold decV at h
  obtain ⟨m, hm, h⟩ := Option.bind_eq_some_iff.1 h
  split at h
  · rename_i hl
    injection h with h
    subst h
    exact ⟨hl, vlC_inv hm⟩
  · cases h
def p_KeysPut : PFn := ⟨fun xs k => match xs with | [.sl _ 4 n c] => (decV n c).bind fun vs => bif decide (vs.length ≤ 100000) then k (.sl none 1 (encs vs).length (bC (encs vs))) else none | _ => none, false⟩
theorem ok_KeysPut : FOK NGk Tabs 49 p_KeysPut := by
  refine fok_new Tryz.func49 (by kernel_rfl) (by decide) ?_ rfl ?_
  · intro R xs k
    simp only [p_KeysPut]
    split
    · rename_i n c
      cases decV n c with
      | none => rfl
      | some vs => exact cond_nat
    · rfl
  · intro xs r M vs hW h hr
    simp only [p_KeysPut] at h
    split at h
    · rename_i nl n c
      obtain ⟨ws, h1, g⟩ := Option.bind_eq_some_iff.1 h
      obtain ⟨rfl, rfl⟩ := decV_inv h1
      rcases hb : decide (ws.length ≤ 100000) with _ | _ <;> rw [hb] at g
      · cases g
      · simp only [cond_true, Option.some.injEq] at g
        subst g
        simp only [decide_eq_true_eq] at hb
        obtain ⟨v, rfl, h2⟩ := relT1 hr
        obtain ⟨A, c, rfl, hs⟩ := sl_vals h2
        refine (keysPut_any M.w A ws.length c ws hs hb hW).mono ?_
        rintro e w' ⟨A', c', rfl, ho, _, hbl⟩
        exact ⟨_, rfl, hbl, fun U' hU => rel_own ho hU⟩
    · cases h
end Go.Proofs.YthjmjoioagocdaaGreatDoor
end
section
set_option linter.unusedVariables false
set_option linter.unusedSimpArgs false
namespace Go.Proofs.YthjmjoioagocdaaGreatDoor
open Go.RowKit
/-- two lists that differ at a place, where they compare as z says -/
def Dif (a b : List UInt8) (z : Int) : Prop := ∃ (p : List UInt8) (c d : UInt8) (t u : List UInt8), a = p ++ c :: t ∧ b = p ++ d :: u ∧ c ≠ d ∧ z = numI (c.toNat : Int) (d.toNat : Int)
theorem Dif.append {a b : List UInt8} {z : Int} (h : Dif a b z) (x y : List UInt8) : Dif (a ++ x) (b ++ y) z := by
  obtain ⟨p, c, d, t, u, rfl, rfl, h, hz⟩ := h
  exact ⟨p, c, d, t ++ x, u ++ y, by simp, by simp, h, hz⟩
theorem u8_ne_nat {c d : UInt8} (h : c ≠ d) : (c.toNat : Int) ≠ (d.toNat : Int) := fun e => h (UInt8.toNat_inj.1 (by omega))
theorem numI_ne {a b : Int} (h : a ≠ b) : numI a b ≠ 0 := by
  rcases Int.lt_trichotomy a b with h1 | h1 | h1
  · rw [numI_lt h1]; decide
  · exact absurd h1 h
  · rw [numI_gt h1]; decide
theorem Dif.ne {a b : List UInt8} {z : Int} (h : Dif a b z) : z ≠ 0 := by
  obtain ⟨p, c, d, t, u, rfl, rfl, h, rfl⟩ := h
  exact numI_ne (u8_ne_nat h)
theorem txt_pre : ∀ (p a b : List UInt8), txtL (p ++ a) (p ++ b) = txtL a b
  | [], _, _ => rfl
  | c :: p, a, b => by
    rw [List.cons_append, List.cons_append, txtL, beq_self_eq_true, cond_true, txt_pre p a b]
theorem Dif.txt {a b : List UInt8} {z : Int} (h : Dif a b z) : txtL a b = z := by
  obtain ⟨p, c, d, t, u, rfl, rfl, h, rfl⟩ := h
  rw [txt_pre, txtL, cond_f (by simpa using h)]
theorem Dif.take {a b : List UInt8} {z : Int} (h : Dif a b z) {k : Nat} (hk : k = min a.length b.length) : a.take k ≠ b.take k := by
  obtain ⟨p, c, d, t, u, rfl, rfl, h, rfl⟩ := h
  intro e
  have hlt : p.length < k := by rw [hk]; simp only [List.length_append, List.length_cons]; omega
  have e1 := congrArg (fun l : List UInt8 => l[p.length]?) e
  simp only [List.getElem?_take, if_pos hlt] at e1
  rw [List.getElem?_append_right (Nat.le_refl _), List.getElem?_append_right (Nat.le_refl _), Nat.sub_self] at e1
  simp only [List.getElem?_cons_zero, Option.some.injEq] at e1
  exact h e1
end Go.Proofs.YthjmjoioagocdaaGreatDoor
end
section
set_option linter.unusedVariables false
set_option linter.unusedSimpArgs false
namespace Go.Proofs.YthjmjoioagocdaaGreatDoor
open Go.RowKit
theorem bindV_nat {R : Type} {a : Option (List Val)} {g : List Val → Bool} {v : List Val → PV} {k : PV → Option R} :
    (a.bind fun A => bif g A then k (v A) else none) = (a.bind fun A => bif g A then some (v A) else none).bind k := by
  cases a with
  | none => rfl
  | some a => exact cond_nat
theorem bindV_inv {a : Option (List Val)} {g : List Val → Bool} {v : List Val → PV} {r : PV} (h : (a.bind fun A => bif g A then some (v A) else none) = some r) : ∃ A, a = some A ∧ g A = true ∧ r = v A := by
  obtain ⟨A, h1, h⟩ := Option.bind_eq_some_iff.1 h
  cases hg : g A <;> rw [hg] at h
  · cases h
  · injection h with h
    exact ⟨A, h1, hg, h.symm⟩
theorem val_rel (M : Mem) (a n c : Int) (s : List UInt8) : RelD M (.agg [.int .i64 a, .int .i64 n, .int .i64 c, .str s]) (.agg #[.int .i64 a, .int .i64 n, .int .i64 c, .string ⟨s.toArray⟩]) := by
  simp only [RelD, RelL]
  exact ⟨_, rfl, _, _, rfl, rfl, rfl, _, _, rfl, rfl, rfl, _, _, rfl, rfl, rfl, _, _, rfl, rfl, rfl, rfl⟩
def p_by8 : PFn := ⟨fun xs k => match xs with | [.int .i64 a] => k (.str (be8 a)) | _ => none, false⟩
theorem ok_by8 : FOK NGk Tabs 77 p_by8 := by
  refine fok_calls Tryz.func77 (by kernel_rfl) (by decide) ?_ rfl ?_
  · intro R xs k
    simp only [p_by8]
    split <;> rfl
  · intro xs r M vs hW h hr
    simp only [p_by8] at h
    split at h
    · rename_i a
      simp only [Option.some.injEq] at h
      subst h
      obtain ⟨v, rfl, h2⟩ := relT1 hr
      simp only [RelD] at h2
      subst h2
      refine (bytes8_any a M.w).mono ?_
      rintro e w' ⟨rfl, hbl⟩
      exact ⟨_, rfl, hbl, fun U' _ => rfl⟩
    · cases h
theorem right_B (v : Val) : rightB v.kind v.n v.scale v.s = right v := by
  unfold rightB right scB
  rw [Bool.eq_iff_iff]
  by_cases h0 : v.kind = 0
  · simp [h0, and_assoc]
  · rw [show (v.kind == 0) = false by simpa using h0, cond_false, if_neg h0]
    by_cases h1 : v.kind = 1
    · simp [h1, and_assoc]
    · rw [show (v.kind == 1) = false by simpa using h1, cond_false, if_neg h1]
      by_cases h2 : v.kind = 2
      · simp [h2, and_assoc]
      · rw [show (v.kind == 2) = false by simpa using h2, cond_false, if_neg h2]
        by_cases h3 : v.kind = 3
        · simp [h3, and_assoc]
        · rw [show (v.kind == 3) = false by simpa using h3, cond_false, if_neg h3]
          by_cases h4 : v.kind = 4
          · simp [h4, and_assoc]
          · rw [show (v.kind == 4) = false by simpa using h4, cond_false, if_neg h4]
            by_cases h5 : v.kind = 5
            · simp [h5, and_assoc]
            · simp [h5]
theorem plainA_cs (v : Val) : [PV.int .i64 (bif rightB v.kind v.n v.scale v.s then v.kind else 0), .int .i64 (bif rightB v.kind v.n v.scale v.s then v.n else 0), .int .i64 (bif rightB v.kind v.n v.scale v.s then v.scale else 0), .str (bif rightB v.kind v.n v.scale v.s then v.s else [])] = V4.cs (plain v) := by
  unfold plain
  rw [right_B]
  cases right v <;> rfl
def catO {R : Type} (x y : List UInt8) (k : Option R) : Option R := bif decide (x.length + y.length ≤ 9223372036854775807) then k else none
theorem catO_eq {R : Type} {x y : List UInt8} {k : Option R} (h : x.length + y.length ≤ 9223372036854775807) : catO x y k = k := cond_t (decide_eq_true h)
def u8w (x : Int) : UInt8 := UInt8.ofNat (IntKind.u8.wrap x).toNat
def hOn : Hints := ⟨[], [(1, ⟨[(3, false), (4, false), (5, false)], [3]⟩)]⟩
def frOn (a n c : Int) (s t : List UInt8) (i : Int) : St := frame 72 [(3, (.ptr 3 0, 0)), (4, (.str t, 0)), (5, (.int .i64 i, 0))] [(3, [(.int .i64 a, 0), (.int .i64 n, 0), (.int .i64 c, 0), (.str s, 0)])]
noncomputable def lOn : List (FuncId × PFn) := [(76, p_plain), (77, p_by8)]
noncomputable def onLoop (fu n : Nat) (st : St) : Option PV := loopF (en lOn) hOn fu false Tryz.f46 [1, 1, 1, 0, 1, 0, 1, 1, 1, 1, 1, 1, 1, 0, 0, 1, 0] 1 n st
def onBody (a n c : Int) (L : Option PV) : Option PV :=
  bif a == 1 then catO [u8w a] [u8w n] (some (.str [u8w a, u8w n])) else
  bif a == 2 then catO [u8w a] (be8 n) (some (.str (u8w a :: be8 n))) else
  bif a == 3 then catO [u8w a] [u8w c] (catO [u8w a, u8w c] (be8 n) (some (.str (u8w a :: u8w c :: be8 n)))) else
  bif a == 4 then bif a == 4 then L else some (.str [u8w a]) else bif a == 5 then L else some (.str [u8w a])
theorem on_raw (fu : Nat) (a n c : Int) (s : List UInt8) : prun (en lOn) hOn fu false Tryz.f46 [.agg [.int .i64 a, .int .i64 n, .int .i64 c, .str s]] =
    bif decide (s.length ≤ 1000000) then onBody (bif rightB a n c s then a else 0) (bif rightB a n c s then n else 0) (bif rightB a n c s then c else 0)
      (onLoop fu fu (frOn (bif rightB a n c s then a else 0) (bif rightB a n c s then n else 0) (bif rightB a n c s then c else 0) (bif rightB a n c s then s else []) [u8w (bif rightB a n c s then a else 0)] 0)) else none := by kernel_rfl
def cut1O {R : Type} (s : List UInt8) (i : Int) (K : List UInt8 → Option R) : Option R :=
  bif decide (0 ≤ IntKind.i64.wrap (i + 1)) && decide (IntKind.i64.wrap (i + 1) ≤ (s.length : Int)) then bif decide (0 ≤ i) && decide (i ≤ ((IntKind.i64.wrap (i + 1)).toNat : Int)) then K ((s.take (IntKind.i64.wrap (i + 1)).toNat).drop i.toNat) else none else none
theorem cut1O_eq {R : Type} {s : List UInt8} {i : Nat} {K : List UInt8 → Option R} (h : i < s.length) (hs : s.length ≤ 2000000) : cut1O s (i : Int) K = K [s[i]] := by
  unfold cut1O
  rw [wrapI_of (by omega) (by omega), cond_t (by rw [decide_eq_true (by omega), decide_eq_true (by omega)]; rfl), cond_t (by rw [decide_eq_true (by omega), decide_eq_true (by omega)]; rfl), show ((i : Int) + 1).toNat = i + 1 by omega, Int.toNat_natCast]
  congr 1
  rw [List.take_add_one, List.getElem?_eq_getElem h, Option.toList_some, List.drop_left' (by rw [List.length_take]; omega)]
theorem on_step (fu : Nat) (a n c : Int) (s t : List UInt8) (i : Int) (K : St → Option PV) :
    stepF (en lOn) hOn fu false Tryz.f46 [1, 1, 1, 0, 1, 0, 1, 1, 1, 1, 1, 1, 1, 0, 0, 1, 0] (frOn a n c s t i) (fun st => pnorm (hOn.loop.lookup 1) st K) =
    bif decide (i < (s.length : Int)) then cut1O s i fun y => catO t y (ixS s i fun d => bif (d.toNat : Int) == 0 then catO (t ++ y) [255] (K (frOn a n c s (t ++ y ++ [255]) (IntKind.i64.wrap (i + 1)))) else K (frOn a n c s (t ++ y) (IntKind.i64.wrap (i + 1))))
    else catO t [0, 1] (some (.str (t ++ [0, 1]))) := by kernel_rfl
theorem u8_zero (d : UInt8) : ((d.toNat : Int) == 0) = decide (d = 0) := by
  rw [Bool.eq_iff_iff]
  simp only [beq_iff_eq, decide_eq_true_eq]
  constructor
  · intro e; apply UInt8.toNat_inj.1; simp only [UInt8.reduceToNat]; omega
  · intro e; subst e; rfl
theorem on_loop (fu : Nat) (a n c : Int) (s : List UInt8) (hs : s.length ≤ 1000000) (t0 : List UInt8) (ht : t0.length ≤ 10) : ∀ (k i m : Nat), i + k = s.length → k < m →
    onLoop fu m (frOn a n c s (t0 ++ escTo (s.take i)) (i : Int)) = some (.str (t0 ++ escTo s ++ [0, 1]))
  | k, i, 0, _, h => by omega
  | 0, i, m + 1, hi, hn => by
    unfold onLoop
    have h2 := escTo_length (s.take i)
    rw [List.length_take] at h2
    rw [loopF_succ, on_step, cond_f (decide_eq_false (by omega)), catO_eq (by simp only [List.length_append, List.length_cons, List.length_nil]; omega), List.take_of_length_le (by omega)]
  | k + 1, i, m + 1, hi, hn => by
    unfold onLoop
    have hil : i < s.length := by omega
    have hc := List.getElem?_eq_getElem hil
    have h2 := escTo_length (s.take i)
    rw [List.length_take] at h2
    have ih := on_loop fu a n c s hs t0 ht k (i + 1) m (by omega) (by omega)
    unfold onLoop at ih
    rw [List.take_add_one, hc, Option.toList_some, escTo_append] at ih
    rw [loopF_succ, on_step, cond_t (decide_eq_true (by omega)), cut1O_eq hil (by omega), catO_eq (by simp only [List.length_append, List.length_cons, List.length_nil]; omega), ixS_eq hc, u8_zero, wrapI_of (by omega) (by omega)]
    by_cases h0 : s[i] = 0
    · rw [decide_eq_true h0, cond_true, catO_eq (by simp only [List.length_append, List.length_cons, List.length_nil]; omega)]
      rw [h0] at ih ⊢
      rw [← ih]
      simp [escTo]
    · rw [decide_eq_false h0, cond_false, ← ih]
      simp [escTo, h0]
theorem on_body (fu : Nat) (v : Val) (hr : right v = true) (hs : v.s.length ≤ 1000000) (hf : v.s.length < fu) : onBody v.kind v.n v.scale (onLoop fu fu (frOn v.kind v.n v.scale v.s [u8w v.kind] 0)) = some (.str (enc0 v)) := by
  have hL := on_loop fu v.kind v.n v.scale v.s hs [u8w v.kind] (by simp) v.s.length 0 fu (by omega) hf
  rw [show (([u8w v.kind] : List UInt8) ++ escTo (v.s.take 0)) = [u8w v.kind] by simp [escTo], show (((0 : Nat) : Int)) = 0 from rfl] at hL
  rw [hL]
  have hb8 := be8_length v.n
  unfold right at hr
  unfold onBody enc0
  split at hr
  · rename_i hk
    rw [hk]; rfl
  split at hr
  · rename_i hk
    simp only [decide_eq_true_eq] at hr
    rw [hk]
    obtain ⟨h, _, _⟩ := hr
    rcases h with h | h <;> rw [h] <;> rfl
  split at hr
  · rename_i hk
    rw [hk]
    refine (catO_eq (show ([u8w 2] : List UInt8).length + (be8 v.n).length ≤ _ by rw [hb8]; decide)).trans ?_
    rfl
  split at hr
  · rename_i hk
    simp only [decide_eq_true_eq] at hr
    rw [hk]
    refine (catO_eq (show ([u8w 3] : List UInt8).length + ([u8w v.scale] : List UInt8).length ≤ _ by simp)).trans ((catO_eq (show ([u8w 3, u8w v.scale] : List UInt8).length + (be8 v.n).length ≤ _ by rw [hb8]; simp)).trans ?_)
    have e : u8w v.scale = UInt8.ofNat v.scale.toNat := by unfold u8w; rw [IntKind.wrap_u8]; congr 2; omega
    rw [e]; rfl
  split at hr
  · rename_i hk
    rw [hk]; rfl
  split at hr
  · rename_i hk
    rw [hk]; rfl
  · cases hr
def p_One : PFn := ⟨fun xs k => match xs with | [.agg [.int .i64 a, .int .i64 n, .int .i64 c, .str s]] => bif decide (s.length ≤ 1000000) then k (.str (enc ⟨a, n, c, s⟩)) else none | _ => none, false⟩
theorem ok_One : FOK NGk Tabs 46 p_One := by
  refine fok wokk (allOK_cons ok_plain (allOK_cons ok_by8 allOK_nil)) (h := hOn) Tryz.func46 rfl (by decide) ?_ ?_
  · intro R xs k
    simp only [p_One]
    split
    · exact cond_nat
    · rfl
  · intro xs r h
    simp only [p_One] at h
    split at h
    · rename_i a n c s
      rcases hb : decide (s.length ≤ 1000000) with _ | _ <;> rw [hb] at h
      · cases h
      · refine ⟨1000001, (on_raw _ a n c s).trans ?_⟩
        rw [hb, ← h, cond_true, cond_true]
        simp only [decide_eq_true_eq] at hb
        have e := plainA_cs ⟨a, n, c, s⟩
        simp only [V4.cs, List.cons.injEq, PV.int.injEq, true_and, PV.str.injEq, and_true] at e
        obtain ⟨e1, e2, e3, e4⟩ := e
        rw [e1, e2, e3, e4]
        have hl : (plain ⟨a, n, c, s⟩).s.length ≤ 1000000 := by unfold plain; split; exact hb; simp [vnull]
        exact on_body 1000001 (plain ⟨a, n, c, s⟩) (right_plain _) hl (by omega)
    · cases h
/-- what comes of keys.Next -/
def nxA (r : Option (Val × List UInt8)) : Val := r.elim vnull (·.1)
def nxR (r : Option (Val × List UInt8)) : List UInt8 := r.elim [] (·.2)
def nxV (l : List UInt8) : PV :=
  .tuple [.agg [.int .i64 (nxA (nextV l)).kind, .int .i64 (nxA (nextV l)).n, .int .i64 (nxA (nextV l)).scale, .str (nxA (nextV l)).s], .sl none 1 (nxR (nextV l)).length (bC (nxR (nextV l))), .bool (nextV l).isSome]
def p_KeysNext : PFn := ⟨fun xs k => match xs with | [.sl _ 1 n c] => (decY n c).bind fun l => bif decide (l.length ≤ 1000000) then k (nxV l) else none | _ => none, false⟩
theorem sl_bytes {M : Mem} {nl : Option Bool} {l : List UInt8} {v : Value} (h : RelD M (.sl nl 1 l.length (bC l)) v) : ∃ A c, v = .slice A l.length c ∧ Sl M.w 1 A l.length c (bvs l) := by
  simp only [RelD] at h
  obtain ⟨A, c, us, rfl, hnc, hcm, _, _, hl, hr, hx⟩ := h
  have hus : us = bvs l := by
    clear hx hl hcm hnc
    induction l generalizing us with
    | nil => exact (by simpa only [bC, List.map_nil, RelL] using hr : us = [])
    | cons b l ih =>
      have hr : RelL M (bytePV b :: bC l) us := hr
      simp only [RelL, bytePV, RelD] at hr
      obtain ⟨u, us', rfl, _, rfl, h3⟩ := hr
      rw [ih us' h3]; rfl
  subst hus
  refine ⟨A, c, rfl, by rw [bvs_length]; omega, hnc, hcm, fun hn => ?_⟩
  rcases hx with hx | ⟨b, o, rfl, hc⟩
  · have := bvs_length l
    rw [hx] at this
    simp only [List.length_nil] at this
    omega
  · refine ⟨b, o, rfl, ?_, fun j u hu => (hc j u hu).1⟩
    have h0 : 0 < (bvs l).length := by rw [bvs_length]; omega
    have : (bvs l)[0]? = some ((bvs l)[0]'h0) := List.getElem?_eq_getElem h0
    exact World.block_lt_of_cell? M.w _ (hc 0 _ this).1
theorem rel_nil1 {M : Mem} : RelD M (.sl none 1 0 []) (.slice none 0 0) := by
  simp only [RelD]
  exact ⟨none, 0, [], rfl, Nat.le_refl _, Nat.zero_le _, fun b hb => (by cases hb), fun _ => rfl, rfl, rfl, Or.inl rfl⟩
theorem rel_next {M : Mem} {x : Val} {r : PV} {u : Value} {b : Bool} (h : RelD M r u) : RelD M (.tuple [.agg [.int .i64 x.kind, .int .i64 x.n, .int .i64 x.scale, .str x.s], r, .bool b]) (.tuple #[.agg #[.int .i64 x.kind, .int .i64 x.n, .int .i64 x.scale, .string ⟨x.s.toArray⟩], u, .bool b]) := by
  simp only [RelD, RelT, RelL]
  exact ⟨_, rfl, _, _, rfl, ⟨_, rfl, _, _, rfl, rfl, rfl, _, _, rfl, rfl, rfl, _, _, rfl, rfl, rfl, _, _, rfl, rfl, rfl, rfl⟩, _, _, rfl, h, _, _, rfl, rfl, rfl⟩
theorem ok_KeysNext : FOK NGk Tabs 116 p_KeysNext := by
  refine fok_new Tryz.func116 (by kernel_rfl) (by decide) ?_ rfl ?_
  · intro R xs k
    simp only [p_KeysNext]
    split
    · exact bindY_nat
    · rfl
  · intro xs r M vs hW h hr
    simp only [p_KeysNext] at h
    split at h
    · rename_i nl n c
      obtain ⟨l, h1, hg, rfl⟩ := bindY_inv h
      obtain ⟨rfl, rfl⟩ := decY_inv h1
      simp only [decide_eq_true_eq] at hg
      obtain ⟨v, rfl, h2⟩ := relT1 hr
      obtain ⟨A, c, rfl, hs⟩ := sl_bytes h2
      refine (keysNext_any M.w A l.length c l hs (by omega) hW).mono ?_
      rintro e w' ⟨hbl, he⟩
      unfold nxV
      rcases hn : nextV l with _ | ⟨x, rest⟩ <;> rw [hn] at he
      · simp only at he
        subst he
        exact ⟨_, rfl, hbl, fun U' hU => rel_next (x := vnull) (b := false) rel_nil1⟩
      · simp only at he
        obtain ⟨A', c', rfl, ho⟩ := he
        exact ⟨_, rfl, hbl, fun U' hU => rel_next (x := x) (b := true) (rel_own ho hU)⟩
    · cases h
end Go.Proofs.YthjmjoioagocdaaGreatDoor
end
section
set_option linter.unusedVariables false
set_option linter.unusedSimpArgs false
namespace Go.Proofs.YthjmjoioagocdaaGreatDoor
open Go.RowKit
theorem valsC_snoc (vs : List Val) (v : Val) : valsC vs ++ V4.cs v = valsC (vs ++ [v]) := by simp [valsC]
def roomV {R : Type} (l m : Nat) (x : Option R) : Option R := bif decide (l + m ≤ 9223372036854775807) && decide ((l + m) * 40 ≤ 140737488355328) then x else none
theorem roomV_eq {R : Type} {l m : Nat} {x : Option R} (h : l + m ≤ 2000000) : roomV l m x = x := by
  unfold roomV
  exact cond_t (by rw [decide_eq_true (by omega), decide_eq_true (by omega)]; rfl)
def nextO {R : Type} (n : Nat) (c : List PV) (K : List UInt8 → Option R) : Option R := (decY n c).bind fun l => bif decide (l.length ≤ 1000000) then K l else none
theorem nextO_eq {R : Type} {l : List UInt8} {K : List UInt8 → Option R} (h : l.length ≤ 1000000) : nextO l.length (bC l) K = K l := by
  unfold nextO
  rw [decY_bC]
  exact cond_t (decide_eq_true h)
def hGe : Hints := ⟨[], [(0, ⟨[(0, false), (4, true)], []⟩)]⟩
def frGe (n0 : Option Bool) (l0 : Nat) (c0 : List PV) (n4 : Option Bool) (l4 : Nat) (c4 : List PV) : St := frame 25 [(0, (.sl n0 1 l0 c0, 0)), (4, (.sl n4 4 l4 c4, 31))] []
noncomputable def lGe : List (FuncId × PFn) := [(116, p_KeysNext)]
noncomputable def geLoop (fu n : Nat) (st : St) : Option PV := loopF (en lGe) hGe fu false Tryz.f90 [1, 1, 0, 0] 0 n st
theorem ge_raw (fu : Nat) (n0 : Option Bool) (l0 : Nat) (c0 : List PV) : prun (en lGe) hGe fu false Tryz.f90 [.sl n0 1 l0 c0] = geLoop fu fu (frGe n0 l0 c0 (some true) 0 []) := by kernel_rfl
theorem ge_step (fu : Nat) (n0 : Option Bool) (l0 : Nat) (c0 : List PV) (n4 : Option Bool) (l4 : Nat) (c4 : List PV) (K : St → Option PV) :
    stepF (en lGe) hGe fu false Tryz.f90 [1, 1, 0, 0] (frGe n0 l0 c0 n4 l4 c4) (fun st => pnorm (hGe.loop.lookup 0) st K) =
    bif decide (0 < (l0 : Int)) then nextO l0 c0 fun l => bif !(nextV l).isSome then some (.tuple [.sl (some true) 4 0 [], .bool false]) else
      roomV l4 1 (K (frGe none (nxR (nextV l)).length (bC (nxR (nextV l))) (n4.map (· && false)) (l4 + 1) (c4 ++ [.int .i64 (nxA (nextV l)).kind, .int .i64 (nxA (nextV l)).n, .int .i64 (nxA (nextV l)).scale, .str (nxA (nextV l)).s])))
    else some (.tuple [.sl n4 4 l4 c4, .bool true]) := by kernel_rfl
/-- a list of values and whether there is one -/
def gtV (vs : List Val) (b : Bool) : PV := .tuple [.sl (some vs.isEmpty) 4 vs.length (valsC vs), .bool b]
theorem ge_loop (fu : Nat) : ∀ (k : Nat) (l : List UInt8) (n : Nat) (n0 : Option Bool) (acc : List Val), l.length ≤ k → k < n → k ≤ 1000000 → acc.length + k ≤ 1000000 →
    geLoop fu n (frGe n0 l.length (bC l) (some acc.isEmpty) acc.length (valsC acc)) = some (match getV l with | none => gtV [] false | some vs => gtV (acc ++ vs) true)
  | k, l, 0, _, _, _, h, _, _ => by omega
  | k, [], n + 1, n0, acc, hl, hn, hk, ha => by
    unfold geLoop
    rw [loopF_succ, ge_step, cond_f (decide_eq_false (by simp))]
    simp only [getV_nil, List.append_nil]
    rfl
  | 0, b :: l, n + 1, n0, acc, hl, hn, hk, ha => by simp at hl
  | k + 1, b :: l, n + 1, n0, acc, hl, hn, hk, ha => by
    unfold geLoop
    rw [loopF_succ, ge_step, cond_t (decide_eq_true (by simp only [List.length_cons]; omega)), nextO_eq (by omega), getV_step (by simp)]
    rcases hv : nextV (b :: l) with _ | ⟨x, r⟩
    · rfl
    · have hr := nextV_len hv
      simp only [Option.isSome_some, Bool.not_true, cond_false, nxR, nxA, Option.elim_some]
      rw [roomV_eq (by omega)]
      have e := valsC_snoc acc x
      unfold V4.cs at e
      rw [e]
      have ih := ge_loop fu k r n none (acc ++ [x]) (by simp only [List.length_cons] at hl hr; omega) (by omega) (by omega) (by simp; omega)
      unfold geLoop at ih
      rw [List.length_append, show (acc ++ [x]).isEmpty = false by cases acc <;> rfl] at ih
      simp only [Option.map_some, Bool.and_false]
      refine ih.trans ?_
      rcases getV r with _ | vs
      · rfl
      · simp only [Option.map_some, List.append_assoc, List.singleton_append]
def p_KeysGet : PFn := ⟨fun xs k => match xs with | [.sl _ 1 n c] => (decY n c).bind fun l => bif decide (l.length ≤ 1000000) then k (gtV ((getV l).getD []) (getV l).isSome) else none | _ => none, false⟩
theorem ok_lGe : AllOK NGk Tabs lGe := allOK_cons ok_KeysNext allOK_nil
theorem ok_KeysGet : FOK NGk Tabs 90 p_KeysGet := by
  refine fok wokk ok_lGe (h := hGe) Tryz.func90 rfl (by decide) ?_ ?_
  · intro R xs k
    simp only [p_KeysGet]
    split
    · exact bindY_nat
    · rfl
  · intro xs r h
    simp only [p_KeysGet] at h
    split at h
    · rename_i nl n c
      obtain ⟨l, h1, hg, rfl⟩ := bindY_inv h
      obtain ⟨rfl, rfl⟩ := decY_inv h1
      simp only [decide_eq_true_eq] at hg
      refine ⟨l.length + 1, (ge_raw _ nl _ _).trans ?_⟩
      refine (ge_loop (l.length + 1) l.length l _ nl [] (Nat.le_refl _) (by omega) hg (by simpa using hg)).trans ?_
      rcases getV l with _ | vs <;> rfl
    · cases h
def oneO {R : Type} (a n c : Int) (s : List UInt8) (K : List UInt8 → Option R) : Option R := bif decide (s.length ≤ 1000000) then K (enc ⟨a, n, c, s⟩) else none
def hRp : Hints := ⟨[], [(0, ⟨[(3, false), (6, false), (7, false), (8, false)], []⟩)]⟩
def frRp (s : List UInt8) (n0 : Option Bool) (l0 : Nat) (c0 : List PV) (L i : Int) : St := frame 18 [(3, (.str s, 0)), (6, (.sl n0 4 l0 c0, 0)), (7, (.int .i64 L, 0)), (8, (.int .i64 i, 0))] []
noncomputable def lRp : List (FuncId × PFn) := [(46, p_One)]
noncomputable def rpLoop (fu n : Nat) (st : St) : Option PV := loopF (en lRp) hRp fu false Tryz.f60 [1, 1, 0, 1, 0] 0 n st
theorem rp_raw (fu : Nat) (n0 : Option Bool) (l0 : Nat) (c0 : List PV) : prun (en lRp) hRp fu false Tryz.f60 [.sl n0 4 l0 c0] = rpLoop fu fu (frRp [] n0 l0 c0 (l0 : Int) 0) := by kernel_rfl
theorem rp_step (fu : Nat) (s : List UInt8) (n0 : Option Bool) (l0 : Nat) (c0 : List PV) (L i : Int) (K : St → Option PV) :
    stepF (en lRp) hRp fu false Tryz.f60 [1, 1, 0, 1, 0] (frRp s n0 l0 c0 L i) (fun st => pnorm (hRp.loop.lookup 0) st K) =
    bif decide (i < L) then ixV l0 c0 i fun a n b t => oneO a n b t fun y => catO s y (K (frRp (s ++ y) n0 l0 c0 L (IntKind.i64.wrap (i + 1)))) else some (.str s) := by kernel_rfl
theorem rp_loop (fu : Nat) (n0 : Option Bool) (vs : List Val) (hvs : vs.length ≤ 100000) (hs : ∀ v ∈ vs, v.s.length ≤ 1000000) : ∀ (k i n : Nat), i + k = vs.length → k < n →
    rpLoop fu n (frRp (encs (vs.take i)) n0 vs.length (valsC vs) (vs.length : Int) (i : Int)) = some (.str (encs vs))
  | k, i, 0, _, h => by omega
  | 0, i, n + 1, hi, hn => by
    unfold rpLoop
    rw [loopF_succ, rp_step, cond_f (decide_eq_false (by omega)), List.take_of_length_le (by omega)]
  | k + 1, i, n + 1, hi, hn => by
    unfold rpLoop
    have hc := List.getElem?_eq_getElem (l := vs) (i := i) (by omega)
    have hsv := hs vs[i] (List.getElem_mem _)
    have ih := rp_loop fu n0 vs hvs hs k (i + 1) n (by omega) (by omega)
    have e : encs (vs.take (i + 1)) = encs (vs.take i) ++ enc vs[i] := by
      rw [List.take_add_one, hc, Option.toList_some, encs, List.flatMap_append]
      simp [encs]
    rw [loopF_succ, rp_step, cond_t (decide_eq_true (by omega)), ixV_eq hc, oneO, cond_t (decide_eq_true hsv)]
    have h1 := encs_length (vs.take i)
    have h2 := enc_length vs[i]
    rw [List.length_take] at h1
    rw [catO_eq (by show (encs (vs.take i)).length + (enc vs[i]).length ≤ _; omega), wrapI_of (by omega) (by omega)]
    unfold rpLoop at ih
    rw [e] at ih
    exact ih
def p_RPut : PFn := ⟨fun xs k => match xs with | [.sl _ 4 n c] => (decV n c).bind fun vs => bif decide (vs.length ≤ 100000) && vs.all (fun v => decide (v.s.length ≤ 1000000)) then k (.str (encs vs)) else none | _ => none, false⟩
theorem ok_RPut : FOK NGk Tabs 60 p_RPut := by
  refine fok wokk (allOK_cons ok_One allOK_nil) (h := hRp) Tryz.func60 rfl (by decide) ?_ ?_
  · intro R xs k
    simp only [p_RPut]
    split
    · exact bindV_nat
    · rfl
  · intro xs r h
    simp only [p_RPut] at h
    split at h
    · rename_i nl n c
      obtain ⟨vs, h1, hg, rfl⟩ := bindV_inv h
      obtain ⟨rfl, rfl⟩ := decV_inv h1
      simp only [Bool.and_eq_true, decide_eq_true_eq, List.all_eq_true] at hg
      exact ⟨vs.length + 1, (rp_raw _ nl _ _).trans (rp_loop _ nl vs hg.1 hg.2 vs.length 0 _ (by omega) (by omega))⟩
    · cases h
def hSa : Hints := ⟨[], [(0, ⟨[(0, false), (1, false), (12, false), (13, false)], []⟩)]⟩
def frSa (n0 : Option Bool) (l0 : Nat) (c0 : List PV) (n1 : Option Bool) (l1 : Nat) (c1 : List PV) (L i : Int) : St :=
  frame 26 [(0, (.sl n0 4 l0 c0, 0)), (1, (.sl n1 4 l1 c1, 0)), (12, (.int .i64 L, 0)), (13, (.int .i64 i, 0))] []
noncomputable def saLoop (fu n : Nat) (st : St) : Option PV := loopF (en []) hSa fu false Tryz.f26 [1, 1, 0, 1, 0] 0 n st
theorem sa_raw (fu : Nat) (n0 : Option Bool) (l0 : Nat) (c0 : List PV) (n1 : Option Bool) (l1 : Nat) (c1 : List PV) : prun (en []) hSa fu false Tryz.f26 [.sl n0 4 l0 c0, .sl n1 4 l1 c1] =
    bif !((l0 : Int) == (l1 : Int)) then some (.bool false) else saLoop fu fu (frSa n0 l0 c0 n1 l1 c1 (l0 : Int) 0) := by kernel_rfl
theorem sa_step (fu : Nat) (n0 : Option Bool) (l0 : Nat) (c0 : List PV) (n1 : Option Bool) (l1 : Nat) (c1 : List PV) (L i : Int) (K : St → Option PV) :
    stepF (en []) hSa fu false Tryz.f26 [1, 1, 0, 1, 0] (frSa n0 l0 c0 n1 l1 c1 L i) (fun st => pnorm (hSa.loop.lookup 0) st K) =
    bif decide (i < L) then ixV l0 c0 i fun a n b s => ixV l1 c1 i fun a' n' b' s' => bif !eq4 a a' n n' b b' s s' then some (.bool false) else K (frSa n0 l0 c0 n1 l1 c1 L (IntKind.i64.wrap (i + 1)))
    else some (.bool true) := by kernel_rfl
theorem eq4_val (v u : Val) : eq4 v.kind u.kind v.n u.n v.scale u.scale v.s u.s = decide (v = u) := by
  unfold eq4
  rw [Bool.eq_iff_iff]
  simp only [Bool.and_eq_true, beq_iff_eq, and_true, decide_eq_true_eq]
  constructor
  · rintro ⟨h1, h2, h3, h4⟩; exact Val.ext' h1 h2 h3 h4
  · rintro rfl; exact ⟨rfl, rfl, rfl, rfl⟩
theorem sa_loop (fu : Nat) (n0 n1 : Option Bool) (vs us : List Val) (hl : vs.length = us.length) (h1 : vs.length ≤ 2000000) : ∀ (k i n : Nat), i + k = vs.length → k < n →
    saLoop fu n (frSa n0 vs.length (valsC vs) n1 us.length (valsC us) (vs.length : Int) (i : Int)) = some (.bool (decide (vs.drop i = us.drop i)))
  | k, i, 0, _, h => by omega
  | 0, i, n + 1, hi, hn => by
    unfold saLoop
    rw [loopF_succ, sa_step, cond_f (decide_eq_false (by omega)), List.drop_of_length_le (by omega), List.drop_of_length_le (by omega)]
    rfl
  | k + 1, i, n + 1, hi, hn => by
    unfold saLoop
    have hc := List.getElem?_eq_getElem (l := vs) (i := i) (by omega)
    have hd := List.getElem?_eq_getElem (l := us) (i := i) (by omega)
    have ih := sa_loop fu n0 n1 vs us hl h1 k (i + 1) n (by omega) (by omega)
    rw [loopF_succ, sa_step, cond_t (decide_eq_true (by omega)), ixV_eq hc, ixV_eq hd, eq4_val, wrapI_of (by omega) (by omega), List.drop_eq_getElem_cons (show i < vs.length by omega), List.drop_eq_getElem_cons (show i < us.length by omega)]
    by_cases hx : vs[i] = us[i]
    · rw [decide_eq_true hx, hx]
      unfold saLoop at ih
      refine ih.trans ?_
      simp only [List.cons.injEq, true_and]
    · rw [decide_eq_false hx]
      simp only [List.cons.injEq, hx, false_and, decide_false]
      rfl
def p_Same : PFn := ⟨fun xs k => match xs with | [.sl _ 4 n c, .sl _ 4 m d] => (decV n c).bind fun vs => (decV m d).bind fun us => bif decide (vs.length ≤ 2000000) then k (.bool (decide (vs = us))) else none | _ => none, false⟩
theorem ok_Same : FOK NGk Tabs 26 p_Same := by
  refine fok wokk allOK_nil (h := hSa) Tryz.func26 rfl (by decide) ?_ ?_
  · intro R xs k
    simp only [p_Same]
    split
    · rename_i n c _ m d
      cases decV n c with
      | none => rfl
      | some vs => exact bindV_nat (g := fun _ => decide (vs.length ≤ 2000000)) (v := fun us => .bool (decide (vs = us)))
    · rfl
  · intro xs r h
    simp only [p_Same] at h
    split at h
    · rename_i nl n c nl' m d
      obtain ⟨vs, h1, h⟩ := Option.bind_eq_some_iff.1 h
      obtain ⟨us, h2, hg, rfl⟩ := bindV_inv (g := fun _ => decide (vs.length ≤ 2000000)) (v := fun us => .bool (decide (vs = us))) h
      obtain ⟨rfl, rfl⟩ := decV_inv h1
      obtain ⟨rfl, rfl⟩ := decV_inv h2
      simp only [decide_eq_true_eq] at hg
      refine ⟨vs.length + 1, (sa_raw _ nl _ _ nl' _ _).trans ?_⟩
      by_cases hl : vs.length = us.length
      · rw [cond_f (by simp [hl])]
        exact (sa_loop _ nl nl' vs us hl hg vs.length 0 _ (by omega) (by omega)).trans rfl
      · rw [cond_t (by simp only [Bool.not_eq_true', beq_eq_false_iff_ne]; omega)]
        rw [decide_eq_false (fun e => hl (by rw [e]))]
    · cases h
def putO {R : Type} (n : Nat) (c : List PV) (K : List UInt8 → Option R) : Option R := (decV n c).bind fun vs => bif decide (vs.length ≤ 100000) then K (encs vs) else none
theorem putO_eq {R : Type} {vs : List Val} {K : List UInt8 → Option R} (h : vs.length ≤ 100000) : putO vs.length (valsC vs) K = K (encs vs) := by
  unfold putO; rw [decV_vals]; exact cond_t (decide_eq_true h)
end Go.Proofs.YthjmjoioagocdaaGreatDoor
end
section
set_option linter.unusedVariables false
set_option linter.unusedSimpArgs false
namespace Go.Proofs.YthjmjoioagocdaaGreatDoor
open Go.RowKit
theorem flat_at {α : Type} {f : α → List PV} {sz : Nat} (hf : ∀ x, (f x).length = sz) : ∀ {l : List α} {i : Nat} {x : α}, l[i]? = some x → ((l.flatMap f).drop (i * sz)).take sz = f x
  | y :: l, 0, x, h => by
    simp only [List.getElem?_cons_zero, Option.some.injEq] at h
    subst h
    rw [Nat.zero_mul, List.drop_zero, List.flatMap_cons, ← hf y, List.take_left]
  | y :: l, i + 1, x, h => by
    simp only [List.getElem?_cons_succ] at h
    rw [List.flatMap_cons, Nat.add_mul, Nat.one_mul, Nat.add_comm, ← List.drop_drop, ← hf y, List.drop_left, hf y]
    exact flat_at hf h
/-- the list that cells are -/
def decG {α : Type} (sz : Nat) (g : List PV → Option α) : Nat → List PV → Option (List α)
  | 0, [] => some []
  | 0, _ :: _ => none
  | n + 1, c => (g (c.take sz)).bind fun x => (decG sz g n (c.drop sz)).map (x :: ·)
theorem decG_of {α : Type} {sz : Nat} {g : List PV → Option α} {f : α → List PV} (hf : ∀ x, (f x).length = sz) (hg : ∀ x, g (f x) = some x) : ∀ (l : List α), decG sz g l.length (l.flatMap f) = some l
  | [] => rfl
  | x :: l => by
    rw [List.length_cons, List.flatMap_cons, decG, ← hf x, List.take_left, List.drop_left, hg x, hf x, Option.bind_some, decG_of hf hg l]
    rfl
theorem decG_inv {α : Type} {sz : Nat} {g : List PV → Option α} {f : α → List PV} (hg : ∀ c x, g c = some x → c = f x) : ∀ {n : Nat} {c : List PV} {l : List α}, decG sz g n c = some l → n = l.length ∧ c = l.flatMap f
  | 0, [], l, h => by injection h with h; subst h; exact ⟨rfl, rfl⟩
  | 0, _ :: _, l, h => by cases h
  | n + 1, c, l, h => by
    rw [decG] at h
    obtain ⟨x, h1, h2⟩ := Option.bind_eq_some_iff.1 h
    obtain ⟨t, h3, rfl⟩ := Option.map_eq_some_iff.1 h2
    obtain ⟨rfl, h4⟩ := decG_inv hg h3
    refine ⟨rfl, ?_⟩
    rw [List.flatMap_cons, ← hg _ _ h1, ← h4, List.take_append_drop]
theorem bindL_nat {α R : Type} {a : Option (List α)} {g : List α → Bool} {v : List α → PV} {k : PV → Option R} :
    (a.bind fun A => bif g A then k (v A) else none) = (a.bind fun A => bif g A then some (v A) else none).bind k := by
  cases a with
  | none => rfl
  | some a => simp only [Option.bind_some]; cases g a <;> rfl
theorem bindL_inv {α : Type} {a : Option (List α)} {g : List α → Bool} {v : List α → PV} {r : PV} (h : (a.bind fun A => bif g A then some (v A) else none) = some r) : ∃ A, a = some A ∧ g A = true ∧ r = v A := by
  obtain ⟨A, h1, h⟩ := Option.bind_eq_some_iff.1 h
  cases hg : g A <;> rw [hg] at h
  · cases h
  · injection h with h
    exact ⟨A, h1, hg, h.symm⟩
end Go.Proofs.YthjmjoioagocdaaGreatDoor
end
section
set_option linter.unusedVariables false
set_option linter.unusedSimpArgs false
namespace Go.Proofs.YthjmjoioagocdaaGreatDoor
open Go.RowKit
theorem lss_txt : ∀ (a b : List UInt8), Op.bytesLess a b = decide (txtL a b < 0)
  | [], [] => rfl
  | [], _ :: _ => rfl
  | _ :: _, [] => rfl
  | a :: x, b :: y => by
    rw [Op.bytesLess, lss_txt x y, txtL]
    by_cases e : a = b
    · subst e
      rw [beq_self_eq_true, cond_true]
      have : ¬ a < a := UInt8.lt_irrefl a
      simp [this]
    · rw [cond_f (by simpa using e)]
      have hb : (a == b) = false := by simpa using e
      have hne := u8_ne_nat e
      rw [hb, Bool.false_and, Bool.or_false]
      by_cases k : a < b
      · have : (a.toNat : Int) < (b.toNat : Int) := by have := UInt8.lt_iff_toNat_lt.1 k; omega
        rw [numI_lt this, decide_eq_true k]; rfl
      · have : ¬ (a.toNat : Int) < (b.toNat : Int) := fun e => k (UInt8.lt_iff_toNat_lt.2 (by omega))
        rw [numI_gt (by omega), decide_eq_false k]; rfl
def numV (n : Int) : Val := ⟨2, n, 0, []⟩
theorem Dif.lss {a b : List UInt8} {z : Int} (h : Dif a b z) : Op.bytesLess a b = decide (z < 0) := by rw [lss_txt, h.txt]
end Go.Proofs.YthjmjoioagocdaaGreatDoor
set_option linter.unusedVariables false
set_option linter.unusedSimpArgs false
set_option maxRecDepth 100000
namespace Go.Proofs.YthjmjoioagocdaaGreatDoor
open Go.RowKit
abbrev Cel := Int × Val
def Cel.vs (c : Cel) : List Value := .int .i64 c.1 :: c.2.cells
def ccs (l : List Cel) : List Value := l.flatMap Cel.vs
def celC (c : Cel) : List PV := .int .i64 c.1 :: V4.cs c.2
def celsC (l : List Cel) : List PV := l.flatMap celC
theorem celC_len (c : Cel) : (celC c).length = 5 := rfl
def celG : List PV → Option Cel
  | [.int .i64 j, .int .i64 a, .int .i64 n, .int .i64 c, .str s] => some (j, ⟨a, n, c, s⟩)
  | _ => none
theorem celG_of (c : Cel) : celG (celC c) = some c := rfl
theorem celG_inv (l : List PV) (c : Cel) (h : celG l = some c) : l = celC c := by
  unfold celG at h
  split at h
  · injection h with h; subst h; rfl
  · cases h
theorem ccs_length (l : List Cel) : (ccs l).length = l.length * 5 := by
  induction l with
  | nil => rfl
  | cons c l ih => rw [ccs, List.flatMap_cons, List.length_append, ← ccs, ih, List.length_cons]; simp only [Cel.vs, Val.cells, List.length_cons, List.length_nil]; omega
theorem ccs_get {l : List Cel} {k : Nat} {x : Cel} (hk : l[k]? = some x) : ∀ i, i < 5 → (ccs l)[k * 5 + i]? = x.vs[i]? := by
  induction l generalizing k with
  | nil => simp at hk
  | cons y l ih =>
    intro i hi
    rw [ccs, List.flatMap_cons, ← ccs]
    cases k with
    | zero =>
      simp only [List.getElem?_cons_zero, Option.some.injEq] at hk
      subst hk
      rw [List.getElem?_append_left (by simp only [Cel.vs, Val.cells, List.length_cons, List.length_nil]; omega), Nat.zero_mul, Nat.zero_add]
    | succ k =>
      rw [List.getElem?_append_right (by simp only [Cel.vs, Val.cells, List.length_cons, List.length_nil]; omega)]
      have := ih (by simpa using hk) i hi
      rw [← this]
      congr 1
      simp only [Cel.vs, Val.cells, List.length_cons, List.length_nil]
      omega
theorem relL_cels {M : Mem} : ∀ (l : List Cel) (us : List Value), RelL M (celsC l) us → us = ccs l
  | [], us, h => by
    have h : RelL M [] us := h
    simp only [RelL] at h
    exact h
  | c :: l, us, h => by
    have h : RelL M (.int .i64 c.1 :: .int .i64 c.2.kind :: .int .i64 c.2.n :: .int .i64 c.2.scale :: .str c.2.s :: celsC l) us := h
    simp only [RelL, RelD] at h
    obtain ⟨_, _, rfl, _, rfl, _, _, rfl, _, rfl, _, _, rfl, _, rfl, _, _, rfl, _, rfl, _, us', rfl, _, rfl, hq⟩ := h
    have e : us' = ccs l := relL_cels l us' hq
    rw [e]
    rfl
theorem sl_cels {M : Mem} {nl : Option Bool} {l : List Cel} {v : Value} (h : RelD M (.sl nl 5 l.length (celsC l)) v) : ∃ A c, v = .slice A l.length c ∧ Sl M.w 5 A l.length c (ccs l) := by
  simp only [RelD] at h
  obtain ⟨A, c, us, rfl, hnc, hcm, _, _, hl, hr, hx⟩ := h
  obtain rfl := relL_cels _ _ hr
  refine ⟨A, c, rfl, ccs_length l, hnc, hcm, fun hn => ?_⟩
  rcases hx with hx | ⟨b, o, rfl, hc⟩
  · have := ccs_length l
    rw [hx] at this
    simp only [List.length_nil] at this
    omega
  · refine ⟨b, o, rfl, ?_, fun j u hu => (hc j u hu).1⟩
    have h0 : 0 < (ccs l).length := by rw [ccs_length]; omega
    have : (ccs l)[0]? = some ((ccs l)[0]'h0) := List.getElem?_eq_getElem h0
    exact World.block_lt_of_cell? M.w _ (hc 0 _ this).1
/-- the first cell of a column -/
def colN (j : Int) : List Cel → Nat → Int
  | [], _ => -1
  | c :: l, i => if c.1 = j then (i : Int) else colN j l (i + 1)
def colV (l : List Cel) (j : Int) : Val :=
  match l with
  | [] => vnull
  | c :: l => if c.1 = j then c.2 else colV l j
theorem colN_at {j : Int} : ∀ (l : List Cel) (i k : Nat) (x : Cel), l[k]? = some x → x.1 = j → (∀ m y, m < k → l[m]? = some y → y.1 ≠ j) → colN j l i = ((i + k : Nat) : Int) ∧ colV l j = x.2
  | c :: l, i, 0, x, h, hx, _ => by
    simp only [List.getElem?_cons_zero, Option.some.injEq] at h
    subst h
    rw [colN, if_pos hx, colV, if_pos hx]
    exact ⟨rfl, rfl⟩
  | c :: l, i, k + 1, x, h, hx, hm => by
    have h0 := hm 0 c (by omega) rfl
    obtain ⟨e1, e2⟩ := colN_at l (i + 1) k x (by simpa using h) hx (fun m y hmk hy => hm (m + 1) y (by omega) (by simpa using hy))
    rw [colN, if_neg h0, colV, if_neg h0, e1, e2]
    exact ⟨by omega, rfl⟩
theorem colN_not {j : Int} : ∀ (l : List Cel) (i : Nat), (∀ (m : Nat) (y : Cel), l[m]? = some y → y.1 ≠ j) → colN j l i = -1 ∧ colV l j = vnull
  | [], _, _ => ⟨rfl, rfl⟩
  | c :: l, i, hm => by
    have h0 := hm 0 c rfl
    obtain ⟨e1, e2⟩ := colN_not l (i + 1) (fun m y hy => hm (m + 1) y (by simpa using hy))
    rw [colN, if_neg h0, colV, if_neg h0, e1, e2]
    exact ⟨rfl, rfl⟩
theorem Sl.cel {w : World} {A : Option Addr} {n c : Nat} {l : List Cel} (h : Sl w 5 A n c (ccs l)) {k : Nat} (hk : k < n) :
    ∃ b o x, A = some ⟨b, o, none⟩ ∧ b < w.heap.size ∧ l[k]? = some x ∧ ∀ i v, x.vs[i]? = some v → w.cell? ⟨b, o + k * 5 + i, none⟩ = some v := by
  obtain ⟨b, o, rfl, hlt, hc⟩ := h.at_ (by omega)
  have hlen : l.length = n := by have := h.len; rw [ccs_length] at this; omega
  have hx : l[k]? = some l[k] := by simp
  refine ⟨b, o, l[k], rfl, hlt, hx, fun i v hi => ?_⟩
  have hi5 : i < 5 := by
    have := (List.getElem?_eq_some_iff.1 hi).1
    simpa [Cel.vs, Val.cells] using this
  have := hc (k * 5 + i) v ((ccs_get hx i hi5).trans hi)
  rwa [← Nat.add_assoc] at this
/-- the closure: is a cell of the column? -/
theorem isCol_any (j : Int) (B : Nat) (W : World) (x : Cel) (hB : B < W.heap.size) (hc : W.cell? ⟨B, 0, none⟩ = some (.int .i64 j)) :
    Calls Tryz.prog 86 #[.agg #[.int .i64 x.1, .int .i64 x.2.kind, .int .i64 x.2.n, .int .i64 x.2.scale, .string ⟨x.2.s.toArray⟩], .pointer (some ⟨B, 0, none⟩)] W (Ret W (.bool (x.1 == j))) := by
  have hne : B ≠ W.heap.size := by omega
  obtain ⟨a, k, n, c, s⟩ := x
  show Calls Tryz.prog 86 #[.agg #[.int .i64 a, .int .i64 k, .int .i64 n, .int .i64 c, .string ⟨s.toArray⟩], .pointer (some ⟨B, 0, none⟩)] W (Ret W (.bool (a == j)))
  go_enter Tryz.func86, Tryz.ntmps86
  go_wp2
  all_goals (go_ret; exact ⟨by simp_all, (Below.refl _ W).alloc (Nat.le_refl _) _⟩)
set_option maxHeartbeats 2000000 in
theorem cellIdx_any (j : Int) (w : World) (A : Option Addr) (n c : Nat) (l : List Cel) (h : Sl w 5 A n c (ccs l)) (B : Nat) (hB : B < w.heap.size) (hcB : w.cell? ⟨B, 0, none⟩ = some (.int .i64 j)) :
    Calls Tryz.prog 85 #[.slice A n c, .func (.func 86) #[] #[.pointer (some ⟨B, 0, none⟩)]] w (Ret w (.int .i64 (colN j l 0))) := by
  obtain ⟨ANS, hA⟩ : ∃ r, colN j l 0 = r := ⟨_, rfl⟩
  rw [hA]
  have HA := hide hA
  have hn := h.nc
  have hm := h.cm
  unfold maxLen at hm
  have hlen : l.length = n := by have := h.len; rw [ccs_length] at this; omega
  have HLEN := hide hlen
  have hm' : (n : Int) ≤ 9223372036854775807 := by omega
  have HS := hide h
  have HB := hide hB
  have HC := hide hcB
  clear hlen h hA hm hn hcB
  have eg : ∀ args w, (callFunc 86 args).run Tryz.prog w = .ok (.enter 86 args) w := enters_of Tryz.func86 (by kernel_rfl) rfl
  go_enter Tryz.func85, Tryz.ntmps85
  go_wp2_with fail
  go_loopw [5, 8] (fun _ i wr => ∃ k : Nat, k ≤ n ∧ i = .int .i64 (k : Int) ∧ Below w.heap.size w wr ∧ Hid (∀ m y, m < k → l[m]? = some y → y.1 ≠ j)) (fun _ i _ => (n - (intOf i).toNat))
  case atStart => exact ⟨0, by omega, rfl, Below.refl _ _, hide (fun m y h => absurd h (by omega))⟩
  case round =>
    obtain ⟨k, hk, rfl, hb, hall⟩ := hrel
    have hbs := hb.size
    by_cases hlt : k < n
    · obtain ⟨b, o, x, rfl, hblt, hx, hcells⟩ := ((unhide HS).below hb (Nat.le_refl _)).cel hlt
      have hlt' : (k : Int) < n := by omega
      have p0 := hcells 0 _ rfl
      have p1 := hcells 1 _ rfl
      have p2 := hcells 2 _ rfl
      have p3 := hcells 3 _ rfl
      have p4 := hcells 4 _ rfl
      simp only [Nat.add_zero] at p0
      have hcall := isCol_any j B wr x (by have := unhide HB; omega) ((hb.cell (p := ⟨B, 0, none⟩) (unhide HB)).trans (unhide HC))
      have HX := hide hx
      clear hx hcells
      by_cases c1 : x.1 = j
      · rw [show (x.1 == j) = true by simpa using c1] at hcall
        have hend : ANS = (k : Int) := by
          rw [← unhide HA, (colN_at l 0 k x (unhide HX) c1 (unhide hall)).1, Nat.zero_add]
        subst hend
        clear c1
        go_wp2_with (go_at_fn 86; refine hcall.mono ?_; rintro e w1 ⟨rfl, hb1⟩)
        go_ret
        exact ⟨rfl, hb.trans (hb1.mono hbs)⟩
      · rw [show (x.1 == j) = false by simpa using c1] at hcall
        go_wp2_with (go_at_fn 86; refine hcall.mono ?_; rintro e w1 ⟨rfl, hb1⟩)
        go_roundw
        case rel => exact ⟨k + 1, by omega, by go_num, hb.trans (hb1.mono hbs), hide (fun m y hm hy => by
          by_cases e : m = k
          · subst e
            rw [unhide HX] at hy
            injection hy with hy
            subst hy
            exact c1
          · exact unhide hall m y (by omega) hy)⟩
        case measure => exact (by first | (simp [intOf]; done) | (simp [intOf]; omega))
    · have hge : (n : Int) ≤ (k : Int) := by omega
      have hend : ANS = -1 := by
        rw [← unhide HA]
        refine (colN_not l 0 (fun m y hy => unhide hall m y ?_ hy)).1
        have := (List.getElem?_eq_some_iff.1 hy).1
        have := unhide HLEN
        omega
      subst hend
      go_wp2_with fail
      go_ret
      exact ⟨rfl, hb⟩
/-- row.Get -/
theorem rowGet_any (w : World) (A : Option Addr) (n c : Nat) (l : List Cel) (j : Int) (h : Sl w 5 A n c (ccs l)) :
    Calls Tryz.prog 59 #[.slice A n c, .int .i64 j] w (Ret w (.agg #[.int .i64 (colV l j).kind, .int .i64 (colV l j).n, .int .i64 (colV l j).scale, .string ⟨(colV l j).s.toArray⟩])) := by
  have hlen : l.length = n := by have := h.len; rw [ccs_length] at this; omega
  have hn := h.nc
  have hm := h.cm
  unfold maxLen at hm
  have hi : ∀ (W : World) (B : Nat), Below w.heap.size w W → B < W.heap.size → W.cell? ⟨B, 0, none⟩ = some (.int .i64 j) → Calls Tryz.prog 85 #[.slice A n c, .func (.func 86) #[] #[.pointer (some ⟨B, 0, none⟩)]] W (Ret W (.int .i64 (colN j l 0))) :=
    fun W B hb hB hc => cellIdx_any j W A n c l (h.below hb (Nat.le_refl _)) B hB hc
  by_cases hx : ∃ (k : Nat) (x : Cel), l[k]? = some x ∧ x.1 = j ∧ ∀ m y, m < k → l[m]? = some y → y.1 ≠ j
  · obtain ⟨k, x, h1, h2, h3⟩ := hx
    obtain ⟨e1, e2⟩ := colN_at l 0 k x h1 h2 h3
    have hk : k < n := by
      have := (List.getElem?_eq_some_iff.1 h1).1
      omega
    rw [e2]
    simp only [e1, Nat.zero_add] at hi
    obtain ⟨b, o, y, rfl, hblt, hy, hcells⟩ := h.cel hk
    rw [h1] at hy
    injection hy with hy
    subst hy
    have p1 := hcells 1 _ rfl
    have p2 := hcells 2 _ rfl
    have p3 := hcells 3 _ rfl
    have p4 := hcells 4 _ rfl
    have hk' : (k : Int) < n := by omega
    have hk0 : ¬ ((k : Int) < 0) := by omega
    have HI := hide hi
    clear hcells h1 h2 h3 e1 e2 hi
    go_enter Tryz.func59, Tryz.ntmps59
    go_wp2_with (go_at_call 85; ((with_reducible refine (unhide HI _ _ ?_ ?_ ?_).mono ?_); (· exact ((Below.refl _ w).alloc (Nat.le_refl _) _).alloc (by simp) _); (· exact (by first | (simp; done) | (simp; omega))); (· exact (by first | (simp; done) | (simp [World.cell?]; done))); rintro e w1 ⟨rfl, hb⟩; have hbw : Below w.heap.size w w1 := (((Below.refl _ w).alloc (Nat.le_refl _) _).alloc (by simp) _).trans (hb.mono (by simp; omega)); obtain ⟨hb1, hb2, hb3⟩ := bcell hb; (try simp at hb3); clear hb; have q1 := (hbw.cell (p := ⟨b, o + k * 5 + 1, none⟩) hblt).trans p1; have q2 := (hbw.cell (p := ⟨b, o + k * 5 + 2, none⟩) hblt).trans p2; have q3 := (hbw.cell (p := ⟨b, o + k * 5 + 3, none⟩) hblt).trans p3; have q4 := (hbw.cell (p := ⟨b, o + k * 5 + 4, none⟩) hblt).trans p4))
    refine bodyPost_ret (v := .agg #[.int .i64 _, .int .i64 _, .int .i64 _, .string ⟨_⟩]) (by simp [results, Tryz.results59, go_sem, hb1, vnull]) rfl ⟨rfl, (((hbw.setCell (Nat.le_succ _) _).setCell (Nat.le_succ _) _).setCell (Nat.le_succ _) _).setCell (Nat.le_succ _) _⟩
  · have hnot : ∀ (m : Nat) (y : Cel), l[m]? = some y → y.1 ≠ j := by
      intro m
      induction m using Nat.strongRecOn with
      | ind m ih =>
        intro y hy he
        exact hx ⟨m, y, hy, he, fun m' y' hm' hy' => ih m' hm' y' hy'⟩
    obtain ⟨e1, e2⟩ := colN_not l 0 hnot
    rw [e2]
    simp only [e1] at hi
    have HI := hide hi
    clear hnot hx e1 e2 hi
    go_enter Tryz.func59, Tryz.ntmps59
    go_wp2_with (go_at_call 85; ((with_reducible refine (unhide HI _ _ ?_ ?_ ?_).mono ?_); (· exact ((Below.refl _ w).alloc (Nat.le_refl _) _).alloc (by simp) _); (· exact (by first | (simp; done) | (simp; omega))); (· exact (by first | (simp; done) | (simp [World.cell?]; done))); rintro e w1 ⟨rfl, hb⟩; have hbw : Below w.heap.size w w1 := (((Below.refl _ w).alloc (Nat.le_refl _) _).alloc (by simp) _).trans (hb.mono (by simp; omega)); obtain ⟨hb1, hb2, hb3⟩ := bcell hb; (try simp at hb3); clear hb))
    refine bodyPost_ret (v := .agg #[.int .i64 _, .int .i64 _, .int .i64 _, .string ⟨_⟩]) (by simp [results, Tryz.results59, go_sem, hb1, vnull]) rfl ⟨rfl, (((hbw.setCell (Nat.le_succ _) _).setCell (Nat.le_succ _) _).setCell (Nat.le_succ _) _).setCell (Nat.le_succ _) _⟩
end Go.Proofs.YthjmjoioagocdaaGreatDoor
set_option linter.unusedVariables false
set_option linter.unusedSimpArgs false
set_option maxRecDepth 100000
namespace Go.Proofs.YthjmjoioagocdaaGreatDoor
open Go.RowKit
def getC {R : Type} (n : Nat) (c : List PV) (j : Int) (K : Val → Option R) : Option R := (decG 5 celG n c).bind fun l => bif decide (l.length ≤ 1000000) then K (colV l j) else none
theorem getC_eq {R : Type} {l : List Cel} {j : Int} {K : Val → Option R} (h : l.length ≤ 1000000) : getC l.length (celsC l) j K = K (colV l j) := by
  unfold getC
  rw [celsC, decG_of celC_len celG_of]
  exact cond_t (decide_eq_true h)
def valP (v : Val) : PV := .agg [.int .i64 v.kind, .int .i64 v.n, .int .i64 v.scale, .str v.s]
def p_colV : PFn := ⟨fun xs k => match xs with | [.sl _ 5 n c, .int .i64 j] => (decG 5 celG n c).bind fun l => bif decide (l.length ≤ 1000000) then k (valP (colV l j)) else none | _ => none, false⟩
theorem p_colV_nat : p_colV.nat := by
  intro R xs k
  simp only [p_colV]
  split
  · exact bindL_nat
  · rfl
/-- the reference's -/
def ixC {R : Type} (len : Nat) (c : List PV) (i : Int) (K : Int → Int → Int → Int → List UInt8 → Option R) : Option R :=
  bif decide (0 ≤ i) && decide (i < (len : Int)) then
    ((c.drop (i.toNat * 5)).take 5).head?.bind fun v => (PV.asInt .i64 v).bind fun j => ((c.drop (i.toNat * 5)).take 5).tail.head?.bind fun v => (PV.asInt .i64 v).bind fun a =>
    ((c.drop (i.toNat * 5)).take 5).tail.tail.head?.bind fun v => (PV.asInt .i64 v).bind fun n => ((c.drop (i.toNat * 5)).take 5).tail.tail.tail.head?.bind fun v => (PV.asInt .i64 v).bind fun b =>
    ((c.drop (i.toNat * 5)).take 5).tail.tail.tail.tail.head?.bind fun v => v.asStr.bind fun s => K j a n b s else none
theorem ixC_eq {R : Type} {l : List Cel} {i : Nat} {x : Cel} {K : Int → Int → Int → Int → List UInt8 → Option R} (h : l[i]? = some x) : ixC l.length (celsC l) (i : Int) K = K x.1 x.2.kind x.2.n x.2.scale x.2.s := by
  have := (List.getElem?_eq_some_iff.1 h).1
  unfold ixC
  rw [cond_t (by rw [decide_eq_true (by omega), decide_eq_true (by omega)]; rfl), Int.toNat_natCast, celsC, flat_at celC_len h]
  rfl
def hRc : Hints := ⟨[], [(0, ⟨[(1, false), (4, false), (7, false), (8, false), (9, false)], [4]⟩)]⟩
def frRc (j : Int) (n0 : Option Bool) (l0 : Nat) (c0 : List PV) (L i : Int) : St := frame 21 [(1, (.int .i64 j, 0)), (4, (.ptr 4 0, 0)), (7, (.sl n0 5 l0 c0, 0)), (8, (.int .i64 L, 0)), (9, (.int .i64 i, 0))] [(4, [(.int .i64 0, 0), (.int .i64 0, 0), (.int .i64 0, 0), (.str [], 0)])]
noncomputable def rcLoop (fu n : Nat) (st : St) : Option PV := loopF (en []) hRc fu false Tryz.f54 [1, 0, 1, 0] 0 n st
theorem rcv_raw (fu : Nat) (n0 : Option Bool) (l0 : Nat) (c0 : List PV) (j : Int) : prun (en []) hRc fu false Tryz.f54 [.sl n0 5 l0 c0, .int .i64 j] = rcLoop fu fu (frRc j n0 l0 c0 (l0 : Int) 0) := prunN_eq.trans (by kernel_rfl)
theorem rcv_step (fu : Nat) (j : Int) (n0 : Option Bool) (l0 : Nat) (c0 : List PV) (L i : Int) (K : St → Option PV) :
    stepF (en []) hRc fu false Tryz.f54 [1, 0, 1, 0] (frRc j n0 l0 c0 L i) (fun st => pnorm (hRc.loop.lookup 0) st K) =
    bif decide (i < L) then ixC l0 c0 i fun q a n b s => bif q == j then some (.agg [.int .i64 a, .int .i64 n, .int .i64 b, .str s]) else K (frRc j n0 l0 c0 L (IntKind.i64.wrap (i + 1)))
    else some (.agg [.int .i64 0, .int .i64 0, .int .i64 0, .str []]) := by kernel_rfl
theorem rcv_loop (fu : Nat) (j : Int) (n0 : Option Bool) (l : List Cel) (hl : l.length ≤ 1000000) : ∀ (k i n : Nat), i + k = l.length → k < n → rcLoop fu n (frRc j n0 l.length (celsC l) (l.length : Int) (i : Int)) = some (valP (colV (l.drop i) j))
  | k, i, 0, _, h => by omega
  | 0, i, n + 1, hi, hn => by
    unfold rcLoop
    rw [loopF_succ, rcv_step, cond_f (decide_eq_false (by omega)), List.drop_of_length_le (by omega)]
    rfl
  | k + 1, i, n + 1, hi, hn => by
    unfold rcLoop
    have hc := List.getElem?_eq_getElem (l := l) (i := i) (by omega)
    have ih := rcv_loop fu j n0 l hl k (i + 1) n (by omega) (by omega)
    unfold rcLoop at ih
    rw [loopF_succ, rcv_step, cond_t (decide_eq_true (by omega)), ixC_eq hc, wrapI_of (by omega) (by omega), List.drop_eq_getElem_cons (show i < l.length by omega), colV]
    by_cases hx : l[i].1 = j
    · rw [cond_t (by simpa using hx), if_pos hx]; rfl
    · rw [cond_f (by simpa using hx), if_neg hx]
      exact ih
theorem ok_refGet : FOK NGk Tabs 54 p_colV := by
  refine fok wokk allOK_nil (h := hRc) Tryz.func54 rfl (by decide) p_colV_nat ?_
  intro xs r h
  simp only [p_colV] at h
  split at h
  · rename_i nl n c j
    obtain ⟨l, h1, hg, rfl⟩ := bindL_inv h
    obtain ⟨rfl, rfl⟩ := decG_inv celG_inv h1
    simp only [decide_eq_true_eq] at hg
    exact ⟨l.length + 1, (rcv_raw _ nl _ _ j).trans (rcv_loop _ j nl l hg l.length 0 _ (by omega) (by omega))⟩
  · cases h
def colC (l : List Int) : List PV := l.flatMap fun j => [.int .i64 j]
def intG : List PV → Option Int
  | [.int .i64 j] => some j
  | _ => none
theorem intG_inv (l : List PV) (j : Int) (h : intG l = some j) : l = [.int .i64 j] := by
  unfold intG at h
  split at h
  · injection h with h; subst h; rfl
  · cases h
def ixI {R : Type} (len : Nat) (c : List PV) (i : Int) (K : Int → Option R) : Option R :=
  bif decide (0 ≤ i) && decide (i < (len : Int)) then ((c.drop (i.toNat * 1)).take 1).head?.bind fun v => (PV.asInt .i64 v).bind K else none
theorem ixI_eq {R : Type} {l : List Int} {i : Nat} {x : Int} {K : Int → Option R} (h : l[i]? = some x) : ixI l.length (colC l) (i : Int) K = K x := by
  have := (List.getElem?_eq_some_iff.1 h).1
  unfold ixI
  rw [cond_t (by rw [decide_eq_true (by omega), decide_eq_true (by omega)]; rfl), Int.toNat_natCast, colC, flat_at (f := fun j => [PV.int .i64 j]) (sz := 1) (fun _ => rfl) h]
  rfl
def hVa : Hints := ⟨[], [(0, ⟨[(1, false), (5, true), (9, false), (10, false), (11, false)], []⟩)]⟩
def frVa (n1 : Option Bool) (l1 : Nat) (c1 : List PV) (n5 : Option Bool) (l5 : Nat) (c5 : List PV) (n9 : Option Bool) (l9 : Nat) (c9 : List PV) (L i : Int) : St :=
  frame 23 [(1, (.sl n1 5 l1 c1, 0)), (5, (.sl n5 4 l5 c5, 30)), (9, (.sl n9 1 l9 c9, 0)), (10, (.int .i64 L, 0)), (11, (.int .i64 i, 0))] []
def vaBody (l1 : Nat) (c1 : List PV) (n5 : Option Bool) (l5 : Nat) (c5 : List PV) (l9 : Nat) (c9 : List PV) (L i : Int) (G : Option Bool → Nat → List PV → Int → Option PV) : Option PV :=
  bif decide (i < L) then ixI l9 c9 i fun j => getC l1 c1 j fun v => roomV l5 1 (G (n5.map (· && false)) (l5 + 1) (c5 ++ V4.cs v) (IntKind.i64.wrap (i + 1))) else some (.sl n5 4 l5 c5)
def valsOf (cols : List Int) (l : List Cel) : List Val := cols.map (colV l)
noncomputable def lVr : List (FuncId × PFn) := [(54, p_colV)]
noncomputable def lVi : List (FuncId × PFn) := [(59, p_colV)]
noncomputable def vrLoop (own : Bool) (fu n : Nat) (st : St) : Option PV := loopF (en lVr) hVa fu own Tryz.f22 [1, 1, 0, 1, 0] 0 n st
theorem vr_raw (fu : Nat) (x0 : Int) (x1 : List UInt8) (n9 : Option Bool) (l9 : Nat) (c9 : List PV) (x3 : Bool) (x4 : Int) (n1 : Option Bool) (l1 : Nat) (c1 : List PV) :
    prun (en lVr) hVa fu true Tryz.f22 [.agg [.int .i64 x0, .str x1, .sl n9 1 l9 c9, .bool x3, .int .i64 x4], .sl n1 5 l1 c1] = vrLoop true fu fu (frVa n1 l1 c1 (some true) 0 [] n9 l9 c9 (l9 : Int) 0) := prunN_eq.trans (by kernel_rfl)
theorem vr_step (fu : Nat) (n1 : Option Bool) (l1 : Nat) (c1 : List PV) (n5 : Option Bool) (l5 : Nat) (c5 : List PV) (n9 : Option Bool) (l9 : Nat) (c9 : List PV) (L i : Int) (K : St → Option PV) :
    stepF (en lVr) hVa fu true Tryz.f22 [1, 1, 0, 1, 0] (frVa n1 l1 c1 n5 l5 c5 n9 l9 c9 L i) (fun st => pnorm (hVa.loop.lookup 0) st K) = vaBody l1 c1 n5 l5 c5 l9 c9 L i (fun a b c d => K (frVa n1 l1 c1 a b c n9 l9 c9 L d)) := by kernel_rfl
theorem va_loop (F : Nat → St → Option PV) (n1 : Option Bool) (cels : List Cel) (hcl : cels.length ≤ 1000000) (n9 : Option Bool) (cols : List Int) (hco : cols.length ≤ 1000000)
    (hF : ∀ n n5 l5 c5 (i : Int), F (n + 1) (frVa n1 cels.length (celsC cels) n5 l5 c5 n9 cols.length (colC cols) (cols.length : Int) i) = vaBody cels.length (celsC cels) n5 l5 c5 cols.length (colC cols) (cols.length : Int) i (fun a b c d => F n (frVa n1 cels.length (celsC cels) a b c n9 cols.length (colC cols) (cols.length : Int) d))) :
    ∀ (k i n : Nat), i + k = cols.length → k < n → F n (frVa n1 cels.length (celsC cels) (some ((cols.take i).isEmpty)) i (valsC (valsOf (cols.take i) cels)) n9 cols.length (colC cols) (cols.length : Int) (i : Int)) =
      some (.sl (some cols.isEmpty) 4 cols.length (valsC (valsOf cols cels)))
  | k, i, 0, _, h => by omega
  | 0, i, n + 1, hi, hn => by
    rw [hF]
    unfold vaBody
    rw [cond_f (decide_eq_false (by omega)), List.take_of_length_le (by omega), show i = cols.length by omega]
  | k + 1, i, n + 1, hi, hn => by
    have hc := List.getElem?_eq_getElem (l := cols) (i := i) (by omega)
    have ih := va_loop F n1 cels hcl n9 cols hco hF k (i + 1) n (by omega) (by omega)
    have e : valsOf (cols.take (i + 1)) cels = valsOf (cols.take i) cels ++ [colV cels cols[i]] := by
      unfold valsOf
      rw [List.take_add_one, hc, List.map_append]; rfl
    have e2 : (cols.take (i + 1)).isEmpty = false := by
      rw [List.take_add_one, hc]
      cases cols.take i <;> rfl
    rw [e, e2, ← valsC_snoc] at ih
    rw [hF]
    unfold vaBody
    rw [cond_t (decide_eq_true (by omega)), ixI_eq hc, getC_eq hcl, roomV_eq (by omega), wrapI_of (by omega) (by omega)]
    simp only [Option.map_some, Bool.and_false]
    exact ih
def valsK (n9 : Nat) (c9 : List PV) (n1 : Nat) (c1 : List PV) : Option (List Int × List Cel) := (decG 1 intG n9 c9).bind fun cols => (decG 5 celG n1 c1).bind fun l => if cols.length ≤ 1000000 ∧ l.length ≤ 1000000 then some (cols, l) else none
def valsR (p : List Int × List Cel) : PV := .sl (some p.1.isEmpty) 4 p.1.length (valsC (valsOf p.1 p.2))
def f_Values {R : Type} (xs : List PV) (k : PV → Option R) : Option R := match xs with | [.agg [.int .i64 _, .str _, .sl _ 1 n9 c9, .bool _, .int .i64 _], .sl _ 5 n1 c1] => (valsK n9 c9 n1 c1).bind fun p => k (valsR p) | _ => none
def p_Values : PFn := ⟨f_Values, false⟩
def p_ValuesO : PFn := ⟨f_Values, true⟩
theorem f_Values_nat : p_Values.nat := by
  intro R xs k
  simp only [p_Values, f_Values]
  split
  · cases valsK _ _ _ _ <;> rfl
  · rfl
theorem valsK_inv {n9 : Nat} {c9 : List PV} {n1 : Nat} {c1 : List PV} {p : List Int × List Cel} (h : valsK n9 c9 n1 c1 = some p) : n9 = p.1.length ∧ c9 = colC p.1 ∧ n1 = p.2.length ∧ c1 = celsC p.2 ∧ p.1.length ≤ 1000000 ∧ p.2.length ≤ 1000000 := by
  unfold valsK at h
  obtain ⟨cols, h1, h⟩ := Option.bind_eq_some_iff.1 h
  obtain ⟨l, h2, h⟩ := Option.bind_eq_some_iff.1 h
  split at h
  · rename_i hl
    injection h with h
    subst h
    obtain ⟨e1, e2⟩ := decG_inv intG_inv h1
    obtain ⟨e3, e4⟩ := decG_inv celG_inv h2
    exact ⟨e1, e2, e3, e4, hl⟩
  · cases h
theorem ok_ValuesO (hr : FOK NGk Tabs 54 p_colV) : FOK NGk Tabs 22 p_ValuesO := by
  refine fok wokk (allOK_cons hr allOK_nil) (h := hVa) Tryz.func22 rfl (by decide) f_Values_nat ?_
  intro xs r h
  simp only [p_ValuesO, f_Values] at h
  split at h
  · rename_i x0 x1 n9 l9 c9 x3 x4 n1 l1 c1
    obtain ⟨p, h1, h2⟩ := Option.bind_eq_some_iff.1 h
    injection h2 with h2
    subst h2
    obtain ⟨rfl, rfl, rfl, rfl, g1, g2⟩ := valsK_inv h1
    refine ⟨p.1.length + 1, (vr_raw _ x0 x1 n9 _ _ x3 x4 n1 _ _).trans ?_⟩
    exact va_loop (fun n st => vrLoop true (p.1.length + 1) n st) n1 p.2 g2 n9 p.1 g1 (fun n n5 l5 c5 i => by unfold vrLoop; rw [loopF_succ, vr_step]) p.1.length 0 _ (by omega) (by omega)
  · cases h
theorem fok_noown {NG : Nat} {W : World → Prop} {f : FuncId} {p : PFn} (hp : FOK NG W f p) : FOK NG W f ⟨p.F, false⟩ where
  nat := hp.nat
  call := by
    intro M xs vs r hW hng hg hr hF
    have k := hp.call M xs vs r hW hng hg hr hF
    refine k.imp ?_ ?_
    · rintro ⟨v, w', h1, U', h2, h3, _⟩
      exact ⟨v, w', h1, U', h2, h3, fun e => by cases e⟩
    · rintro ⟨h0, h1⟩
      refine ⟨h0, h1.mono ?_⟩
      rintro e w' ⟨v, h2, U', h3, h4, _⟩
      exact ⟨v, h2, U', h3, h4, fun e => by cases e⟩
theorem ok_Values (hr : FOK NGk Tabs 54 p_colV) : FOK NGk Tabs 22 p_Values := fok_noown (ok_ValuesO hr)
end Go.Proofs.YthjmjoioagocdaaGreatDoor
set_option linter.unusedVariables false
set_option linter.unusedSimpArgs false
set_option maxRecDepth 100000
namespace Go.Proofs.YthjmjoioagocdaaGreatDoor
open Go.RowKit
theorem nv_raw (n : Int) : prun (en []) ⟨[], []⟩ 0 false Tryz.f64 [.int .i64 n] = some (.agg [.int .i64 2, .int .i64 n, .int .i64 0, .str []]) := by kernel_rfl
def p_numV : PFn := ⟨fun xs k => match xs with | [.int .i64 n] => k (.agg [.int .i64 2, .int .i64 n, .int .i64 0, .str []]) | _ => none, false⟩
theorem ok_numV : FOK NGk Tabs 64 p_numV := by
  refine fok wokk allOK_nil (h := ⟨[], []⟩) Tryz.func64 rfl (by decide) ?_ ?_
  · intro R xs k
    simp only [p_numV]
    split <;> rfl
  · intro xs r h
    simp only [p_numV] at h
    split at h
    · exact ⟨0, (nv_raw _).trans h⟩
    · cases h
noncomputable def lBg : List (FuncId × PFn) := [(64, p_numV)]
def bgC (a b : Int) (c : List PV) : List PV := .int .i64 2 :: .int .i64 a :: .int .i64 0 :: .str [] :: .int .i64 2 :: .int .i64 b :: .int .i64 0 :: .str [] :: c
theorem bg_raw (a b : Int) (n2 : Option Bool) (l2 : Nat) (c2 : List PV) : prun (en lBg) ⟨[], []⟩ 0 true Tryz.f78 [.int .i64 a, .int .i64 b, .sl n2 4 l2 c2] =
    roomV 2 l2 (some (.sl (some false) 4 (2 + l2) (bgC a b c2))) := by kernel_rfl
def p_begin : PFn := ⟨fun xs k => match xs with | [.int .i64 a, .int .i64 b, .sl _ 4 n c] => bif decide (n ≤ 1000000) then k (.sl (some false) 4 (2 + n) (bgC a b c)) else none | _ => none, true⟩
theorem ok_begin : FOK NGk Tabs 78 p_begin := by
  refine fok wokk (allOK_cons ok_numV allOK_nil) (h := ⟨[], []⟩) Tryz.func78 rfl (by decide) ?_ ?_
  · intro R xs k
    simp only [p_begin]
    split
    · exact cond_nat
    · rfl
  · intro xs r h
    simp only [p_begin] at h
    split at h
    · rename_i a b nl n c
      rcases hb : decide (n ≤ 1000000) with _ | _ <;> rw [hb] at h
      · cases h
      · simp only [decide_eq_true_eq] at hb
        exact ⟨0, (bg_raw a b nl n c).trans ((roomV_eq (by omega)).trans h)⟩
    · cases h
theorem bgC_vals (a b : Int) (l : List Val) : bgC a b (valsC l) = valsC (numV a :: numV b :: l) := rfl
def p_Above : PFn := ⟨fun xs k => match xs with | [.sl _ 1 n c] => (decY n c).bind fun l => bif decide (l.length ≤ 1000000) then k (.sl none 1 (aboveL l).length (bC (aboveL l))) else none | _ => none, false⟩
theorem ok_Above : FOK NGk Tabs 50 p_Above := by
  refine fok_new Tryz.func50 (by kernel_rfl) (by decide) ?_ rfl ?_
  · intro R xs k
    simp only [p_Above]
    split
    · exact bindY_nat
    · rfl
  · intro xs r M vs hW h hr
    simp only [p_Above] at h
    split at h
    · rename_i nl n c
      obtain ⟨l, h1, hg, rfl⟩ := bindY_inv h
      obtain ⟨rfl, rfl⟩ := decY_inv h1
      simp only [decide_eq_true_eq] at hg
      obtain ⟨v, rfl, h2⟩ := relT1 hr
      obtain ⟨A, c, rfl, hs⟩ := sl_bytes h2
      refine (keysAbove_any M.w A l.length c l hs hg).mono ?_
      rintro e w' ⟨A', c', rfl, ho, _, hbl⟩
      exact ⟨_, rfl, hbl, fun U' hU => rel_own ho hU⟩
    · cases h
def abO {R : Type} (n : Nat) (c : List PV) (K : List UInt8 → Option R) : Option R := (decY n c).bind fun l => bif decide (l.length ≤ 1000000) then K (aboveL l) else none
theorem abO_eq {R : Type} {l : List UInt8} {K : List UInt8 → Option R} (h : l.length ≤ 1000000) : abO l.length (bC l) K = K (aboveL l) := by
  unfold abO; rw [decY_bC]; exact cond_t (decide_eq_true h)
theorem sp_raw (s : List UInt8) : prun (en [(50, p_Above)]) ⟨[], []⟩ 0 false Tryz.f63 [.str s] =
    bif decide (s.length ≤ 9223372036854775807) then abO s.length (bC s) fun a => (pbytes (bC a)).bind fun t => some (.tuple [.str s, .str t]) else none := by kernel_rfl
def p_span : PFn := ⟨fun xs k => match xs with | [.str s] => bif decide (s.length ≤ 1000000) then k (.tuple [.str s, .str (aboveL s)]) else none | _ => none, false⟩
theorem ok_span : FOK NGk Tabs 63 p_span := by
  refine fok wokk (allOK_cons ok_Above allOK_nil) (h := ⟨[], []⟩) Tryz.func63 rfl (by decide) ?_ ?_
  · intro R xs k
    simp only [p_span]
    split
    · exact cond_nat
    · rfl
  · intro xs r h
    simp only [p_span] at h
    split at h
    · rename_i s
      rcases hb : decide (s.length ≤ 1000000) with _ | _ <;> rw [hb] at h
      · cases h
      · simp only [decide_eq_true_eq] at hb
        refine ⟨0, (sp_raw s).trans ?_⟩
        rw [cond_t (decide_eq_true (by omega)), abO_eq hb, pbytes_bC]
        exact h
    · cases h
def bgO {R : Type} (n : Nat) (k : Option R) : Option R := bif decide (n ≤ 1000000) then k else none
noncomputable def lSp : List (FuncId × PFn) := [(78, p_begin), (49, p_KeysPut), (63, p_span)]
def spO {R : Type} (s : List UInt8) (K : List UInt8 → Option R) : Option R := bif decide (s.length ≤ 1000000) then K (aboveL s) else none
theorem ss_raw (t x0 : Int) (n2 : Option Bool) (l2 : Nat) (c2 : List PV) : prun (en lSp) ⟨[], []⟩ 0 false Tryz.f48 [.int .i64 t, .int .i64 x0, .sl n2 4 l2 c2] =
    bgO l2 (putO (2 + l2) (bgC t x0 c2) fun y => (pbytes (bC y)).bind fun s => catO [105] s (spO (105 :: s) fun a => some (.tuple [.str (105 :: s), .str a]))) := by kernel_rfl
def fromL (t x0 : Int) (l : List Val) : List UInt8 := 105 :: encs (numV t :: numV x0 :: l)
def p_Span : PFn := ⟨fun xs k => match xs with | [.int .i64 t, .int .i64 x0, .sl _ 4 n c] => (decV n c).bind fun l => bif decide (l.length ≤ 1000) then k (.tuple [.str (fromL t x0 l), .str (aboveL (fromL t x0 l))]) else none | _ => none, false⟩
theorem ok_Span : FOK NGk Tabs 48 p_Span := by
  refine fok wokk (allOK_cons ok_begin (allOK_cons ok_KeysPut (allOK_cons ok_span allOK_nil))) (h := ⟨[], []⟩) Tryz.func48 rfl (by decide) ?_ ?_
  · intro R xs k
    simp only [p_Span]
    split
    · exact bindV_nat
    · rfl
  · intro xs r h
    simp only [p_Span] at h
    split at h
    · rename_i t x0 nl n c
      obtain ⟨l, h1, hg, rfl⟩ := bindV_inv h
      obtain ⟨rfl, rfl⟩ := decV_inv h1
      simp only [decide_eq_true_eq] at hg
      refine ⟨0, (ss_raw t x0 nl _ _).trans ?_⟩
      have hle := encs_length (numV t :: numV x0 :: l)
      have el : 2 + l.length = (numV t :: numV x0 :: l).length := by simp only [List.length_cons]; omega
      rw [bgO, cond_t (decide_eq_true (by omega)), bgC_vals, el, putO_eq (by rw [← el]; omega), pbytes_bC]
      simp only [Option.bind_some]
      rw [← el] at hle
      rw [catO_eq (by simp only [List.length_cons, List.length_nil]; omega), spO, cond_t (decide_eq_true (by simp only [List.length_cons]; omega))]
      rfl
    · cases h
def hSm : Hints := ⟨[], [(2, ⟨[(10, false), (11, false), (12, false), (21, false), (22, false), (23, false)], []⟩), (0, ⟨[(10, false), (11, false), (12, false)], []⟩)]⟩
end Go.Proofs.YthjmjoioagocdaaGreatDoor
set_option linter.unusedVariables false
set_option linter.unusedSimpArgs false
set_option maxRecDepth 100000
namespace Go.Proofs.YthjmjoioagocdaaGreatDoor
open Go.RowKit
/-- row.Get by its walk -/
theorem ok_rowGet : FOK NGk Tabs 59 p_colV := by
  refine fok_calls Tryz.func59 (by kernel_rfl) (by decide) p_colV_nat rfl ?_
  intro xs r M vs hW h hr
  simp only [p_colV] at h
  split at h
  · rename_i nl n c j
    obtain ⟨l, h1, hg, rfl⟩ := bindL_inv h
    obtain ⟨rfl, rfl⟩ := decG_inv celG_inv h1
    obtain ⟨v, u, rfl, h2, h3⟩ := relT2 hr
    simp only [RelD] at h3
    subst h3
    obtain ⟨A, c, rfl, hs⟩ := sl_cels h2
    refine (rowGet_any M.w A l.length c l j hs).mono ?_
    rintro e w' ⟨rfl, hbl⟩
    exact ⟨_, rfl, hbl, fun U' _ => val_rel _ _ _ _ _⟩
  · cases h
end Go.Proofs.YthjmjoioagocdaaGreatDoor
set_option linter.unusedVariables false
set_option linter.unusedSimpArgs false
set_option maxRecDepth 100000
namespace Go.Proofs.YthjmjoioagocdaaGreatDoor
open Go.RowKit
theorem fok_at {NG : Nat} {W : World → Prop} {f : FuncId} {p q : PFn} (hp : FOK NG W f p) (hn : q.nat) (ho : q.own = false) (h : ∀ xs r, q.F xs (R := PV) some = some r → p.F xs (R := PV) some = some r) : FOK NG W f q where
  nat := hn
  call := by
    intro M xs vs r hW hng hg hr hF
    have k := hp.call M xs vs r hW hng hg hr (h xs r hF)
    refine k.imp ?_ ?_
    · rintro ⟨v, w', h1, U', h2, h3, _⟩
      exact ⟨v, w', h1, U', h2, h3, fun e => by rw [ho] at e; cases e⟩
    · rintro ⟨h0, h1⟩
      refine ⟨h0, h1.mono ?_⟩
      rintro e w' ⟨v, h2, U', h3, h4, _⟩
      exact ⟨v, h2, U', h3, h4, fun e => by rw [ho] at e; cases e⟩
abbrev Rw := Int × Option Bool × List Cel
def rwC (r : Rw) : List PV := [.int .i64 r.1, .sl r.2.1 5 r.2.2.length (celsC r.2.2)]
def rwG : List PV → Option Rw
  | [.int .i64 i, .sl nl 5 n c] => (decG 5 celG n c).map fun l => (i, nl, l)
  | _ => none
theorem rwG_of (r : Rw) : rwG (rwC r) = some r := by
  obtain ⟨i, nl, l⟩ := r
  show (decG 5 celG l.length (celsC l)).map _ = _
  rw [celsC, decG_of celC_len celG_of]; rfl
theorem rwG_inv (c : List PV) (r : Rw) (h : rwG c = some r) : c = rwC r := by
  unfold rwG at h
  split at h
  · obtain ⟨l, h1, rfl⟩ := Option.map_eq_some_iff.1 h
    obtain ⟨rfl, rfl⟩ := decG_inv celG_inv h1
    rfl
  · cases h
theorem rwC_len (r : Rw) : (rwC r).length = 2 := rfl
def ixR {R : Type} (len : Nat) (c : List PV) (i : Int) (K : Option Bool → Nat → List PV → Option R) : Option R :=
  bif decide (0 ≤ i) && decide (i < (len : Int)) then ((c.drop (i.toNat * 2)).take 2).head?.bind fun v => (PV.asInt .i64 v).bind fun _ => ((c.drop (i.toNat * 2)).take 2).tail.head?.bind fun v => (PV.asSl 5 v).bind fun v => K v.1 v.2.1 v.2.2 else none
theorem ixR_eq {R : Type} {rs : List Rw} {i : Nat} {r : Rw} {K : Option Bool → Nat → List PV → Option R} (h : rs[i]? = some r) : ixR rs.length (rs.flatMap rwC) (i : Int) K = K r.2.1 r.2.2.length (celsC r.2.2) := by
  have := (List.getElem?_eq_some_iff.1 h).1
  unfold ixR
  rw [cond_t (by rw [decide_eq_true (by omega), decide_eq_true (by omega)]; rfl), Int.toNat_natCast, flat_at rwC_len h]
  rfl
def frSo (n0 : Option Bool) (l0 : Nat) (c0 : List PV) (L i : Int) : St := frame 34 [(10, (.sl n0 2 l0 c0, 0)), (11, (.int .i64 L, 0)), (12, (.int .i64 i, 0))] []
def frSi (n0 : Option Bool) (l0 : Nat) (c0 : List PV) (L i : Int) (n1 : Option Bool) (l1 : Nat) (c1 : List PV) (M j : Int) : St :=
  frame 34 [(10, (.sl n0 2 l0 c0, 0)), (11, (.int .i64 L, 0)), (12, (.int .i64 i, 0)), (21, (.sl n1 5 l1 c1, 0)), (22, (.int .i64 M, 0)), (23, (.int .i64 j, 0))] []
noncomputable def smLoop (fu n : Nat) (st : St) : Option PV := loopF (en []) hSm fu false Tryz.f25 [1, 1, 0, 1, 0] 0 n st
noncomputable def siLoop (fu : Nat) (K : St → Option PV) (n : Nat) (st : St) : Option PV := loopP (en []) hSm fu false Tryz.f25 (fun st => pnorm (hSm.loop.lookup 0) st K) [1, 1, 0, 1, 0, 0, 1, 1, 0, 0, 1, 1, 1, 0] 2 n st
theorem sm_raw (fu : Nat) (n0 : Option Bool) (l0 : Nat) (c0 : List PV) : prun (en []) hSm fu false Tryz.f25 [.sl n0 2 l0 c0] = bif decide (60 < (l0 : Int)) then some (.bool false) else smLoop fu fu (frSo n0 l0 c0 (l0 : Int) 0) := prunN_eq.trans (by kernel_rfl)
theorem sm_step (fu : Nat) (n0 : Option Bool) (l0 : Nat) (c0 : List PV) (L i : Int) (K : St → Option PV) :
    stepF (en []) hSm fu false Tryz.f25 [1, 1, 0, 1, 0] (frSo n0 l0 c0 L i) (fun st => pnorm (hSm.loop.lookup 0) st K) =
    bif decide (i < L) then ixR l0 c0 i fun nl n c => bif decide (20 < (n : Int)) then some (.bool false) else siLoop fu K fu (frSi n0 l0 c0 L i nl n c (n : Int) 0) else some (.bool true) := (stepF_eq (by kernel_rfl)).trans (by kernel_rfl)
theorem si_step (fu : Nat) (n0 : Option Bool) (l0 : Nat) (c0 : List PV) (L i : Int) (n1 : Option Bool) (l1 : Nat) (c1 : List PV) (M j : Int) (K K2 : St → Option PV) :
    stepP (en []) hSm fu false Tryz.f25 [1, 1, 0, 1, 0, 0, 1, 1, 0, 0, 1, 1, 1, 0] (fun st => pnorm (hSm.loop.lookup 0) st K) (frSi n0 l0 c0 L i n1 l1 c1 M j) (fun st => pnorm (hSm.loop.lookup 2) st K2) =
    bif decide (j < M) then ixC l1 c1 j fun _ _ _ _ s => bif decide (250 < (s.length : Int)) then some (.bool false) else K2 (frSi n0 l0 c0 L i n1 l1 c1 M (IntKind.i64.wrap (j + 1)))
    else K (frSo n0 l0 c0 L (IntKind.i64.wrap (i + 1))) := (stepP_eq (by kernel_rfl)).trans (by kernel_rfl)
def celSm (c : Cel) : Bool := decide (c.2.s.length ≤ 250)
theorem si_loop (fu : Nat) (K : St → Option PV) (n0 : Option Bool) (l0 : Nat) (c0 : List PV) (L : Int) (i : Int) (n1 : Option Bool) (l : List Cel) (hl : l.length ≤ 1000000) : ∀ (k j n : Nat), j + k = l.length → k < n →
    siLoop fu K n (frSi n0 l0 c0 L i n1 l.length (celsC l) (l.length : Int) (j : Int)) = bif (l.drop j).all celSm then K (frSo n0 l0 c0 L (IntKind.i64.wrap (i + 1))) else some (.bool false)
  | k, j, 0, _, h => by omega
  | 0, j, n + 1, hj, hn => by
    unfold siLoop
    rw [loopP_succ, si_step, cond_f (decide_eq_false (by omega)), List.drop_of_length_le (by omega)]
    rfl
  | k + 1, j, n + 1, hj, hn => by
    have ih := si_loop fu K n0 l0 c0 L i n1 l hl k (j + 1) n (by omega) (by omega)
    have hc := List.getElem?_eq_getElem (l := l) (i := j) (by omega)
    unfold siLoop at ih ⊢
    rw [loopP_succ, si_step, cond_t (decide_eq_true (by omega)), ixC_eq hc, wrapI_of (x := (j : Int) + 1) (by omega) (by omega), List.drop_eq_getElem_cons (show j < l.length by omega), List.all_cons]
    by_cases hx : 250 < l[j].2.s.length
    · rw [cond_t (decide_eq_true (by omega)), show celSm l[j] = false from decide_eq_false (by omega)]
      rfl
    · rw [cond_f (decide_eq_false (by omega)), show celSm l[j] = true from decide_eq_true (by omega), Bool.true_and]
      exact ih
def rwSm (r : Rw) : Bool := decide (r.2.2.length ≤ 20) && r.2.2.all celSm
theorem sm_loop (fu : Nat) (hfu : 21 < fu) (n0 : Option Bool) (rs : List Rw) (hl : rs.length ≤ 1000000) : ∀ (k i n : Nat), i + k = rs.length → k < n →
    smLoop fu n (frSo n0 rs.length (rs.flatMap rwC) (rs.length : Int) (i : Int)) = some (.bool ((rs.drop i).all rwSm))
  | k, i, 0, _, h => by omega
  | 0, i, n + 1, hi, hn => by
    unfold smLoop
    rw [loopF_succ, sm_step, cond_f (decide_eq_false (by omega)), List.drop_of_length_le (by omega)]
    rfl
  | k + 1, i, n + 1, hi, hn => by
    have ih := sm_loop fu hfu n0 rs hl k (i + 1) n (by omega) (by omega)
    have hc := List.getElem?_eq_getElem (l := rs) (i := i) (by omega)
    unfold smLoop at ih ⊢
    rw [loopF_succ, sm_step, cond_t (decide_eq_true (by omega)), ixR_eq hc, List.drop_eq_getElem_cons (show i < rs.length by omega), List.all_cons]
    by_cases h20 : 20 < rs[i].2.2.length
    · rw [cond_t (decide_eq_true (by omega)), show rwSm rs[i] = false by unfold rwSm; rw [decide_eq_false (by omega)]; rfl]
      rfl
    · rw [cond_f (decide_eq_false (by omega))]
      have := si_loop fu (loopF (en []) hSm fu false Tryz.f25 [1, 1, 0, 1, 0] 0 n) n0 rs.length (rs.flatMap rwC) (rs.length : Int) (i : Int) rs[i].2.1 rs[i].2.2 (by omega) rs[i].2.2.length 0 fu (by omega) (by omega)
      rw [List.drop_zero] at this
      refine Eq.trans this ?_
      rw [show rwSm rs[i] = rs[i].2.2.all celSm by unfold rwSm; rw [decide_eq_true (by omega), Bool.true_and]]
      cases rs[i].2.2.all celSm
      · rfl
      · rw [cond_true, Bool.true_and, wrapI_of (by omega) (by omega)]
        exact ih
def smS (rs : List Rw) : Bool := decide (rs.length ≤ 60) && rs.all rwSm
def p_Small : PFn := ⟨fun xs k => match xs with | [.sl _ 2 n c] => (decG 2 rwG n c).bind fun rs => bif decide (rs.length ≤ 1000000) then k (.bool (smS rs)) else none | _ => none, false⟩
theorem ok_Small : FOK NGk Tabs 25 p_Small := by
  refine fok wokk allOK_nil (h := hSm) Tryz.func25 rfl (by decide) ?_ ?_
  · intro R xs k
    simp only [p_Small]
    split
    · exact bindL_nat
    · rfl
  · intro xs r h
    simp only [p_Small] at h
    split at h
    · rename_i nl n c
      obtain ⟨rs, h1, hg, rfl⟩ := bindL_inv h
      obtain ⟨rfl, rfl⟩ := decG_inv rwG_inv h1
      simp only [decide_eq_true_eq] at hg
      refine ⟨rs.length + 30, (sm_raw _ nl _ _).trans ?_⟩
      unfold smS
      by_cases h60 : 60 < rs.length
      · rw [cond_t (decide_eq_true (by omega)), decide_eq_false (by omega)]; rfl
      · rw [cond_f (decide_eq_false (by omega)), decide_eq_true (by omega), Bool.true_and]
        exact sm_loop _ (by omega) nl rs hg rs.length 0 _ (by omega) (by omega)
    · cases h
def smO {R : Type} (n : Nat) (c : List PV) (K : Bool → Option R) : Option R := (decG 2 rwG n c).bind fun rs => bif decide (rs.length ≤ 1000000) then K (smS rs) else none
end Go.Proofs.YthjmjoioagocdaaGreatDoor
set_option linter.unusedVariables false
set_option linter.unusedSimpArgs false
set_option maxRecDepth 100000
namespace Go.Proofs.YthjmjoioagocdaaGreatDoor
open Go.RowKit
end Go.Proofs.YthjmjoioagocdaaGreatDoor
set_option linter.unusedVariables false
set_option linter.unusedSimpArgs false
set_option maxRecDepth 100000
namespace Go.Proofs.YthjmjoioagocdaaGreatDoor
open Go.ChangeShapes Go.WideShapes Go.ChangeAt Go.RowKit Go.Deep
instance : Inhabited Cel := ⟨(0, vnull)⟩
end Go.Proofs.YthjmjoioagocdaaGreatDoor
end
section
set_option linter.unusedVariables false
set_option linter.unusedSimpArgs false
set_option maxRecDepth 100000
namespace Go.Proofs.YthjmjoioagocdaaGreatDoor
open Go.RowKit
def z4 : List TV := [(.int .i64 0, 0), (.int .i64 0, 0), (.int .i64 0, 0), (.str [], 0)]
end Go.Proofs.YthjmjoioagocdaaGreatDoor
end
