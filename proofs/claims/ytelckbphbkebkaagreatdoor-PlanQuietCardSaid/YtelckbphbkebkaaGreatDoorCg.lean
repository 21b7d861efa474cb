/-
  Casts: the reference's Cast; the law CastValues.
-/
import Derived.Test.YtelckbphbkebkaaGreatDoorCab
set_option linter.unusedVariables false
set_option linter.unusedSimpArgs false
set_option maxRecDepth 100000
namespace Go.Proofs.YtelckbphbkebkaaGreatDoor
open Go.RowKit

def valQ' (v : Val) : PV := .agg [.int .i64 v.kind, .int .i64 v.n, .int .i64 v.scale, .str v.s]
def p_plV : PFn := ⟨fun xs k => match xs with | [.agg [.int .i64 a, .int .i64 n, .int .i64 c, .str s]] => bif decide (s.length ≤ 1000000) then k (valQ' (Go.Proofs.YtelckbphbkebkaaGreatDoor.plain ⟨a, n, c, s⟩)) else none | _ => none, false⟩
theorem ok_plV : FOK NGc Wc 61 p_plV := by
  refine fok wokc (allOK_cons (fok_k ok_rightR) allOK_nil) (h := ⟨[], []⟩) Tryz.func61 rfl (by decide) ?_ ?_
  · intro R xs k
    simp only [p_plV]
    split
    · exact cond_nat
    · rfl
  · intro xs r h
    simp only [p_plV] at h
    split at h
    · rename_i a n c s
      rcases hb : decide (s.length ≤ 1000000) with _ | _ <;> rw [hb] at h
      · cases h
      · refine ⟨0, (plain_raw a n c s).trans ?_⟩
        rw [← h, hb, show rightB a n c s = right ⟨a, n, c, s⟩ from right_B ⟨a, n, c, s⟩]
        rcases hr : right ⟨a, n, c, s⟩ with _ | _
        · rw [plain_wrong hr]; rfl
        · rw [plain_right hr]; rfl
    · cases h
def p_scaled : PFn := ⟨fun xs k => match xs with | [.int .i64 n, .int .i64 c, .agg [.int .i64 t, .int .i64 u]] => bif inI n then k (resC (numS n c t u)) else none | _ => none, false⟩
theorem scaled_raw (n c t u : Int) : prun (en [(107, p_RRescale)]) ⟨[], []⟩ 0 false Tryz.f96 [.int .i64 n, .int .i64 c, .agg [.int .i64 t, .int .i64 u]] = numR' n c t u := by kernel_rfl
theorem ok_scaled : FOK NGc Wc 96 p_scaled := by
  refine fok wokc (allOK_cons (fok_d ok_RRescale) allOK_nil) (h := ⟨[], []⟩) Tryz.func96 rfl (by decide) ?_ ?_
  · intro R xs k
    simp only [p_scaled]
    split
    · exact cond_nat
    · rfl
  · intro xs r h
    simp only [p_scaled] at h
    split at h
    · rename_i n c t u
      rcases hb : inI n with _ | _ <;> rw [hb] at h
      · cases h
      · exact ⟨0, (scaled_raw n c t u).trans ((numR_eq hb).trans h)⟩
    · cases h
def scO (n c t u : Int) : Option PV := bif inI n then some (resC (numS n c t u)) else none
def tfO (n : Int) : Option PV := bif decide (0 ≤ n) && decide (n < ((2 : Nat) : Int)) then (List.take 1 (List.drop (n.toNat * 1) [PV.str [102, 97, 108, 115, 101], PV.str [116, 114, 117, 101]])).head?.bind fun v => (PV.asStr v).bind fun v => valR 4 0 0 v else none
def rcNum (x : Val) (t u : Int) : Option PV :=
  bif ((t == 1 && x.kind == 2) && decide (0 ≤ x.n)) && decide (x.n < 2) then valR 1 x.n 0 [] else bif t == 2 || t == 3 then scO x.n x.scale t u else bif t == 4 then (bif inI x.n then valR 4 0 0 (prV x.n x.scale) else none) else nulE 40
def rcTxt (x : Val) (t u : Int) : Option PV :=
  bif t == 1 && x.s == [116, 114, 117, 101] then valR 1 1 0 [] else bif t == 1 && x.s == [102, 97, 108, 115, 101] then valR 1 0 0 [] else
  bif decide (x.s.length ≤ 400) then bif (t == 2 || t == 3) && (parseP x.s).isSome then scO ((parseP x.s).elim 0 fun p => p.1) ((parseP x.s).elim 0 fun p => (p.2 : Int)) t u else bif t == 5 then valR 5 0 0 x.s else nulE 40 else none
def rcByt (x : Val) (t : Int) : Option PV := bif t == 4 then (bif decide (x.s.length ≤ 1000000) then bif rightB 4 0 0 x.s then valR 4 0 0 x.s else nulE 40 else none) else nulE 40
def rcOth (x : Val) (t u : Int) : Option PV := bif x.kind == 4 then rcTxt x t u else bif x.kind == 5 then rcByt x t else nulE 40
def rcX (x : Val) (t u : Int) : Option PV :=
  bif x.kind == 0 || (x.kind == t && x.scale == u) then valR x.kind x.n x.scale x.s else
  bif x.kind == 1 then bif t == 2 then valR 2 x.n 0 [] else bif t == 4 then tfO x.n else nulE 40 else
  bif x.kind == 2 then bif x.kind == 2 then rcNum x t u else rcOth x t u else bif x.kind == 3 then rcNum x t u else rcOth x t u
noncomputable def lRc : List (FuncId × PFn) := [(95, p_typ), (61, p_plV), (96, p_scaled), (97, p_RPrint), (98, p_RParse), (94, p_rightV)]
theorem ok_lRc : AllOK NGc Wc lRc := allOK_cons ok_rtyp (allOK_cons ok_plV (allOK_cons ok_scaled (allOK_cons (fok_d ok_RPrint) (allOK_cons (fok_d ok_RParse) (allOK_cons (fok_k ok_rightR) allOK_nil)))))
theorem rcast_raw (a n c : Int) (s : List UInt8) (t u : Int) : prun (en lRc) ⟨[], []⟩ 0 false Tryz.f62 [.agg [.int .i64 a, .int .i64 n, .int .i64 c, .str s], .agg [.int .i64 t, .int .i64 u]] =
    bif !tyB t u then nulE 2 else bif decide (s.length ≤ 1000000) then rcX (Go.Proofs.YtelckbphbkebkaaGreatDoor.plain ⟨a, n, c, s⟩) t u else none := by kernel_rfl
theorem sc_in {n c t u : Int} (h : inI n = true) : scO n c t u = some (resC (numS n c t u)) := by unfold scO; rw [h]; rfl
theorem rc_num {k n c t u : Int} (hn : inI n = true) (hk : k = 2 ∨ k = 3) : rcNum ⟨k, n, c, []⟩ t u = some (resC (fromNumS k n c t u)) := by
  unfold rcNum fromNumS
  dsimp only
  rw [sc_in hn, hn]
  by_cases h1 : t = 1
  · subst h1
    rcases hk with rfl | rfl
    · by_cases h0 : n = 0
      · subst h0; rfl
      · by_cases h2 : n = 1
        · subst h2; rfl
        · have e1 : (((((1 : Int) == 1 && (2 : Int) == 2) && decide (0 ≤ n)) && decide (n < 2)) : Bool) = false := by
            rw [Bool.eq_false_iff]
            simp only [beq_self_eq_true, Bool.and_self, Bool.true_and, ne_eq, Bool.and_eq_true, decide_eq_true_eq]
            omega
          have e2 : ((2 : Int) == 2 && (n == 0 || n == 1)) = false := by
            simp [h0, h2]
          rw [e1, e2]; rfl
    · rfl
  · have e : (t == 1) = false := by simpa using h1
    rw [e]
    simp only [Bool.false_and, cond_false]
    cases t == 2 || t == 3
    · cases t == 4 <;> rfl
    · rfl
theorem rc_txt {s : List UInt8} {t u : Int} (hs : s.length ≤ 200) : rcTxt ⟨4, 0, 0, s⟩ t u = some (resC (fromTextS s t u)) := by
  unfold rcTxt fromTextS
  dsimp only
  rw [decide_eq_true (show s.length ≤ 400 by omega), cond_true]
  by_cases h1 : t = 1
  · subst h1
    simp only [beq_self_eq_true, Bool.true_and, cond_true, trueS, falseS]
    cases s == [116, 114, 117, 101]
    · cases s == [102, 97, 108, 115, 101] <;> rfl
    · rfl
  · have e : (t == 1) = false := by simpa using h1
    rw [e]
    simp only [Bool.false_and, cond_false]
    rcases h23 : (t == 2 || t == 3) with _ | _
    · simp only [Bool.false_and, cond_false]
      cases t == 5 <;> rfl
    · have e5 : (t == 5) = false := by
        simp only [Bool.or_eq_true, beq_iff_eq] at h23
        rw [beq_eq_false_iff_ne]
        omega
      rw [e5]
      have hi := parse_in s
      unfold parS
      rcases hp : parseP s with _ | p
      · rfl
      · rw [hp] at hi
        simp only [Option.isSome_some, Option.elim_some, Bool.and_self, cond_true] at hi ⊢
        exact sc_in hi
theorem rc_byt {s : List UInt8} {t u : Int} (hs : s.length ≤ 200) : rcByt ⟨5, 0, 0, s⟩ t = some (resC (fromBytesS s t)) := by
  unfold rcByt fromBytesS textS
  dsimp only
  rw [decide_eq_true (show s.length ≤ 1000000 by omega), show rightB 4 0 0 s = right ⟨4, 0, 0, s⟩ from right_B ⟨4, 0, 0, s⟩]
  have e : right ⟨4, 0, 0, s⟩ = Lib.validD s := by
    unfold right
    simp [hs]
  rw [e]
  cases t == 4
  · rfl
  · cases Lib.validD s <;> rfl
theorem rc_x {v : Val} {t u : Int} (hn : inI v.n = true) (ht : tyB t u = true) : rcX (Go.Proofs.YtelckbphbkebkaaGreatDoor.plain v) t u = some (resC (castS v t u)) := by
  rcases hr : right v with _ | _
  · rw [plain_wrong hr]
    unfold castS
    rw [ht, hr]; rfl
  · rw [plain_right hr]
    have e : (v.kind == 0 || (v.kind == t && v.scale == u)) = ofB v t u := by unfold ofB; rw [ht, hr]; rfl
    unfold rcX
    rw [e]
    rcases hof : ofB v t u with _ | _
    · have h0 : v.kind ≠ 0 := by
        intro e
        rw [ofB_iff.2 ⟨ht, hr, .inl e⟩] at hof
        cases hof
      rw [castS_go hr ht h0 hof, cond_false]
      rcases right_forms hr with e | ⟨n, hn01, e⟩ | ⟨n, e⟩ | ⟨n, c, c0, c6, e⟩ | ⟨s, hs, hv, e⟩ | ⟨s, hs, e⟩ <;> subst e
      · exact absurd rfl h0
      · show (bif t == 2 then valR 2 n 0 [] else bif t == 4 then tfO n else nulE 40) = some (resC (fromBoolS n t))
        unfold fromBoolS
        cases t == 2
        · cases t == 4
          · rfl
          · rcases hn01 with rfl | rfl <;> rfl
        · rfl
      · exact rc_num hn (.inl rfl)
      · exact rc_num hn (.inr rfl)
      · exact rc_txt hs
      · exact rc_byt (u := u) hs
    · rw [castS_same hof]; rfl
theorem ok_RCast : FOK NGc Wc 62 p_Cast := by
  refine fok wokc ok_lRc (h := ⟨[], []⟩) Tryz.func62 rfl (by decide) ?_ ?_
  · intro R xs k
    simp only [p_Cast]
    split
    · exact cond_nat
    · rfl
  · intro xs r h
    simp only [p_Cast] at h
    split at h
    · rename_i a n c s t u
      rcases hb : (inI n && decide (s.length ≤ 1000000)) with _ | _ <;> rw [hb] at h
      · cases h
      · simp only [Bool.and_eq_true] at hb
        refine ⟨0, (rcast_raw a n c s t u).trans (Eq.trans ?_ h)⟩
        rw [hb.2, cond_true]
        rcases ht : tyB t u with _ | _
        · unfold castS
          rw [ht]; rfl
        · exact rc_x (v := ⟨a, n, c, s⟩) hb.1 ht
    · cases h
def eqC (p q : Val × Int) : Bool := eq4 p.1.kind q.1.kind p.1.n q.1.n p.1.scale q.1.scale p.1.s q.1.s && p.2 == q.2
theorem cast_len {v : Val} {t u : Int} (hn : inI v.n = true) (hs : v.s.length ≤ 1000) : (castS v t u).1.s.length ≤ 1000000 := by
  unfold castS
  cases !tyB t u
  · cases !right v || v.kind == 0
    · simp only [cond_false]
      cases ofB v t u
      · simp only [cond_false]
        have hT : ∀ s : List UInt8, s.length ≤ 1000 → (textS s).1.s.length ≤ 1000000 := by
          intro s h
          unfold textS
          cases Lib.validD s
          · simp [vnull]
          · show s.length ≤ 1000000; omega
        have hN : ∀ n c t u, (numS n c t u).1.s.length ≤ 1000000 := by
          intro n c t u
          unfold numS
          cases scaE n c u == 0 <;> simp [vnull]
        have hp := (prV_ascii (sc := v.scale) hn).2
        cases v.kind == 1
        · cases v.kind == 2 || v.kind == 3
          · cases v.kind == 4
            · simp only [cond_false]
              unfold fromBytesS
              cases t == 4
              · simp [vnull]
              · exact hT _ hs
            · simp only [cond_false, cond_true]
              unfold fromTextS
              cases t == 1
              · cases t == 2 || t == 3
                · cases t == 5
                  · simp [vnull]
                  · show v.s.length ≤ 1000000; omega
                · simp only [cond_false, cond_true]
                  unfold parS
                  split
                  · exact hN _ _ _ _
                  · simp [vnull]
              · cases v.s == trueS
                · cases v.s == falseS <;> simp [vnull]
                · simp
          · simp only [cond_false, cond_true]
            unfold fromNumS
            cases t == 1
            · cases t == 2 || t == 3
              · cases t == 4
                · simp [vnull]
                · show (prV v.n v.scale).length ≤ 1000000; omega
              · exact hN _ _ _ _
            · cases v.kind == 2 && (v.n == 0 || v.n == 1)
              · simp [vnull]
              · cases v.n == 1 <;> simp
        · simp only [cond_true]
          unfold fromBoolS
          cases t == 2
          · cases t == 4
            · simp [vnull]
            · cases v.n == 1 <;> simp [trueS, falseS]
          · simp
      · show v.s.length ≤ 1000000; omega
    · simp [vnull]
  · simp [vnull]
theorem of_num {k n c t u : Int} (hn : inI n = true) (ht : tyB t u = true) (hN : ∀ n c, (t = 2 ∨ t = 3) → (numS n c t u).2 = 0 → ofB (numS n c t u).1 t u = true)
    (hX : ∀ s : List UInt8, s.length ≤ 200 → Lib.validD s = true → t = 4 → ofB ⟨4, 0, 0, s⟩ t u = true) (hB : ∀ n : Int, (n = 0 ∨ n = 1) → t = 1 → ofB ⟨1, n, 0, []⟩ t u = true)
    (h : (fromNumS k n c t u).2 = 0) : ofB (fromNumS k n c t u).1 t u = true := by
  have hp := prV_ascii (sc := c) hn
  unfold fromNumS at h ⊢
  by_cases h1 : t = 1
  · have e : (t == 1) = true := by simpa using h1
    rw [e] at h ⊢
    simp only [cond_true] at h ⊢
    rcases h2 : (k == 2 && (n == 0 || n == 1)) with _ | _
    · rw [h2] at h; cases h
    · simp only [cond_true]
      cases n == 1
      · exact hB 0 (.inl rfl) h1
      · exact hB 1 (.inr rfl) h1
  · have e : (t == 1) = false := by simpa using h1
    rw [e] at h ⊢
    simp only [cond_false] at h ⊢
    rcases h23 : (t == 2 || t == 3) with _ | _
    · rw [h23] at h
      by_cases h4 : t = 4
      · have e : (t == 4) = true := by simpa using h4
        rw [e]
        exact hX _ (by omega) (ascii_valid hp.1) h4
      · have e : (t == 4) = false := by simpa using h4
        rw [e] at h; cases h
    · rw [h23] at h
      simp only [Bool.or_eq_true, beq_iff_eq] at h23
      exact hN _ _ h23 h
theorem cast_of {v : Val} {t u : Int} (hn : inI v.n = true) (h : (castS v t u).2 = 0) : ofB (castS v t u).1 t u = true := by
  have nul : tyB t u = true → ofB vnull t u = true := fun ht => ofB_iff.2 ⟨ht, right_null, .inl rfl⟩
  rcases ht : tyB t u with _ | _
  · unfold castS at h
    rw [ht] at h; cases h
  · rcases hr : right v with _ | _
    · have e : castS v t u = (vnull, 0) := by unfold castS; rw [ht, hr]; rfl
      rw [e]; exact nul ht
    · rcases hof : ofB v t u with _ | _
      · have h0 : v.kind ≠ 0 := by
          intro e
          rw [ofB_iff.2 ⟨ht, hr, .inl e⟩] at hof
          cases hof
        have n40 : ∀ x : Val × Int, x = (vnull, 40) → x.2 = 0 → False := by rintro x rfl h; cases h
        have hN : ∀ n c, (t = 2 ∨ t = 3) → (numS n c t u).2 = 0 → ofB (numS n c t u).1 t u = true := by
          intro n c h23 h
          obtain ⟨u0, u6, hu⟩ := ty_scale ht
          unfold numS at h ⊢
          rcases hz : scaE n c u == 0 with _ | _
          · rw [hz] at h
            simp only [cond_false] at h
            rw [h] at hz; cases hz
          · refine ofB_iff.2 ⟨ht, ?_, .inr ⟨rfl, rfl⟩⟩
            simp only [cond_true]
            rcases h23 with rfl | rfl
            · have := hu (by decide)
              subst this
              unfold right
              simp
            · unfold right
              simp [u0, u6]
        have hX : ∀ s : List UInt8, s.length ≤ 200 → Lib.validD s = true → t = 4 → ofB ⟨4, 0, 0, s⟩ t u = true := by
          intro s hs hv h4
          subst h4
          have := (ty_scale ht).2.2 (by decide)
          subst this
          exact ofB_iff.2 ⟨ht, right_text hs hv, .inr ⟨rfl, rfl⟩⟩
        have hB : ∀ n : Int, (n = 0 ∨ n = 1) → t = 1 → ofB ⟨1, n, 0, []⟩ t u = true := by
          intro n hn01 h1
          subst h1
          have := (ty_scale ht).2.2 (by decide)
          subst this
          refine ofB_iff.2 ⟨ht, ?_, .inr ⟨rfl, rfl⟩⟩
          unfold right
          rcases hn01 with rfl | rfl <;> simp
        rw [castS_go hr ht h0 hof] at h ⊢
        rcases right_forms hr with e | ⟨n, hn01, e⟩ | ⟨n, e⟩ | ⟨n, c, c0, c6, e⟩ | ⟨s, hs, hv, e⟩ | ⟨s, hs, e⟩ <;> subst e
        · exact absurd rfl h0
        · have h : (fromBoolS n t).2 = 0 := h
          show ofB (fromBoolS n t).1 t u = true
          unfold fromBoolS at h ⊢
          by_cases h2 : t = 2
          · have e : (t == 2) = true := by simpa using h2
            rw [e]
            have := (ty_scale ht).2.2 (by omega)
            subst this
            subst h2
            refine ofB_iff.2 ⟨ht, ?_, .inr ⟨rfl, rfl⟩⟩
            unfold right
            simp
          · have e : (t == 2) = false := by simpa using h2
            rw [e] at h ⊢
            by_cases h4 : t = 4
            · have e : (t == 4) = true := by simpa using h4
              rw [e]
              simp only [cond_true, cond_false]
              rcases hn01 with rfl | rfl
              · exact hX falseS (by decide) (by decide +kernel) h4
              · exact hX trueS (by decide) (by decide +kernel) h4
            · have e : (t == 4) = false := by simpa using h4
              rw [e] at h; cases h
        · have h : (fromNumS 2 n 0 t u).2 = 0 := h
          exact of_num hn ht hN hX hB h
        · have h : (fromNumS 3 n c t u).2 = 0 := h
          exact of_num hn ht hN hX hB h
        · have h : (fromTextS s t u).2 = 0 := h
          show ofB (fromTextS s t u).1 t u = true
          unfold fromTextS at h ⊢
          by_cases h1 : t = 1
          · have e : (t == 1) = true := by simpa using h1
            rw [e] at h ⊢
            simp only [cond_true] at h ⊢
            cases h2 : s == trueS
            · rw [h2] at h
              cases h3 : s == falseS
              · rw [h3] at h; cases h
              · exact hB 0 (.inl rfl) h1
            · exact hB 1 (.inr rfl) h1
          · have e : (t == 1) = false := by simpa using h1
            rw [e] at h ⊢
            simp only [cond_false] at h ⊢
            rcases h23 : (t == 2 || t == 3) with _ | _
            · rw [h23] at h
              by_cases h5 : t = 5
              · have e : (t == 5) = true := by simpa using h5
                rw [e]
                have := (ty_scale ht).2.2 (by omega)
                subst this
                subst h5
                refine ofB_iff.2 ⟨ht, ?_, .inr ⟨rfl, rfl⟩⟩
                unfold right
                simp [hs]
              · have e : (t == 5) = false := by simpa using h5
                rw [e] at h; cases h
            · rw [h23] at h
              simp only [cond_true] at h ⊢
              simp only [Bool.or_eq_true, beq_iff_eq] at h23
              unfold parS at h ⊢
              split at h
              · exact hN _ _ h23 h
              · cases h
        · have h : (fromBytesS s t).2 = 0 := h
          show ofB (fromBytesS s t).1 t u = true
          unfold fromBytesS textS at h ⊢
          by_cases h4 : t = 4
          · have e : (t == 4) = true := by simpa using h4
            rw [e] at h ⊢
            simp only [cond_true] at h ⊢
            rcases hv : Lib.validD s with _ | _
            · rw [hv] at h; cases h
            · exact hX s hs hv h4
          · have e : (t == 4) = false := by simpa using h4
            rw [e] at h; cases h
      · rw [castS_same hof]; exact hof
end Go.Proofs.YtelckbphbkebkaaGreatDoor
