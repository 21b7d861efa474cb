/-
  Casts by the evaluator: types, RightType, Of, Cast.
  Casts by the evaluator: what Cast is, Safe; the first check; the laws CastSafe, CastBack.
  Casts by the evaluator: Safe; the first check; the laws CastSafe, CastBack.
  Casts in plain words; the laws CastSafe, CastBack.
-/
import Derived.Test.YtelckbphbkebkaaGreatDoorDGh
import Derived.Test.YtelckbphbkebkaaGreatDoorKq
import Derived.Test.YtelckbphbkebkaaGreatDoorPGw
set_option linter.unusedVariables false
set_option linter.unusedSimpArgs false
set_option maxRecDepth 100000
namespace Go.Proofs.YtelckbphbkebkaaGreatDoor
open Go.RowKit

theorem right_B (v : Val) : rightB v.kind v.n v.scale v.s = right v := by
  unfold rightB right scB
  rw [Bool.eq_iff_iff]
  by_cases h0 : v.kind = 0
  · simp [h0, and_assoc]
  · rw [show (v.kind == 0) = false by simpa using h0, cond_false, if_neg h0]
    by_cases h1 : v.kind = 1
    · simp [h1, and_assoc]
    · rw [show (v.kind == 1) = false by simpa using h1, cond_false, if_neg h1]
      by_cases h2 : v.kind = 2
      · simp [h2, and_assoc]
      · rw [show (v.kind == 2) = false by simpa using h2, cond_false, if_neg h2]
        by_cases h3 : v.kind = 3
        · simp [h3, and_assoc]
        · rw [show (v.kind == 3) = false by simpa using h3, cond_false, if_neg h3]
          by_cases h4 : v.kind = 4
          · simp [h4, and_assoc]
          · rw [show (v.kind == 4) = false by simpa using h4, cond_false, if_neg h4]
            by_cases h5 : v.kind = 5
            · simp [h5, and_assoc]
            · simp [h5]
/-! ## the world -/
def NGc : Nat := max NGd NGk
noncomputable def Wc (w : World) : Prop := We w ∧ Tabs w
theorem wokc : WOK NGc Wc := fun w w' h hW => ⟨woke w w' (fun b hb => h b (by unfold NGc; omega)) hW.1, wokk w w' (fun b hb => h b (by unfold NGc; omega)) hW.2⟩
theorem wc_size {w : World} (h : Wc w) : NGc ≤ w.heap.size := by
  have h1 := wd_size h.1.1
  have h2 := tabs_size h.2
  unfold NGc
  omega
theorem fok_d {f : FuncId} {p : PFn} (hp : FOK NGd Wd f p) : FOK NGc Wc f p where
  nat := hp.nat
  call := fun M xs vs r hW hng => hp.call M xs vs r hW.1.1 (by unfold NGc at hng; omega)
theorem fok_e {f : FuncId} {p : PFn} (hp : FOK NGd We f p) : FOK NGc Wc f p where
  nat := hp.nat
  call := fun M xs vs r hW hng => hp.call M xs vs r hW.1 (by unfold NGc at hng; omega)
theorem fok_k {f : FuncId} {p : PFn} (hp : FOK NGk Tabs f p) : FOK NGc Wc f p where
  nat := hp.nat
  call := fun M xs vs r hW hng => hp.call M xs vs r hW.2 (by unfold NGc at hng; omega)
/-! ## types -/
def tyB (k s : Int) : Bool := bif k == 3 then scB s else decide (1 ≤ k) && decide (k ≤ 5) && s == 0
def p_typ : PFn := ⟨fun xs k => match xs with | [.agg [.int .i64 a, .int .i64 b]] => k (.bool (tyB a b)) | _ => none, false⟩
theorem p_typ_nat : p_typ.nat := by
  intro R xs k
  simp only [p_typ]
  split <;> rfl
theorem typ_raw (a b : Int) : prun (en [(81, p_sc)]) ⟨[], []⟩ 0 false Tryz.f50 [.agg [.int .i64 a, .int .i64 b]] =
    bif a == 3 then some (.bool (scB b)) else some (.bool (decide (1 ≤ a) && decide (a ≤ 5) && b == 0)) := by kernel_rfl
theorem ok_typ : FOK NGc Wc 50 p_typ := by
  refine fok wokc (allOK_cons (fok_k ok_scR) allOK_nil) (h := ⟨[], []⟩) Tryz.func50 rfl (by decide) p_typ_nat ?_
  intro xs r h
  simp only [p_typ] at h
  split at h
  · rename_i a b
    refine ⟨0, (typ_raw a b).trans ?_⟩
    rw [← h]
    unfold tyB
    cases a == 3 <;> rfl
  · cases h
def typB2 (a b : Int) : Option PV :=
  bif a == 1 then bif a == 1 then some (.bool (b == 0)) else bif a == 3 then some (.bool (scB b)) else some (.bool false)
  else bif a == 2 then bif a == 2 then some (.bool (b == 0)) else bif a == 3 then some (.bool (scB b)) else some (.bool false)
  else bif a == 4 then bif a == 4 then some (.bool (b == 0)) else bif a == 3 then some (.bool (scB b)) else some (.bool false)
  else bif a == 5 then some (.bool (b == 0)) else bif a == 3 then some (.bool (scB b)) else some (.bool false)
theorem rtyp_raw (a b : Int) : prun (en [(129, p_sc)]) ⟨[], []⟩ 0 false Tryz.f95 [.agg [.int .i64 a, .int .i64 b]] = typB2 a b := by kernel_rfl
theorem ok_rtyp : FOK NGc Wc 95 p_typ := by
  refine fok wokc (allOK_cons (fok_k ok_scS) allOK_nil) (h := ⟨[], []⟩) Tryz.func95 rfl (by decide) p_typ_nat ?_
  intro xs r h
  simp only [p_typ] at h
  split at h
  · rename_i a b
    refine ⟨0, (rtyp_raw a b).trans ?_⟩
    rw [← h]
    unfold tyB typB2
    by_cases h1 : a = 1
    · subst h1; rfl
    · by_cases h2 : a = 2
      · subst h2; rfl
      · by_cases h3 : a = 3
        · subst h3; rfl
        · by_cases h4 : a = 4
          · subst h4; rfl
          · by_cases h5 : a = 5
            · subst h5; rfl
            · rw [show (a == 1) = false by simpa using h1, show (a == 2) = false by simpa using h2, show (a == 3) = false by simpa using h3, show (a == 4) = false by simpa using h4, show (a == 5) = false by simpa using h5]
              have : (decide (1 ≤ a) && decide (a ≤ 5)) = false := by
                rw [Bool.eq_false_iff]
                simp only [ne_eq, Bool.and_eq_true, decide_eq_true_eq]
                omega
              rw [this]; rfl
  · cases h
/-! ## of a type -/
def ofB (v : Val) (t u : Int) : Bool := tyB t u && (right v && (v.kind == 0 || v.kind == t && v.scale == u))
def rgO {R : Type} (a n c : Int) (s : List UInt8) (K : Bool → Option R) : Option R := bif decide (s.length ≤ 1000000) then K (rightB a n c s) else none
def p_of : PFn := ⟨fun xs k => match xs with | [.agg [.int .i64 a, .int .i64 n, .int .i64 c, .str s], .agg [.int .i64 t, .int .i64 u]] => bif decide (s.length ≤ 1000000) then k (.bool (ofB ⟨a, n, c, s⟩ t u)) else none | _ => none, false⟩
theorem p_of_nat : p_of.nat := by
  intro R xs k
  simp only [p_of]
  split
  · exact cond_nat
  · rfl
theorem of_raw' (a n c : Int) (s : List UInt8) (t u : Int) : prun (en [(50, p_typ), (46, p_rightV)]) ⟨[], []⟩ 0 false Tryz.f51 [.agg [.int .i64 a, .int .i64 n, .int .i64 c, .str s], .agg [.int .i64 t, .int .i64 u]] =
    bif !!tyB t u then rgO a n c s fun b => bif !b then some (.bool false) else some (.bool (a == 0 || a == t && c == u)) else some (.bool false) := by kernel_rfl
theorem ok_of : FOK NGc Wc 51 p_of := by
  refine fok wokc (allOK_cons ok_typ (allOK_cons (fok_k ok_rightV) allOK_nil)) (h := ⟨[], []⟩) Tryz.func51 rfl (by decide) p_of_nat ?_
  intro xs r h
  simp only [p_of] at h
  split at h
  · rename_i a n c s t u
    rcases hb : decide (s.length ≤ 1000000) with _ | _ <;> rw [hb] at h
    · cases h
    · refine ⟨0, (of_raw' a n c s t u).trans ?_⟩
      rw [← h]
      unfold rgO ofB
      rw [hb, show rightB a n c s = right ⟨a, n, c, s⟩ from right_B ⟨a, n, c, s⟩]
      cases tyB t u <;> cases right ⟨a, n, c, s⟩ <;> rfl
  · cases h
/-! ## Cast -/
def nulP : PV := .agg [.int .i64 0, .int .i64 0, .int .i64 0, .str []]
def nulE (e : Int) : Option PV := some (.tuple [nulP, .int .i64 e])
def valR (a n c : Int) (s : List UInt8) : Option PV := some (.tuple [.agg [.int .i64 a, .int .i64 n, .int .i64 c, .str s], .int .i64 0])
def textR (s : List UInt8) : Option PV := bif decide (s.length ≤ 1000000) then bif !Lib.validD s then nulE 40 else valR 4 0 0 s else none
def numR' (n c t u : Int) : Option PV := bif inI n then bif !(scaE n c u == 0) then nulE (scaE n c u) else valR t (scaV n c u) u [] else none
def fromBoolR (n t : Int) : Option PV := bif t == 2 then valR 2 n 0 [] else bif t == 4 then bif n == 1 then textR [116, 114, 117, 101] else textR [102, 97, 108, 115, 101] else nulE 40
def fromNumR (a n c t u : Int) : Option PV :=
  bif t == 1 then bif a == 2 && (n == 0 || n == 1) then bif n == 1 then valR 1 1 0 [] else valR 1 0 0 [] else nulE 40
  else bif t == 2 then bif t == 2 then numR' n c t u else bif t == 4 then bif inI n then textR (prV n c) else none else nulE 40
  else bif t == 3 then numR' n c t u else bif t == 4 then bif inI n then textR (prV n c) else none else nulE 40
def parR (s : List UInt8) (t u : Int) : Option PV := bif decide (s.length ≤ 400) then bif (parseP s).isSome then numR' ((parseP s).elim 0 fun p => p.1) ((parseP s).elim 0 fun p => (p.2 : Int)) t u else nulE 40 else none
def fromTextR (s : List UInt8) (t u : Int) : Option PV :=
  bif t == 1 then bif s == [116, 114, 117, 101] || s == [102, 97, 108, 115, 101] then bif s == [116, 114, 117, 101] then valR 1 1 0 [] else valR 1 0 0 [] else nulE 40
  else bif t == 2 then bif t == 2 then parR s t u else bif t == 5 then valR 5 0 0 s else nulE 40
  else bif t == 3 then parR s t u else bif t == 5 then valR 5 0 0 s else nulE 40
def fromBytesR (s : List UInt8) (t : Int) : Option PV := bif t == 4 then textR s else nulE 40
noncomputable def v_text : PFn := evalFn [(82, p_valid)] ⟨[], []⟩ 0 Tryz.f89
theorem ok_text : FOK NGc Wc 89 v_text := evalFn_ok wokc (allOK_cons (fok_k ok_valid) allOK_nil) Tryz.func89 rfl (by decide)
noncomputable def v_bool : PFn := evalFn [] ⟨[], []⟩ 0 Tryz.f32
theorem ok_bool : FOK NGc Wc 32 v_bool := evalFn_ok wokc allOK_nil Tryz.func32 rfl (by decide)
noncomputable def v_number : PFn := evalFn [(123, p_Rescale)] ⟨[], []⟩ 0 Tryz.f90
theorem ok_number : FOK NGc Wc 90 v_number := evalFn_ok wokc (allOK_cons (fok_d ok_Rescale) allOK_nil) Tryz.func90 rfl (by decide)
noncomputable def v_fromBool : PFn := evalFn [(89, v_text)] ⟨[], []⟩ 0 Tryz.f52
theorem ok_fromBool : FOK NGc Wc 52 v_fromBool := evalFn_ok wokc (allOK_cons ok_text allOK_nil) Tryz.func52 rfl (by decide)
noncomputable def v_fromNumber : PFn := evalFn [(89, v_text), (32, v_bool), (90, v_number), (91, p_Print)] ⟨[], []⟩ 0 Tryz.f53
theorem ok_fromNumber : FOK NGc Wc 53 v_fromNumber := evalFn_ok wokc (allOK_cons ok_text (allOK_cons ok_bool (allOK_cons ok_number (allOK_cons (fok_d ok_Print) allOK_nil)))) Tryz.func53 rfl (by decide)
noncomputable def v_fromText : PFn := evalFn [(32, v_bool), (90, v_number), (92, p_Parse)] ⟨[], []⟩ 0 Tryz.f54
theorem ok_fromText : FOK NGc Wc 54 v_fromText := evalFn_ok wokc (allOK_cons ok_bool (allOK_cons ok_number (allOK_cons (fok_e ok_Parse) allOK_nil))) Tryz.func54 rfl (by decide)
noncomputable def v_fromBytes : PFn := evalFn [(89, v_text)] ⟨[], []⟩ 0 Tryz.f55
theorem ok_fromBytes : FOK NGc Wc 55 v_fromBytes := evalFn_ok wokc (allOK_cons ok_text allOK_nil) Tryz.func55 rfl (by decide)
noncomputable def lCa : List (FuncId × PFn) := [(50, p_typ), (46, p_rightV), (51, p_of), (52, v_fromBool), (53, v_fromNumber), (54, v_fromText), (55, v_fromBytes)]
theorem ok_lCa : AllOK NGc Wc lCa := allOK_cons ok_typ (allOK_cons (fok_k ok_rightV) (allOK_cons ok_of (allOK_cons ok_fromBool (allOK_cons ok_fromNumber (allOK_cons ok_fromText (allOK_cons ok_fromBytes allOK_nil))))))
def ofO {R : Type} (a n c : Int) (s : List UInt8) (t u : Int) (K : Bool → Option R) : Option R := bif decide (s.length ≤ 1000000) then K (ofB ⟨a, n, c, s⟩ t u) else none
def castBody (a n c : Int) (s : List UInt8) (t u : Int) : Option PV :=
  bif !tyB t u then nulE 2 else rgO a n c s fun b => bif !b || a == 0 then nulE 0 else ofO a n c s t u fun b => bif b then valR a n c s else
    bif a == 1 then fromBoolR n t else
    bif a == 2 then bif a == 2 then fromNumR a n c t u else bif a == 4 then fromTextR s t u else fromBytesR s t
    else bif a == 3 then fromNumR a n c t u else bif a == 4 then fromTextR s t u else fromBytesR s t
theorem cast_raw (a n c : Int) (s : List UInt8) (t u : Int) : prun (en lCa) ⟨[], []⟩ 0 false Tryz.f33 [.agg [.int .i64 a, .int .i64 n, .int .i64 c, .str s], .agg [.int .i64 t, .int .i64 u]] = castBody a n c s t u := by kernel_rfl
end Go.Proofs.YtelckbphbkebkaaGreatDoor
set_option linter.unusedVariables false
set_option linter.unusedSimpArgs false
set_option maxRecDepth 100000
namespace Go.Proofs.YtelckbphbkebkaaGreatDoor
open Go.RowKit

def textS (s : List UInt8) : Val × Int := bif Lib.validD s then (⟨4, 0, 0, s⟩, 0) else (vnull, 40)
def numS (n c t u : Int) : Val × Int := bif scaE n c u == 0 then (⟨t, scaV n c u, u, []⟩, 0) else (vnull, scaE n c u)
def trueS : List UInt8 := [116, 114, 117, 101]
def falseS : List UInt8 := [102, 97, 108, 115, 101]
def fromBoolS (n t : Int) : Val × Int := bif t == 2 then (⟨2, n, 0, []⟩, 0) else bif t == 4 then bif n == 1 then (⟨4, 0, 0, trueS⟩, 0) else (⟨4, 0, 0, falseS⟩, 0) else (vnull, 40)
def fromNumS (a n c t u : Int) : Val × Int :=
  bif t == 1 then bif a == 2 && (n == 0 || n == 1) then bif n == 1 then (⟨1, 1, 0, []⟩, 0) else (⟨1, 0, 0, []⟩, 0) else (vnull, 40)
  else bif t == 2 || t == 3 then numS n c t u else bif t == 4 then (⟨4, 0, 0, prV n c⟩, 0) else (vnull, 40)
def parS (s : List UInt8) (t u : Int) : Val × Int := match parseP s with | some p => numS p.1 (p.2 : Int) t u | none => (vnull, 40)
def fromTextS (s : List UInt8) (t u : Int) : Val × Int :=
  bif t == 1 then bif s == trueS then (⟨1, 1, 0, []⟩, 0) else bif s == falseS then (⟨1, 0, 0, []⟩, 0) else (vnull, 40)
  else bif t == 2 || t == 3 then parS s t u else bif t == 5 then (⟨5, 0, 0, s⟩, 0) else (vnull, 40)
def fromBytesS (s : List UInt8) (t : Int) : Val × Int := bif t == 4 then textS s else (vnull, 40)
def castS (v : Val) (t u : Int) : Val × Int :=
  bif !tyB t u then (vnull, 2) else bif !right v || v.kind == 0 then (vnull, 0) else bif ofB v t u then (v, 0) else
    bif v.kind == 1 then fromBoolS v.n t else bif v.kind == 2 || v.kind == 3 then fromNumS v.kind v.n v.scale t u else bif v.kind == 4 then fromTextS v.s t u else fromBytesS v.s t
def resC (p : Val × Int) : PV := .tuple [.agg [.int .i64 p.1.kind, .int .i64 p.1.n, .int .i64 p.1.scale, .str p.1.s], .int .i64 p.2]
/-! ## numbers as texts -/
theorem ascii_valid {l : List UInt8} (h : ∀ b ∈ l, b.toNat < 128) : Lib.validD l = true := by
  rw [Lib.validD_ascii l.length l (by rw [List.take_length]; exact h), List.drop_length]
  rfl
theorem isD_lt {b : UInt8} (h : isD b = true) : b.toNat < 128 := by
  simp only [isD, Bool.and_eq_true, decide_eq_true_eq] at h
  omega
theorem prV_ascii {n sc : Int} (hn : inI n = true) : (∀ b ∈ prV n sc, b.toNat < 128) ∧ (prV n sc).length ≤ 60 := by
  rw [inI_iff] at hn
  unfold prV
  cases hs : scaleB sc
  · exact ⟨fun b hb => (by cases hb), by simp⟩
  · rw [scaleB_iff] at hs
    rw [cond_true]
    have hd := dS_facts (N := n.natAbs) (by omega)
    have hp := (pad_facts (k := sc.toNat) hd.1).1
    have hpl := pad_len (dS n.natAbs) sc.toNat
    have h4 := hd.2.2.2.1
    have hall : ∀ b ∈ padS (dS n.natAbs) sc.toNat, b.toNat < 128 := fun b hb => isD_lt (List.all_eq_true.1 hp b hb)
    unfold printS dotS
    constructor
    · intro b hb
      rw [List.mem_append] at hb
      rcases hb with hb | hb
      · cases hm : decide (n < 0) <;> rw [hm] at hb
        · cases hb
        · simp only [cond_true, List.mem_singleton] at hb
          subst hb; decide
      · cases hk : decide (0 < sc.toNat) <;> rw [hk] at hb
        · exact hall b hb
        · simp only [cond_true, List.mem_append, List.mem_singleton] at hb
          rcases hb with (hb | hb) | hb
          · exact hall b (List.mem_of_mem_take hb)
          · subst hb; decide
          · exact hall b (List.mem_of_mem_drop hb)
    · have hm : (bif decide (n < 0) then [45] else [] : List UInt8).length ≤ 1 := by cases decide (n < 0) <;> simp
      rw [List.length_append]
      cases decide (0 < sc.toNat)
      · rw [cond_false]; omega
      · simp only [cond_true, List.length_append, List.length_take, List.length_drop, List.length_cons, List.length_nil]
        omega
theorem prV_parse {n sc : Int} (hn : inI n = true) (hs : scaleB sc = true) : parseP (prV n sc) = some (n, sc.toNat) := by
  rw [inI_iff] at hn
  have e : prV n sc = printS n.natAbs (decide (n < 0)) sc.toNat := by unfold prV; rw [hs]; rfl
  rw [scaleB_iff] at hs
  have hsg : sgn (n.natAbs : Int) (decide (n < 0)) = n := by
    unfold sgn
    by_cases k : n < 0
    · rw [decide_eq_true k, cond_true]; omega
    · rw [decide_eq_false k, cond_false]; omega
  have hp := print_parse (N := n.natAbs) (k := sc.toNat) (m := decide (n < 0)) (by omega) (by omega) (by rw [hsg]; unfold over64; rw [decide_eq_false (by omega), decide_eq_false (by omega)]; rfl)
    (by rw [hsg]; by_cases k : n < 0
        · rw [show (n == 0) = false by rw [beq_eq_false_iff_ne]; omega]; rfl
        · rw [decide_eq_false k, Bool.and_false])
  rw [e, hp, hsg]
theorem over_in {n : Int} (h : over64 n = false) : inI n = true := by
  unfold over64 at h
  simp only [Bool.or_eq_false_iff, decide_eq_false_iff_not] at h
  rw [inI_iff]; omega
theorem parse_in (s : List UInt8) : inI ((parseP s).elim 0 fun p => p.1) = true := by
  unfold parseP valP
  generalize digV (cutA (noM s) ++ cutR (noM s)) = D
  generalize hasM s = m
  cases badP (cutA (noM s)) (cutR (noM s)) (cutB (noM s))
  · rw [cond_false]
    rcases ho : over64 (sgn (D : Int) m) with _ | _
    · rw [Bool.false_or]
      cases sgn (D : Int) m == 0 && m
      · exact over_in ho
      · rfl
    · rfl
  · rfl
/-! ## Cast -/
theorem numR_eq {n c t u : Int} (hn : inI n = true) : numR' n c t u = some (resC (numS n c t u)) := by
  unfold numR' numS
  rw [hn, cond_true]
  cases scaE n c u == 0 <;> rfl
theorem textR_eq {s : List UInt8} (hs : s.length ≤ 1000000) : textR s = some (resC (textS s)) := by
  unfold textR textS
  rw [cond_t (decide_eq_true hs)]
  cases Lib.validD s <;> rfl
theorem pr_text {n c : Int} (hn : inI n = true) : textR (prV n c) = some (resC (⟨4, 0, 0, prV n c⟩, 0)) := by
  have h := prV_ascii (sc := c) hn
  rw [textR_eq (by omega)]
  unfold textS
  rw [ascii_valid h.1]; rfl
theorem parR_eq {s : List UInt8} {t u : Int} (hs : s.length ≤ 400) : parR s t u = some (resC (parS s t u)) := by
  have hi := parse_in s
  unfold parR parS
  rw [cond_t (decide_eq_true hs)]
  rcases hp : parseP s with _ | p
  · rfl
  · rw [hp] at hi
    simp only [Option.isSome_some, cond_true, Option.elim_some] at hi ⊢
    exact numR_eq hi
theorem cast_body {v : Val} {t u : Int} (hn : inI v.n = true) (hs : v.s.length ≤ 1000000) : castBody v.kind v.n v.scale v.s t u = some (resC (castS v t u)) := by
  unfold castBody castS rgO ofO
  rw [cond_t (decide_eq_true hs), cond_t (decide_eq_true hs), right_B, show ofB ⟨v.kind, v.n, v.scale, v.s⟩ t u = ofB v t u from rfl]
  cases tyB t u
  · rfl
  · rcases hr : right v with _ | _
    · rfl
    · rcases h0 : v.kind == 0 with _ | _
      · rcases ho : ofB v t u with _ | _
        · simp only [Bool.not_true, Bool.or_self, cond_false]
          have h200 : v.kind = 4 ∨ v.kind = 5 → v.s.length ≤ 200 := by
            intro hk
            unfold right at hr
            rcases hk with hk | hk <;> simp only [hk, show ¬ (4 : Int) = 0 by decide, show ¬ (4 : Int) = 1 by decide, show ¬ (4 : Int) = 2 by decide, show ¬ (4 : Int) = 3 by decide, show ¬ (5 : Int) = 0 by decide, show ¬ (5 : Int) = 1 by decide, show ¬ (5 : Int) = 2 by decide, show ¬ (5 : Int) = 3 by decide, show ¬ (5 : Int) = 4 by decide, if_false, if_true, Bool.and_eq_true, decide_eq_true_eq] at hr <;> omega
          by_cases h1 : v.kind = 1
          · rw [h1]
            simp only [beq_self_eq_true, cond_true]
            unfold fromBoolR fromBoolS
            cases t == 2
            · cases t == 4
              · rfl
              · cases v.n == 1
                · exact (textR_eq (s := [102, 97, 108, 115, 101]) (by decide)).trans (by unfold textS; rw [show Lib.validD [102, 97, 108, 115, 101] = true by decide +kernel]; rfl)
                · exact (textR_eq (s := [116, 114, 117, 101]) (by decide)).trans (by unfold textS; rw [show Lib.validD [116, 114, 117, 101] = true by decide +kernel]; rfl)
            · rfl
          · rw [show (v.kind == 1) = false by simpa using h1]
            have hN : fromNumR v.kind v.n v.scale t u = some (resC (fromNumS v.kind v.n v.scale t u)) := by
              unfold fromNumR fromNumS
              rw [hn, cond_true, pr_text hn, numR_eq hn]
              by_cases k1 : t = 1
              · rw [k1]
                simp only [beq_self_eq_true, cond_true]
                cases v.kind == 2 && (v.n == 0 || v.n == 1)
                · rfl
                · cases v.n == 1 <;> rfl
              · rw [show (t == 1) = false by simpa using k1]
                by_cases k2 : t = 2
                · rw [k2]; rfl
                · rw [show (t == 2) = false by simpa using k2]
                  by_cases k3 : t = 3
                  · rw [k3]; rfl
                  · rw [show (t == 3) = false by simpa using k3]
                    cases t == 4 <;> rfl
            have hT : v.kind = 4 → fromTextR v.s t u = some (resC (fromTextS v.s t u)) := by
              intro h4
              have := h200 (.inl h4)
              unfold fromTextR fromTextS
              rw [parR_eq (by omega)]
              by_cases k1 : t = 1
              · rw [k1]
                simp only [beq_self_eq_true, cond_true, trueS, falseS]
                cases v.s == [116, 114, 117, 101]
                · cases v.s == [102, 97, 108, 115, 101] <;> rfl
                · rfl
              · rw [show (t == 1) = false by simpa using k1]
                by_cases k2 : t = 2
                · rw [k2]; rfl
                · rw [show (t == 2) = false by simpa using k2]
                  by_cases k3 : t = 3
                  · rw [k3]; rfl
                  · rw [show (t == 3) = false by simpa using k3]
                    cases t == 5 <;> rfl
            have hB : fromBytesR v.s t = some (resC (fromBytesS v.s t)) := by
              unfold fromBytesR fromBytesS
              rw [textR_eq hs]
              cases t == 4 <;> rfl
            by_cases h2 : v.kind = 2
            · have e : (v.kind == 2) = true := by simpa using h2
              rw [e]
              exact hN
            · rw [show (v.kind == 2) = false by simpa using h2]
              by_cases h3 : v.kind = 3
              · have e : (v.kind == 3) = true := by simpa using h3
                rw [e]
                exact hN
              · rw [show (v.kind == 3) = false by simpa using h3]
                by_cases h4 : v.kind = 4
                · have e : (v.kind == 4) = true := by simpa using h4
                  rw [e]
                  exact hT h4
                · rw [show (v.kind == 4) = false by simpa using h4]
                  exact hB
        · rfl
      · rfl
def p_Cast : PFn := ⟨fun xs k => match xs with | [.agg [.int .i64 a, .int .i64 n, .int .i64 c, .str s], .agg [.int .i64 t, .int .i64 u]] => bif inI n && decide (s.length ≤ 1000000) then k (resC (castS ⟨a, n, c, s⟩ t u)) else none | _ => none, false⟩
theorem ok_Cast : FOK NGc Wc 33 p_Cast := by
  refine fok wokc ok_lCa (h := ⟨[], []⟩) Tryz.func33 rfl (by decide) ?_ ?_
  · intro R xs k
    simp only [p_Cast]
    split
    · exact cond_nat
    · rfl
  · intro xs r h
    simp only [p_Cast] at h
    split at h
    · rename_i a n c s t u
      rcases hb : (inI n && decide (s.length ≤ 1000000)) with _ | _ <;> rw [hb] at h
      · cases h
      · simp only [Bool.and_eq_true, decide_eq_true_eq] at hb
        exact ⟨0, (cast_raw a n c s t u).trans ((cast_body (v := ⟨a, n, c, s⟩) hb.1 hb.2).trans h)⟩
    · cases h
end Go.Proofs.YtelckbphbkebkaaGreatDoor
set_option linter.unusedVariables false
set_option linter.unusedSimpArgs false
set_option maxRecDepth 100000
namespace Go.Proofs.YtelckbphbkebkaaGreatDoor
open Go.RowKit

/-! ## Safe -/
def bP (b : Bool) : Option PV := some (.bool b)
def safeS (a s b t : Int) : Bool := bif !tyB a s || !tyB b t then false else bif a == b && s == t then true else
  bif a == 1 then b == 2 || b == 4 else bif a == 2 then b == 4 || (b == 3 && t == 0) else bif a == 3 then b == 4 || (b == 2 || (b == 3 && decide (t ≤ s))) else bif a == 4 then b == 5 else false
def safeA (a s b t : Int) : Option PV :=
  bif !!tyB a s then bif !tyB b t then bP false else bif a == b && (s == t && true) then bP true else
    bif a == 1 then bP (b == 2 || b == 4) else bif a == 2 then bif !(b == 4) then bP (b == 3 && (t == 0 && true)) else bP true else
    bif a == 3 then bP (b == 4 || b == 2 || b == 3 && decide (t ≤ s)) else bif a == 4 then bP (b == 5) else bP false
  else bP false
def safeE (P s t : Int) : Option PV := bif P == 23 then bP (t == 0) else bif P == 33 then bP (decide (t ≤ s)) else bP false
def safeR (P s t : Int) : Option PV :=
  bif P == 12 then bif P == 12 then bP true else safeE P s t else bif P == 14 then bif P == 14 then bP true else safeE P s t else bif P == 24 then bif P == 24 then bP true else safeE P s t else
  bif P == 32 then bif P == 32 then bP true else safeE P s t else bif P == 34 then bif P == 34 then bP true else safeE P s t else bif P == 45 then bP true else safeE P s t
theorem ty_kind {a s : Int} (h : tyB a s = true) : a = 1 ∨ a = 2 ∨ a = 3 ∨ a = 4 ∨ a = 5 := by
  unfold tyB at h
  by_cases h3 : a = 3
  · exact .inr (.inr (.inl h3))
  · rw [show (a == 3) = false by simpa using h3] at h
    simp only [cond_false, Bool.and_eq_true, decide_eq_true_eq] at h
    omega
theorem safe_body (a s b t : Int) : safeA a s b t = bP (safeS a s b t) := by
  unfold safeA safeS
  rcases h1 : tyB a s with _ | _
  · rfl
  · rcases h2 : tyB b t with _ | _
    · rfl
    · simp only [Bool.and_true, Bool.not_true, Bool.not_false, cond_true, cond_false, Bool.or_self]
      cases a == b && s == t
      · rw [cond_false, cond_false]
        rcases ty_kind h1 with rfl | rfl | rfl | rfl | rfl
        · rfl
        · cases b == 4 <;> rfl
        · cases b == 4 <;> cases b == 2 <;> rfl
        · rfl
        · rfl
      · rfl
theorem rsafe_body (a s b t : Int) : (bif !!tyB a s then bif !tyB b t then bP false else bif a == b && (s == t && true) then bP true else safeR (IntKind.i64.wrap (IntKind.i64.wrap (10 * a) + b)) s t else bP false) = bP (safeS a s b t) := by
  unfold safeS
  rcases h1 : tyB a s with _ | _
  · rfl
  · rcases h2 : tyB b t with _ | _
    · rfl
    · simp only [Bool.and_true, Bool.not_true, Bool.not_false, cond_true, cond_false, Bool.or_self]
      rcases h3 : a == b && s == t with _ | _
      · rw [cond_false, cond_false]
        rcases ty_kind h1 with rfl | rfl | rfl | rfl | rfl <;> rcases ty_kind h2 with rfl | rfl | rfl | rfl | rfl <;> first
          | rfl
          | (simp only [beq_self_eq_true, Bool.true_and] at h3
             first
               | (unfold tyB at h1 h2; simp only [Int.reduceBEq, cond_false, Bool.and_eq_true, decide_eq_true_eq, beq_iff_eq] at h1 h2; rw [h1.2, h2.2] at h3; cases h3)
               | (have : decide (t ≤ s) = decide (t ≤ s) := rfl; rfl))
      · rfl
def p_Safe : PFn := ⟨fun xs k => match xs with | [.agg [.int .i64 a, .int .i64 s], .agg [.int .i64 b, .int .i64 t]] => k (.bool (safeS a s b t)) | _ => none, false⟩
theorem p_Safe_nat : p_Safe.nat := by
  intro R xs k
  simp only [p_Safe]
  split <;> rfl
def p_first4 : PFn := ⟨fun xs k => match xs with | [] => k (.bool true) | _ => none, false⟩
/-! ## the two laws: runs -/
def castO {R : Type} (a n c : Int) (s : List UInt8) (t u : Int) (K : Val × Int → Option R) : Option R := bif inI n && decide (s.length ≤ 1000000) then K (castS ⟨a, n, c, s⟩ t u) else none
end Go.Proofs.YtelckbphbkebkaaGreatDoor
set_option linter.unusedVariables false
set_option linter.unusedSimpArgs false
set_option maxRecDepth 100000
namespace Go.Proofs.YtelckbphbkebkaaGreatDoor
open Go.RowKit

theorem right_forms {v : Val} (h : right v = true) : v = ⟨0, 0, 0, []⟩ ∨ (∃ n, (n = 0 ∨ n = 1) ∧ v = ⟨1, n, 0, []⟩) ∨ (∃ n, v = ⟨2, n, 0, []⟩) ∨ (∃ n c, 0 ≤ c ∧ c ≤ 6 ∧ v = ⟨3, n, c, []⟩) ∨
    (∃ s, s.length ≤ 200 ∧ Lib.validD s = true ∧ v = ⟨4, 0, 0, s⟩) ∨ (∃ s, s.length ≤ 200 ∧ v = ⟨5, 0, 0, s⟩) := by
  obtain ⟨k, n, c, s⟩ := v
  unfold right at h
  simp only at h
  by_cases h0 : k = 0
  · rw [if_pos h0] at h
    simp only [decide_eq_true_eq] at h
    obtain ⟨rfl, rfl, rfl⟩ := h
    subst h0
    exact .inl rfl
  rw [if_neg h0] at h
  by_cases h1 : k = 1
  · rw [if_pos h1] at h
    simp only [decide_eq_true_eq] at h
    obtain ⟨hn, rfl, rfl⟩ := h
    subst h1
    exact .inr (.inl ⟨n, hn, rfl⟩)
  rw [if_neg h1] at h
  by_cases h2 : k = 2
  · rw [if_pos h2] at h
    simp only [decide_eq_true_eq] at h
    obtain ⟨rfl, rfl⟩ := h
    subst h2
    exact .inr (.inr (.inl ⟨n, rfl⟩))
  rw [if_neg h2] at h
  by_cases h3 : k = 3
  · rw [if_pos h3] at h
    simp only [decide_eq_true_eq] at h
    obtain ⟨rfl, hc, hc'⟩ := h
    subst h3
    exact .inr (.inr (.inr (.inl ⟨n, c, hc, hc', rfl⟩)))
  rw [if_neg h3] at h
  by_cases h4 : k = 4
  · rw [if_pos h4] at h
    simp only [Bool.and_eq_true, decide_eq_true_eq] at h
    obtain ⟨⟨rfl, rfl, hs⟩, hv⟩ := h
    subst h4
    exact .inr (.inr (.inr (.inr (.inl ⟨s, hs, hv, rfl⟩))))
  rw [if_neg h4] at h
  by_cases h5 : k = 5
  · rw [if_pos h5] at h
    simp only [decide_eq_true_eq] at h
    obtain ⟨rfl, rfl, hs⟩ := h
    subst h5
    exact .inr (.inr (.inr (.inr (.inr ⟨s, hs, rfl⟩))))
  · rw [if_neg h5] at h; cases h
theorem ofB_iff {v : Val} {t u : Int} : ofB v t u = true ↔ tyB t u = true ∧ right v = true ∧ (v.kind = 0 ∨ (v.kind = t ∧ v.scale = u)) := by
  simp only [ofB, Bool.and_eq_true, Bool.or_eq_true, beq_iff_eq]
theorem castS_same {v : Val} {t u : Int} (h : ofB v t u = true) : castS v t u = (v, 0) := by
  have h' := ofB_iff.1 h
  unfold castS
  rw [h, h'.1, h'.2.1]
  by_cases h0 : v.kind = 0
  · have : v = vnull := by
      rcases right_forms h'.2.1 with e | ⟨_, _, e⟩ | ⟨_, e⟩ | ⟨_, _, _, _, e⟩ | ⟨_, _, _, e⟩ | ⟨_, _, e⟩ <;> rw [e] at h0 ⊢ <;> first | rfl | cases h0
    rw [this]; rfl
  · rw [show (v.kind == 0) = false by simpa using h0]; rfl
theorem castS_go {v : Val} {t u : Int} (hr : right v = true) (ht : tyB t u = true) (h0 : v.kind ≠ 0) (h : ofB v t u = false) : castS v t u =
    bif v.kind == 1 then fromBoolS v.n t else bif v.kind == 2 || v.kind == 3 then fromNumS v.kind v.n v.scale t u else bif v.kind == 4 then fromTextS v.s t u else fromBytesS v.s t := by
  unfold castS
  rw [h, hr, ht, show (v.kind == 0) = false by simpa using h0]
  rfl
/-! ## rescaling -/
theorem scaB_of {c : Int} (h0 : 0 ≤ c) (h6 : c ≤ 6) : scaleB c = true := scaleB_iff.2 ⟨h0, h6⟩
theorem over_not {n : Int} (h : inI n = true) : over64 n = false := by
  rw [inI_iff] at h
  unfold over64; rw [decide_eq_false (by omega), decide_eq_false (by omega)]; rfl
theorem sca_same {n c : Int} (hn : inI n = true) (h0 : 0 ≤ c) (h6 : c ≤ 6) : scaE n c c = 0 ∧ scaV n c c = n := by
  have e : sgn (scaN n c c) (decide (n < 0)) = n := by rw [sca_up (Int.le_refl c), Int.sub_self, tenI_0, Int.mul_one]
  unfold scaE scaV
  rw [scaB_of h0 h6, e]
  unfold ansE ansV
  rw [over_not hn]
  exact ⟨rfl, rfl⟩
theorem sca_down {n f t : Int} (hn : inI n = true) (h0 : 0 ≤ t) (ht : t ≤ f) (h6 : f ≤ 6) : scaE n f t = 0 := by
  by_cases e : t = f
  · subst e; exact (sca_same hn h0 h6).1
  · have h10 : 10 ≤ tenI (f - t) := by
      have : f - t = 1 ∨ f - t = 2 ∨ f - t = 3 ∨ f - t = 4 ∨ f - t = 5 ∨ f - t = 6 := by omega
      rcases this with h | h | h | h | h | h <;> rw [h] <;> decide
    have hov : over64 (sgn (scaN n f t) (decide (n < 0))) = false := by
      apply over_not
      rw [inI_iff] at hn ⊢
      unfold scaN
      rw [decide_eq_false (show ¬ f ≤ t by omega), cond_false]
      have ha : 0 ≤ absI n ∧ absI n ≤ 9223372036854775808 := by unfold absI; omega
      have hb : 0 ≤ roundI (absI n) (tenI (f - t)) ∧ roundI (absI n) (tenI (f - t)) ≤ 922337203685477581 := by
        unfold roundI
        have hq0 : 0 ≤ absI n / tenI (f - t) := Int.ediv_nonneg ha.1 (by omega)
        have hq1 : absI n / tenI (f - t) ≤ 922337203685477580 := by
          have h1 : absI n / tenI (f - t) * tenI (f - t) ≤ absI n := Int.ediv_mul_le _ (by omega)
          have h2 : absI n / tenI (f - t) * 10 ≤ absI n / tenI (f - t) * tenI (f - t) := Int.mul_le_mul_of_nonneg_left h10 hq0
          omega
        cases decide (tenI (f - t) ≤ 2 * (absI n % tenI (f - t)))
        · rw [cond_false]; omega
        · rw [cond_true]; omega
      unfold sgn
      cases decide (n < 0)
      · rw [cond_false]; omega
      · rw [cond_true]; omega
    unfold scaE
    rw [scaB_of (show 0 ≤ f by omega) h6, scaB_of h0 (show t ≤ 6 by omega)]
    simp only [Bool.and_self, cond_true, ansE]
    rw [hov]; rfl
theorem numS_same {n c t : Int} (hn : inI n = true) (h0 : 0 ≤ c) (h6 : c ≤ 6) : numS n c t c = (⟨t, n, c, []⟩, 0) := by
  obtain ⟨h1, h2⟩ := sca_same hn h0 h6
  unfold numS
  rw [h1, h2]; rfl
theorem ty_scale {t u : Int} (h : tyB t u = true) : 0 ≤ u ∧ u ≤ 6 ∧ (t ≠ 3 → u = 0) := by
  unfold tyB at h
  by_cases h3 : t = 3
  · rw [show (t == 3) = true by simpa using h3, cond_true] at h
    unfold scB at h
    simp only [Bool.and_eq_true, decide_eq_true_eq] at h
    exact ⟨h.1, h.2, fun e => absurd h3 e⟩
  · rw [show (t == 3) = false by simpa using h3] at h
    simp only [cond_false, Bool.and_eq_true, decide_eq_true_eq, beq_iff_eq] at h
    exact ⟨by omega, by omega, fun _ => h.2⟩
/-! ## CastSafe -/
theorem safe_law {v : Val} {f g t u : Int} (hn : inI v.n = true) (hs : safeS f g t u = true) (ho : ofB v f g = true) : (castS v t u).2 = 0 ∧ ((castS v t u).1.kind == 0) = (v.kind == 0) := by
  obtain ⟨hf, hr, hk⟩ := ofB_iff.1 ho
  have ht : tyB t u = true := by
    unfold safeS at hs
    rw [hf] at hs
    cases h : tyB t u
    · rw [h] at hs; cases hs
    · rfl
  rcases hof : ofB v t u with _ | _
  · have h0 : v.kind ≠ 0 := by
      intro e
      rw [ofB_iff.2 ⟨ht, hr, .inl e⟩] at hof
      cases hof
    obtain ⟨rfl, rfl⟩ := hk.resolve_left h0
    rw [castS_go hr ht h0 hof]
    have hne : (v.kind == t && v.scale == u) = false := by
      rw [Bool.eq_false_iff]
      intro e
      simp only [Bool.and_eq_true, beq_iff_eq] at e
      rw [ofB_iff.2 ⟨ht, hr, .inr e⟩] at hof
      cases hof
    unfold safeS at hs
    rw [hf, ht, hne] at hs
    obtain ⟨u0, u6, hu⟩ := ty_scale ht
    rcases right_forms hr with e | ⟨n, _, e⟩ | ⟨n, e⟩ | ⟨n, c, c0, c6, e⟩ | ⟨s, _, _, e⟩ | ⟨s, _, e⟩
    · rw [e] at h0; exact absurd rfl h0
    · rw [e] at hs ⊢
      simp only [Bool.not_true, Bool.or_self, cond_false, beq_self_eq_true, cond_true] at hs ⊢
      unfold fromBoolS
      rcases h2 : t == 2 with _ | _
      · rw [h2, Bool.false_or] at hs
        rw [hs]
        cases n == 1 <;> exact ⟨rfl, rfl⟩
      · exact ⟨rfl, rfl⟩
    · rw [e] at hs ⊢
      rw [e] at hn
      have hs' : (t == 4 || (t == 3 && u == 0)) = true := hs
      show (fromNumS 2 n 0 t u).2 = 0 ∧ ((fromNumS 2 n 0 t u).1.kind == 0) = false
      unfold fromNumS
      rcases h4 : t == 4 with _ | _
      · rw [h4, Bool.false_or] at hs'
        simp only [Bool.and_eq_true, beq_iff_eq] at hs'
        obtain ⟨rfl, rfl⟩ := hs'
        rw [numS_same hn (by omega) (by omega)]
        exact ⟨rfl, rfl⟩
      · simp only [beq_iff_eq] at h4
        subst h4
        exact ⟨rfl, rfl⟩
    · rw [e] at hs ⊢
      rw [e] at hn
      have hs' : (t == 4 || (t == 2 || (t == 3 && decide (u ≤ c)))) = true := hs
      show (fromNumS 3 n c t u).2 = 0 ∧ ((fromNumS 3 n c t u).1.kind == 0) = false
      unfold fromNumS
      by_cases h4 : t = 4
      · subst h4; exact ⟨rfl, rfl⟩
      · rw [show (t == 4) = false by simpa using h4, Bool.false_or] at hs'
        by_cases h2 : t = 2
        · subst h2
          have hu0 := hu (by decide)
          subst hu0
          have := sca_down hn (Int.le_refl 0) c0 c6
          show (numS n c 2 0).2 = 0 ∧ ((numS n c 2 0).1.kind == 0) = false
          unfold numS
          rw [this]
          exact ⟨rfl, rfl⟩
        · rw [show (t == 2) = false by simpa using h2, Bool.false_or] at hs'
          simp only [Bool.and_eq_true, beq_iff_eq, decide_eq_true_eq] at hs'
          obtain ⟨rfl, hle⟩ := hs'
          have := sca_down hn u0 hle c6
          show (numS n c 3 u).2 = 0 ∧ ((numS n c 3 u).1.kind == 0) = false
          unfold numS
          rw [this]
          exact ⟨rfl, rfl⟩
    · rw [e] at hs ⊢
      have hs' : (t == 5) = true := hs
      simp only [beq_iff_eq] at hs'
      subst hs'
      exact ⟨rfl, rfl⟩
    · rw [e] at hs
      cases hs
  · rw [castS_same hof]
    exact ⟨rfl, rfl⟩
/-! ## CastBack -/
theorem ty_text : tyB 4 0 = true := rfl
theorem right_text {s : List UInt8} (h : s.length ≤ 200) (hv : Lib.validD s = true) : right ⟨4, 0, 0, s⟩ = true := by
  unfold right
  simp [h, hv]
theorem ofB_text {v : Val} (hr : right v = true) (hk : v.kind = 4) : ofB v 4 0 = true := by
  rcases right_forms hr with e | ⟨n, _, e⟩ | ⟨n, e⟩ | ⟨n, c, _, _, e⟩ | ⟨s, h1, h2, e⟩ | ⟨s, _, e⟩ <;> rw [e] at hk ⊢ <;> first
    | (cases hk; done)
    | exact ofB_iff.2 ⟨rfl, right_text h1 h2, .inr ⟨rfl, rfl⟩⟩
theorem ofB_no {v : Val} {t u : Int} (h0 : v.kind ≠ 0) (h : v.kind ≠ t) : ofB v t u = false := by
  rw [Bool.eq_false_iff]
  intro e
  rcases (ofB_iff.1 e).2.2 with k | k
  · exact h0 k
  · exact h k.1
theorem back_text {s : List UInt8} {t u : Int} (h : s.length ≤ 200) (hv : Lib.validD s = true) (ht : tyB t u = true) (h4 : t ≠ 4) : castS ⟨4, 0, 0, s⟩ t u = fromTextS s t u := by
  rw [castS_go (right_text h hv) ht (show (4 : Int) ≠ 0 by decide) (ofB_no (show (4 : Int) ≠ 0 by decide) (fun e => h4 e.symm))]
  rfl
theorem back_law {v : Val} {t u : Int} (hn : inI v.n = true) (ho : ofB v t u = true) : ((castS v 4 0).2 ≠ 0 ∧ t = 5) ∨ ((castS v 4 0).2 = 0 ∧ castS (castS v 4 0).1 t u = (v, 0) ∧ inI (castS v 4 0).1.n = true ∧ (castS v 4 0).1.s.length ≤ 1000) := by
  obtain ⟨ht, hr, hk⟩ := ofB_iff.1 ho
  rcases right_forms hr with e | ⟨n, hn01, e⟩ | ⟨n, e⟩ | ⟨n, c, c0, c6, e⟩ | ⟨s, hs, hv, e⟩ | ⟨s, hs, e⟩
  · right
    have h4 : ofB v 4 0 = true := ofB_iff.2 ⟨rfl, hr, .inl (by rw [e])⟩
    rw [castS_same h4]
    refine ⟨rfl, castS_same ho, hn, ?_⟩
    rw [e]; simp
  · subst e
    obtain ⟨rfl, rfl⟩ := hk.resolve_left (show ¬ (1 : Int) = 0 by decide)
    right
    have h1 : castS ⟨1, n, 0, []⟩ 4 0 = fromBoolS n 4 := by
      rw [castS_go hr ty_text (show (1 : Int) ≠ 0 by decide) (ofB_no (show (1 : Int) ≠ 0 by decide) (show (1 : Int) ≠ 4 by decide))]; rfl
    rw [h1]
    rcases hn01 with rfl | rfl
    · refine ⟨rfl, ?_, rfl, by decide⟩
      exact (back_text (s := falseS) (by decide) (by decide +kernel) ht (show (1 : Int) ≠ 4 by decide)).trans rfl
    · refine ⟨rfl, ?_, rfl, by decide⟩
      exact (back_text (s := trueS) (by decide) (by decide +kernel) ht (show (1 : Int) ≠ 4 by decide)).trans rfl
  · subst e
    obtain ⟨rfl, rfl⟩ := hk.resolve_left (show ¬ (2 : Int) = 0 by decide)
    right
    have h1 : castS ⟨2, n, 0, []⟩ 4 0 = (⟨4, 0, 0, prV n 0⟩, 0) := by
      rw [castS_go hr ty_text (show (2 : Int) ≠ 0 by decide) (ofB_no (show (2 : Int) ≠ 0 by decide) (show (2 : Int) ≠ 4 by decide))]; rfl
    have hn : inI n = true := hn
    have hp := prV_ascii (sc := 0) hn
    rw [h1]
    refine ⟨rfl, ?_, rfl, by show (prV n 0).length ≤ 1000; omega⟩
    refine (back_text (by omega) (ascii_valid hp.1) ht (show (2 : Int) ≠ 4 by decide)).trans ?_
    show parS (prV n 0) 2 0 = _
    unfold parS
    rw [prV_parse hn (by decide)]
    exact numS_same hn (by omega) (by omega)
  · subst e
    obtain ⟨rfl, rfl⟩ := hk.resolve_left (show ¬ (3 : Int) = 0 by decide)
    right
    have h1 : castS ⟨3, n, c, []⟩ 4 0 = (⟨4, 0, 0, prV n c⟩, 0) := by
      rw [castS_go hr ty_text (show (3 : Int) ≠ 0 by decide) (ofB_no (show (3 : Int) ≠ 0 by decide) (show (3 : Int) ≠ 4 by decide))]; rfl
    have hn : inI n = true := hn
    have hp := prV_ascii (sc := c) hn
    rw [h1]
    refine ⟨rfl, ?_, rfl, by show (prV n c).length ≤ 1000; omega⟩
    refine (back_text (by omega) (ascii_valid hp.1) ht (show (3 : Int) ≠ 4 by decide)).trans ?_
    show parS (prV n c) 3 c = _
    unfold parS
    rw [prV_parse hn (scaB_of c0 c6)]
    show numS n ((c.toNat : Nat) : Int) 3 c = _
    rw [show ((c.toNat : Nat) : Int) = c by omega]
    exact numS_same hn c0 c6
  · subst e
    obtain ⟨rfl, rfl⟩ := hk.resolve_left (show ¬ (4 : Int) = 0 by decide)
    right
    rw [castS_same ho]
    exact ⟨rfl, castS_same ho, rfl, by show s.length ≤ 1000; omega⟩
  · subst e
    obtain ⟨rfl, rfl⟩ := hk.resolve_left (show ¬ (5 : Int) = 0 by decide)
    have h1 : castS ⟨5, 0, 0, s⟩ 4 0 = textS s := by
      rw [castS_go hr ty_text (show (5 : Int) ≠ 0 by decide) (ofB_no (show (5 : Int) ≠ 0 by decide) (show (5 : Int) ≠ 4 by decide))]; rfl
    rw [h1]
    unfold textS
    rcases hv : Lib.validD s with _ | _
    · left; exact ⟨show (40 : Int) ≠ 0 by decide, rfl⟩
    · right
      refine ⟨rfl, ?_, rfl, by show s.length ≤ 1000; omega⟩
      exact (back_text hs hv ht (show (5 : Int) ≠ 4 by decide)).trans rfl
/-! ## the laws -/
theorem eq4_val (v u : Val) : eq4 v.kind u.kind v.n u.n v.scale u.scale v.s u.s = decide (v = u) := by
  unfold eq4
  rw [Bool.eq_iff_iff]
  simp only [Bool.and_eq_true, beq_iff_eq, and_true, decide_eq_true_eq]
  constructor
  · rintro ⟨h1, h2, h3, h4⟩; exact Val.ext' h1 h2 h3 h4
  · rintro rfl; exact ⟨rfl, rfl, rfl, rfl⟩
theorem castO_eq {R : Type} {v : Val} {t u : Int} {K : Val × Int → Option R} (hn : inI v.n = true) (hs : v.s.length ≤ 1000000) : castO v.kind v.n v.scale v.s t u K = K (castS v t u) := by
  unfold castO
  exact cond_t (by rw [hn, decide_eq_true hs]; rfl)
theorem ofO_eq {R : Type} {v : Val} {t u : Int} {K : Bool → Option R} (hs : v.s.length ≤ 1000000) : ofO v.kind v.n v.scale v.s t u K = K (ofB v t u) := by
  unfold ofO
  exact cond_t (decide_eq_true hs)
theorem rel_typ (M : Mem) (a b : Int) : RelD M (.agg [.int .i64 a, .int .i64 b]) (.agg #[.int .i64 a, .int .i64 b]) := by
  simp only [RelD]
  exact ⟨[.int .i64 a, .int .i64 b], rfl, rel_pair _ _ _⟩
theorem val_rel (M : Mem) (a n c : Int) (s : List UInt8) : RelD M (.agg [.int .i64 a, .int .i64 n, .int .i64 c, .str s]) (.agg #[.int .i64 a, .int .i64 n, .int .i64 c, .string ⟨s.toArray⟩]) := by
  simp only [RelD, RelL]
  exact ⟨_, rfl, _, _, rfl, rfl, rfl, _, _, rfl, rfl, rfl, _, _, rfl, rfl, rfl, _, _, rfl, rfl, rfl, rfl⟩
end Go.Proofs.YtelckbphbkebkaaGreatDoor
