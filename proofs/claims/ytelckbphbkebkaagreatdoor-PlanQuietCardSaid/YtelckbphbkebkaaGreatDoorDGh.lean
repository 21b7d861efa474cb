/-
  Decimal: texts: digits, CutPrefix, Cut, Atoi.
  Decimal: what Parse does.
  Decimal: what the document's Parse does; the law DecimalParses.
  Decimal: the text of a decimal; the law DecimalPrints.
  Decimal: the text of a decimal is read again; the law DecimalPrints.
-/
import Derived.Test.YtelckbphbkebkaaGreatDoorDza
import Derived.Test.YtelckbphbkebkaaGreatDoorDshelf2
import Derived.Lib.SmallJoins
set_option linter.unusedVariables false
set_option linter.unusedSimpArgs false
namespace Go.Proofs.YtelckbphbkebkaaGreatDoor
open Go.RowKit

/-! ## the two errors are there -/
def ErrIs (w : World) (name : String) : Prop := ∃ tp p, w.var? Tryz.prog name = some #[.iface tp p]
def We (w : World) : Prop := Wd w ∧ ErrIs w "strconv.ErrSyntax" ∧ ErrIs w "strconv.ErrRange"
theorem gSyntax : Tryz.prog.globalNamed "strconv.ErrSyntax" = some 3 := by kernel_rfl
theorem gRange : Tryz.prog.globalNamed "strconv.ErrRange" = some 4 := by kernel_rfl
theorem woke : WOK NGd We := by
  intro w w' h hW
  refine ⟨wokd w w' h hW.1, ?_, ?_⟩
  · obtain ⟨tp, p, hv⟩ := hW.2.1
    refine ⟨tp, p, ?_⟩
    rw [← hv]
    unfold World.var?
    rw [gSyntax]
    simp only [Option.bind_some]
    rw [h _ (of_decide_eq_true (by kernel_rfl))]
  · obtain ⟨tp, p, hv⟩ := hW.2.2
    refine ⟨tp, p, ?_⟩
    rw [← hv]
    unfold World.var?
    rw [gRange]
    simp only [Option.bind_some]
    rw [h _ (of_decide_eq_true (by kernel_rfl))]
theorem fok_mono {NG : Nat} {W V : World → Prop} (h : ∀ w, V w → W w) {f : FuncId} {p : PFn} (hp : FOK NG W f p) : FOK NG V f p where
  nat := hp.nat
  call := fun M xs vs r hW => hp.call M xs vs r (h _ hW)
theorem we_d : ∀ w, We w → Wd w := fun w h => h.1

/-! ## digits -/
def ixB {R : Type} (s : List UInt8) (i : Int) (K : UInt8 → Option R) : Option R := bif decide (0 ≤ i) && decide (i < (s.length : Int)) then s[i.toNat]?.bind K else none
theorem ixB_eq {R : Type} {s : List UInt8} {i : Nat} {c : UInt8} {K : UInt8 → Option R} (h : s[i]? = some c) : ixB s (i : Int) K = K c := by
  have := (List.getElem?_eq_some_iff.1 h).1
  unfold ixB
  rw [cond_t (by rw [decide_eq_true (by omega), decide_eq_true (by omega)]; rfl), Int.toNat_natCast, h]
  rfl
def isD (c : UInt8) : Bool := decide (48 ≤ c.toNat) && decide (c.toNat ≤ 57)
def digB (s : List UInt8) : Bool := s.all isD && !(s == [])
def hDig : Hints := ⟨[], [(0, ⟨[(0, false), (5, false), (6, false)], []⟩)]⟩
def frDig (s : List UInt8) (n i : Int) : St := frame 22 [(0, (.str s, 0)), (5, (.int .i64 n, 0)), (6, (.int .i64 i, 0))] []
noncomputable def digLoop (fu n : Nat) (st : St) : Option PV := loopF (en []) hDig fu false Tryz.f127 [1, 0, 1, 0] 0 n st
theorem dig_raw (fu : Nat) (s : List UInt8) : prun (en []) hDig fu false Tryz.f127 [.str s] = digLoop fu fu (frDig s (s.length : Int) 0) := by kernel_rfl
theorem dig_step (fu : Nat) (s : List UInt8) (n i : Int) (K : St → Option PV) :
    stepF (en []) hDig fu false Tryz.f127 [1, 0, 1, 0] (frDig s n i) (fun st => pnorm (hDig.loop.lookup 0) st K) =
    bif decide (i < n) then ixB s i fun v => bif !decide ((v.toNat : Int) < 48) then ixB s i fun v => bif decide (57 < (v.toNat : Int)) then some (.bool false) else K (frDig s n (IntKind.i64.wrap (i + 1))) else some (.bool false)
    else some (.bool (!(s == []))) := by kernel_rfl
theorem dig_loop (fu : Nat) (s : List UInt8) (hs : s.length ≤ 1000) : ∀ (m i n : Nat), i + m = s.length → m < n → digLoop fu n (frDig s (s.length : Int) (i : Int)) = some (.bool ((s.drop i).all isD && !(s == [])))
  | m, i, 0, _, h => by omega
  | 0, i, n + 1, hi, hn => by
    unfold digLoop
    rw [loopF_succ, dig_step, cond_f (decide_eq_false (by omega)), List.drop_of_length_le (by omega)]
    rfl
  | m + 1, i, n + 1, hi, hn => by
    unfold digLoop
    have hc := List.getElem?_eq_getElem (l := s) (i := i) (by omega)
    rw [loopF_succ, dig_step, cond_t (decide_eq_true (by omega)), ixB_eq hc, ixB_eq hc, wrapI_of (by omega) (by omega), List.drop_eq_getElem_cons (by omega), List.all_cons]
    generalize s[i] = c
    have ih := dig_loop fu s hs m (i + 1) n (by omega) (by omega)
    unfold digLoop at ih
    unfold isD
    by_cases h1 : 48 ≤ c.toNat
    · rw [cond_t (by rw [decide_eq_false (by omega)]; rfl), decide_eq_true h1]
      by_cases h2 : c.toNat ≤ 57
      · rw [cond_f (decide_eq_false (by omega)), decide_eq_true h2]
        exact ih
      · rw [cond_t (decide_eq_true (by omega)), decide_eq_false h2]; rfl
    · rw [cond_f (by rw [decide_eq_true (by omega)]; rfl), decide_eq_false h1]; rfl
def p_digits : PFn := ⟨fun xs k => match xs with | [.str s] => bif decide (s.length ≤ 500) then k (.bool (digB s)) else none | _ => none, false⟩
theorem ok_digits : FOK NGd Wd 127 p_digits := by
  refine fok wokd allOK_nil (h := hDig) Tryz.func127 rfl (by decide) ?_ ?_
  · intro R xs k
    simp only [p_digits]
    split
    · exact cond_nat
    · rfl
  · intro xs r h
    simp only [p_digits] at h
    split at h
    · rename_i s
      rcases hb : decide (s.length ≤ 500) with _ | _ <;> rw [hb] at h
      · cases h
      · simp only [cond_true, Option.some.injEq] at h
        subst h
        simp only [decide_eq_true_eq] at hb
        refine ⟨1000, (dig_raw 1000 s).trans ?_⟩
        exact dig_loop 1000 s (by omega) s.length 0 1000 (by omega) (by omega)
    · cases h

/-! ## CutPrefix -/
def hasM (s : List UInt8) : Bool := s.head? == some 45
def p_HasPrefix : PFn := ⟨fun xs k => match xs with | [.str s, .str [45]] => k (.bool (hasM s)) | _ => none, false⟩
theorem hasp_raw (s : List UInt8) : prun (en []) ⟨[], []⟩ 0 false Tryz.f161 [.str s, .str [45]] =
    bif decide (1 ≤ (s.length : Int)) then bif decide (1 ≤ (s.length : Int)) then some (.bool ((s.take 1).drop 0 == [45])) else none else some (.bool false) := by kernel_rfl
theorem ok_HasPrefix : FOK NGd Wd 161 p_HasPrefix := by
  refine fok wokd allOK_nil (h := ⟨[], []⟩) Tryz.func161 rfl (by decide) ?_ ?_
  · intro R xs k
    simp only [p_HasPrefix]
    split <;> rfl
  · intro xs r h
    simp only [p_HasPrefix] at h
    split at h
    · rename_i s
      refine ⟨0, (hasp_raw s).trans ?_⟩
      rw [← h]
      cases s with
      | nil => rfl
      | cons c t =>
        rw [cond_t (decide_eq_true (by simp; omega)), cond_t (decide_eq_true (by simp; omega))]
        simp [hasM]
    · cases h
def noM (s : List UInt8) : List UInt8 := bif hasM s then s.drop 1 else s
def p_CutP : PFn := ⟨fun xs k => match xs with | [.str s, .str [45]] => k (.tuple [.str (noM s), .bool (hasM s)]) | _ => none, false⟩
theorem cutp_raw (s : List UInt8) : prun (en [(161, p_HasPrefix)]) ⟨[], []⟩ 0 false Tryz.f148 [.str s, .str [45]] =
    bif !hasM s then some (.tuple [.str s, .bool false]) else bif decide (1 ≤ (s.length : Int)) then some (.tuple [.str ((s.take s.length).drop 1), .bool true]) else none := by kernel_rfl
theorem ok_CutPl : FOK NGd Wd 148 p_CutP := by
  refine fok wokd (allOK_cons ok_HasPrefix allOK_nil) (h := ⟨[], []⟩) Tryz.func148 rfl (by decide) ?_ ?_
  · intro R xs k
    simp only [p_CutP]
    split <;> rfl
  · intro xs r h
    simp only [p_CutP] at h
    split at h
    · rename_i s
      refine ⟨0, (cutp_raw s).trans ?_⟩
      rw [← h]
      unfold noM
      cases hm : hasM s
      · rfl
      · have : s ≠ [] := by intro e; subst e; cases hm
        have hl : 0 < s.length := List.length_pos_iff.2 this
        simp only [Bool.not_true, cond_false, cond_true]
        rw [cond_t (decide_eq_true (by omega)), List.take_length]
    · cases h
theorem cutpo_raw (s : List UInt8) : prun (en [(148, p_CutP)]) ⟨[], []⟩ 0 false Tryz.f124 [.str s, .str [45]] = some (.tuple [.str (noM s), .bool (hasM s)]) := by kernel_rfl
theorem ok_CutP : FOK NGd Wd 124 p_CutP := by
  refine fok wokd (allOK_cons ok_CutPl allOK_nil) (h := ⟨[], []⟩) Tryz.func124 rfl (by decide) ?_ ?_
  · intro R xs k
    simp only [p_CutP]
    split <;> rfl
  · intro xs r h
    simp only [p_CutP] at h
    split at h
    · rename_i s
      exact ⟨0, (cutpo_raw s).trans h⟩
    · cases h

/-! ## Cut -/
def notP (c : UInt8) : Bool := !(c == 46)
def cutA (s : List UInt8) : List UInt8 := s.takeWhile notP
def cutR (s : List UInt8) : List UInt8 := (s.dropWhile notP).drop 1
def cutB (s : List UInt8) : Bool := s.any fun c => c == 46
theorem first_ix (s : List UInt8) : ∀ i, firstIx 46 i s = bif cutB s then ((i + (cutA s).length : Nat) : Int) else -1 := by
  induction s with
  | nil => intro i; rfl
  | cons c s ih =>
    intro i
    unfold firstIx cutB cutA
    by_cases h : c = 46
    · subst h; simp [notP]
    · have h1 : ¬ ((c.toNat : Int) = 46) := by
        intro e
        apply h
        apply UInt8.toNat_inj.1
        simp only [UInt8.reduceToNat]; omega
      have h2 : (c == 46) = false := by simpa using h
      rw [decide_eq_false h1, cond_false, ih]
      simp only [List.any_cons, h2, Bool.false_or, List.takeWhile_cons, notP, Bool.not_false, if_true, List.length_cons]
      unfold cutB cutA notP
      cases s.any fun c => c == 46 <;> simp <;> omega
def p_IndexByte : PFn := ⟨fun xs k => match xs with | [.str s, .int .u8 c] => bif decide (0 ≤ c) && decide (c ≤ 255) then k (.int .i64 (firstIx c 0 s)) else none | _ => none, false⟩
theorem ixbyte_raw (s : List UInt8) (c : Int) : prun (en [(187, p_IndexByteString)]) ⟨[], []⟩ 0 false Tryz.f175 [.str s, .int .u8 c] = bif decide (0 ≤ c) && decide (c ≤ 255) then some (.int .i64 (firstIx c 0 s)) else none := by kernel_rfl
theorem ok_IndexByte : FOK NGd Wd 175 p_IndexByte := by
  refine fok wokd (allOK_cons ok_IndexByteString allOK_nil) (h := ⟨[], []⟩) Tryz.func175 rfl (by decide) ?_ ?_
  · intro R xs k
    simp only [p_IndexByte]
    split
    · exact cond_nat
    · rfl
  · intro xs r h
    simp only [p_IndexByte] at h
    split at h
    · exact ⟨0, (ixbyte_raw _ _).trans h⟩
    · cases h
def p_Index : PFn := ⟨fun xs k => match xs with | [.str s, .str [46]] => k (.int .i64 (bif [46] == s then 0 else firstIx 46 0 s)) | _ => none, false⟩
theorem index_raw (s : List UInt8) : prun (en [(175, p_IndexByte)]) ⟨[], []⟩ 0 false Tryz.f163 [.str s, .str [46]] = bif (false || ([46] == s)) then some (.int .i64 0) else some (.int .i64 (firstIx 46 0 s)) := by kernel_rfl
theorem ok_Index : FOK NGd Wd 163 p_Index := by
  refine fok wokd (allOK_cons ok_IndexByte allOK_nil) (h := ⟨[], []⟩) Tryz.func163 rfl (by decide) ?_ ?_
  · intro R xs k
    simp only [p_Index]
    split <;> rfl
  · intro xs r h
    simp only [p_Index] at h
    split at h
    · rename_i s
      refine ⟨0, (index_raw s).trans ?_⟩
      rw [← h]
      cases [46] == s <;> rfl
    · cases h
def p_Cut : PFn := ⟨fun xs k => match xs with | [.str s, .str [46]] => bif decide (s.length ≤ 500) then k (.tuple [.str (cutA s), .str (cutR s), .bool (cutB s)]) else none | _ => none, false⟩
theorem cut_raw (s : List UInt8) (i : Int) (hi : (bif [46] == s then 0 else firstIx 46 0 s) = i) : prun (en [(163, p_Index)]) ⟨[], []⟩ 0 false Tryz.f150 [.str s, .str [46]] =
    bif decide (0 ≤ i) then bif decide (0 ≤ i) && decide (i ≤ (s.length : Int)) then bif decide (0 ≤ IntKind.i64.wrap (i + 1)) && decide (IntKind.i64.wrap (i + 1) ≤ (s.length : Int)) then
      some (.tuple [.str ((s.take i.toNat).drop 0), .str ((s.take s.length).drop (IntKind.i64.wrap (i + 1)).toNat), .bool true]) else none else none
    else some (.tuple [.str s, .str [], .bool false]) := by
  subst hi
  kernel_rfl
theorem cut_ix (s : List UInt8) : (bif [46] == s then 0 else firstIx 46 0 s) = bif cutB s then (((cutA s).length : Nat) : Int) else -1 := by
  by_cases h : [46] = s
  · subst h; rfl
  · have : ([46] == s) = false := by simpa using h
    rw [this, cond_false, first_ix]
    simp
theorem cut_none {s : List UInt8} (h : cutB s = false) : cutA s = s ∧ cutR s = [] := by
  induction s with
  | nil => exact ⟨rfl, rfl⟩
  | cons c s ih =>
    unfold cutB at h
    simp only [List.any_cons, Bool.or_eq_false_iff] at h
    obtain ⟨i1, i2⟩ := ih h.2
    have hn : notP c = true := by unfold notP; rw [h.1]; rfl
    unfold cutA cutR at *
    rw [List.takeWhile_cons, List.dropWhile_cons, hn]
    simp only [if_true, i1, i2]
    exact ⟨trivial, trivial⟩
theorem cut_some {s : List UInt8} (h : cutB s = true) : s = cutA s ++ 46 :: cutR s ∧ (cutA s).length < s.length := by
  induction s with
  | nil => cases h
  | cons c s ih =>
    unfold cutA cutR
    rw [List.takeWhile_cons, List.dropWhile_cons]
    by_cases hc : c = 46
    · subst hc
      simp [notP]
    · have hn : notP c = true := by unfold notP; simpa using hc
      have h2 : cutB s = true := by
        unfold cutB at h ⊢
        simp only [List.any_cons, Bool.or_eq_true, beq_iff_eq] at h
        rcases h with h | h
        · exact (hc h).elim
        · exact h
      obtain ⟨i1, i2⟩ := ih h2
      rw [hn]
      simp only [if_true, List.cons_append, List.length_cons]
      unfold cutA cutR at i1
      unfold cutA at i2
      exact ⟨congrArg (c :: ·) i1, by omega⟩
theorem ok_Cutl : FOK NGd Wd 150 p_Cut := by
  refine fok wokd (allOK_cons ok_Index allOK_nil) (h := ⟨[], []⟩) Tryz.func150 rfl (by decide) ?_ ?_
  · intro R xs k
    simp only [p_Cut]
    split
    · exact cond_nat
    · rfl
  · intro xs r h
    simp only [p_Cut] at h
    split at h
    · rename_i s
      rcases hb : decide (s.length ≤ 500) with _ | _ <;> rw [hb] at h
      · cases h
      · simp only [cond_true, Option.some.injEq] at h
        subst h
        simp only [decide_eq_true_eq] at hb
        refine ⟨0, (cut_raw s _ (cut_ix s)).trans ?_⟩
        cases hc : cutB s
        · obtain ⟨e1, e2⟩ := cut_none hc
          rw [e1, e2]; rfl
        · obtain ⟨e1, e2⟩ := cut_some hc
          simp only [cond_true]
          have hw : IntKind.i64.wrap (((cutA s).length : Int) + 1) = ((cutA s).length : Int) + 1 := wrapI_of (by omega) (by omega)
          rw [cond_t (decide_eq_true (by omega)), cond_t (by rw [decide_eq_true (by omega), decide_eq_true (by omega)]; rfl)]
          simp only [hw]
          rw [cond_t (by rw [decide_eq_true (by omega), decide_eq_true (by omega)]; rfl), List.take_length, List.drop_zero, Int.toNat_natCast, show ((((cutA s).length : Nat) : Int) + 1).toNat = (cutA s).length + 1 by omega]
          have t1 : s.take (cutA s).length = cutA s := by
            conv => lhs; arg 2; rw [e1]
            exact List.take_left
          have t2 : s.drop ((cutA s).length + 1) = cutR s := by
            conv => lhs; arg 2; rw [e1]
            rw [show cutA s ++ 46 :: cutR s = (cutA s ++ [46]) ++ cutR s by simp]
            exact List.drop_left' (by simp)
          rw [t1, t2]
    · cases h
theorem cuto_raw (s : List UInt8) : prun (en [(150, p_Cut)]) ⟨[], []⟩ 0 false Tryz.f126 [.str s, .str [46]] = bif decide (s.length ≤ 500) then some (.tuple [.str (cutA s), .str (cutR s), .bool (cutB s)]) else none := by kernel_rfl
theorem ok_Cut : FOK NGd Wd 126 p_Cut := by
  refine fok wokd (allOK_cons ok_Cutl allOK_nil) (h := ⟨[], []⟩) Tryz.func126 rfl (by decide) ?_ ?_
  · intro R xs k
    simp only [p_Cut]
    split
    · exact cond_nat
    · rfl
  · intro xs r h
    simp only [p_Cut] at h
    split at h
    · exact ⟨0, (cuto_raw _).trans h⟩
    · cases h

/-! ## Atoi -/
def atoK {R : Type} (s : List UInt8) (A : Int → Option R) (B : Option R) (C : Int → Option R) : Option R :=
  match Lib.atoiAll s with
  | .ok v => A v
  | .range => C (Lib.atoiSat s)
  | _ => B
def p_Atoi : PFn := ⟨fun xs k => match xs with | [.str s] => bif decide (s.length ≤ 1000) then atoK s (fun v => k (.tuple [.int .i64 v, .nilIface])) (k (.tuple [.int .i64 0, .iface 212 .nptr])) (fun v => k (.tuple [.int .i64 v, .iface 212 .nptr])) else none | _ => none, false⟩
theorem ok_Atoi : FOK NGd We 128 p_Atoi := by
  refine fok_calls Tryz.func128 (by kernel_rfl) (by decide) ?_ rfl ?_
  · intro R xs k
    simp only [p_Atoi]
    split
    · rename_i s
      unfold atoK
      cases decide (s.length ≤ 1000)
      · rfl
      · simp only [cond_true]
        cases Lib.atoiAll s <;> rfl
    · rfl
  · intro xs r M vs hW h hr
    simp only [p_Atoi] at h
    split at h
    · rename_i s
      rcases hb : decide (s.length ≤ 1000) with _ | _ <;> rw [hb] at h
      · cases h
      · simp only [cond_true] at h
        simp only [decide_eq_true_eq] at hb
        obtain ⟨v, rfl, h1⟩ := relT1 hr
        simp only [RelD] at h1
        subst h1
        have hsz : (ByteArray.mk s.toArray).size ≤ 1000 := by show s.toArray.size ≤ 1000; simpa using hb
        obtain ⟨_, ⟨t1, q1, e1⟩, ⟨t2, q2, e2⟩⟩ := hW
        unfold atoK at h
        cases ha : Lib.atoiAll s <;> rw [ha] at h <;> dsimp only at h
        · rename_i n
          simp only [Option.some.injEq] at h
          subst h
          refine (Any.strconv_Atoi_ok Tryz.laysC172 ⟨s.toArray⟩ (by omega) n (by simpa using ha) M.w).mono ?_
          rintro e w' ⟨rfl, hw⟩
          refine ⟨_, rfl, ?_, fun U' _ => ?_⟩
          · rcases hw with rfl | ⟨t, rfl⟩
            · exact Below.refl _ _
            · exact Go.Joins.below_bytesWorld _ _ _ _ (Nat.le_refl _)
          · simp only [RelD, RelT]
            exact ⟨[_, _], rfl, _, _, rfl, rfl, _, _, rfl, rfl, rfl⟩
        · simp only [Option.some.injEq] at h
          subst h
          refine (Any.strconv_Atoi_syntax_var Tryz.laysC172 ⟨s.toArray⟩ (by omega) (by simpa using ha) t1 q1 M.w e1).mono ?_
          rintro e w' ⟨N, rfl, _, _, hbl⟩
          refine ⟨_, rfl, hbl, fun U' _ => ?_⟩
          simp only [RelD, RelT]
          exact ⟨[_, _], rfl, _, _, rfl, rfl, _, _, rfl, ⟨_, rfl, _, rfl⟩, rfl⟩
        · simp only [Option.some.injEq] at h
          subst h
          refine (Any.strconv_Atoi_range_var Tryz.laysC172 ⟨s.toArray⟩ (by omega) (by simpa using ha) t2 q2 M.w e2).mono ?_
          rintro e w' ⟨N, rfl, _, _, hbl⟩
          refine ⟨_, rfl, hbl, fun U' _ => ?_⟩
          simp only [RelD, RelT]
          exact ⟨[_, _], rfl, _, _, rfl, rfl, _, _, rfl, ⟨_, rfl, _, rfl⟩, rfl⟩
    · cases h
end Go.Proofs.YtelckbphbkebkaaGreatDoor
set_option linter.unusedVariables false
set_option linter.unusedSimpArgs false
namespace Go.Proofs.YtelckbphbkebkaaGreatDoor
open Go.RowKit

/-! ## the number that digits spell -/
def vacc (a : Nat) (l : List UInt8) : Nat := l.foldl (fun a c => a * 10 + (c.toNat - 48)) a
def digV (l : List UInt8) : Nat := vacc 0 l
theorem vacc_ge : ∀ (l : List UInt8) (a : Nat), a ≤ vacc a l
  | [], a => Nat.le_refl _
  | c :: l, a => Nat.le_trans (by omega) (vacc_ge l (a * 10 + (c.toNat - 48)))
theorem pu10 : ∀ (l : List UInt8) (a : Nat), l.all isD = true → a < 18446744073709551616 → Lib.parseUint10 a l = if vacc a l < 18446744073709551616 then .ok (vacc a l) else .range
  | [], a, _, h => by
    show Lib.NumEnd.ok a = if a < _ then _ else _
    rw [if_pos h]; rfl
  | c :: l, a, hd, h => by
    rw [List.all_cons, Bool.and_eq_true] at hd
    have hc := hd.1
    unfold isD at hc
    simp only [Bool.and_eq_true, decide_eq_true_eq] at hc
    have e : vacc a (c :: l) = vacc (a * 10 + (c.toNat - 48)) l := rfl
    have hge := vacc_ge l (a * 10 + (c.toNat - 48))
    unfold Lib.parseUint10
    rw [if_pos hc, e]
    by_cases h1 : 1844674407370955162 ≤ a
    · rw [if_pos h1, if_neg (by omega)]
    · rw [if_neg h1]
      by_cases h2 : 18446744073709551616 ≤ a * 10 + (c.toNat - 48)
      · rw [if_pos h2, if_neg (by omega)]
      · rw [if_neg h2]
        exact pu10 l _ hd.2 (by omega)
theorem atoi_digits {d : List UInt8} {m : Bool} (hd : d.all isD = true) (hne : d ≠ []) : Lib.atoiAll ((bif m then [45] else []) ++ d) = bif over64 (sgn (digV d) m) then .range else .ok (sgn (digV d) m) := by
  have hp : Lib.parseMag d = if digV d < 18446744073709551616 then .ok (digV d) else .range := by
    unfold Lib.parseMag
    rw [if_neg hne]
    exact pu10 d 0 hd (by decide)
  cases m
  · obtain ⟨c, r, rfl⟩ := List.exists_cons_of_ne_nil hne
    rw [List.all_cons, Bool.and_eq_true] at hd
    have hc := hd.1
    unfold isD at hc
    simp only [Bool.and_eq_true, decide_eq_true_eq] at hc
    rw [cond_false, List.nil_append, Lib.atoiAll_plain c r (by omega) (by omega), hp]
    generalize digV (c :: r) = N
    unfold sgn over64
    rw [cond_false, decide_eq_false (show ¬ (N : Int) < -9223372036854775808 by omega), Bool.false_or]
    by_cases h : N < 18446744073709551616
    · rw [if_pos h]
      unfold Lib.signless
      by_cases k : 9223372036854775807 < (N : Int)
      · rw [decide_eq_true k]
        simp only [cond_true]
        rw [if_pos (by omega)]
      · rw [decide_eq_false k]
        simp only [cond_false]
        rw [if_neg (by omega)]
    · rw [if_neg h, decide_eq_true (by omega)]; rfl
  · rw [cond_true, List.singleton_append, Lib.atoiAll_minus, hp]
    generalize digV d = N
    unfold sgn over64
    rw [cond_true, decide_eq_false (show ¬ 9223372036854775807 < -(N : Int) by omega), Bool.or_false]
    by_cases h : N < 18446744073709551616
    · rw [if_pos h]
      unfold Lib.signed
      by_cases k : -(N : Int) < -9223372036854775808
      · rw [decide_eq_true k]
        simp only [cond_true]
        rw [if_pos (by omega)]
      · rw [decide_eq_false k]
        simp only [cond_false]
        rw [if_neg (by omega)]
    · rw [if_neg h, decide_eq_true (by omega)]; rfl

/-! ## the decimal of a text -/
def badP (w r : List UInt8) (pt : Bool) : Bool := !digB w || (decide (1 < w.length) && (w.head? == some 48)) || (pt && (!digB r || decide (6 < r.length)))
def valP (w r : List UInt8) (pt m : Bool) : Option (Int × Nat) :=
  bif badP w r pt then none else bif over64 (sgn (digV (w ++ r)) m) || (sgn (digV (w ++ r)) m == 0 && m) then none else some (sgn (digV (w ++ r)) m, r.length)
def parseP (s : List UInt8) : Option (Int × Nat) := valP (cutA (noM s)) (cutR (noM s)) (cutB (noM s)) (hasM s)
def resP (o : Option (Int × Nat)) : PV := .tuple [.int .i64 (o.elim 0 fun p => p.1), .int .i64 (o.elim 0 fun p => (p.2 : Int)), .bool o.isSome]
def failP : Option PV := some (.tuple [.int .i64 0, .int .i64 0, .bool false])
def tailC (w r : List UInt8) (m : Bool) (pre : List UInt8) : Option PV :=
  bif decide (pre.length + w.length ≤ 9223372036854775807) then bif decide ((pre ++ w).length + r.length ≤ 9223372036854775807) then bif decide ((pre ++ w ++ r).length ≤ 1000) then
    atoK (pre ++ w ++ r) (fun n => bif n == 0 && m then failP else some (.tuple [.int .i64 n, .int .i64 (r.length : Int), .bool true])) failP (fun _ => failP)
  else none else none else none
def tailP (w r : List UInt8) (m : Bool) : Option PV := bif m then tailC w r m [45] else tailC w r m []
def digO {R : Type} (s : List UInt8) (k : Bool → Option R) : Option R := bif decide (s.length ≤ 500) then k (digB s) else none
def skelP {R : Type} (Q L pt X : Bool) (I : (Bool → Option R) → Option R) (D : (Bool → Option R) → Option R) (F T : Option R) : Option R :=
  bif !!Q && L then I fun z => bif !z && pt then D fun d => bif !d || X then F else T else bif !z && pt then none else bif !z && pt then none else bif !z && pt then none else bif z || (pt && false) then F else T
  else bif !!Q && L then none else
    bif !(!Q || (L && false)) && pt then D fun d => bif !d || X then F else T else
    bif !(!Q || (L && false)) && pt then none else bif !(!Q || (L && false)) && pt then none else bif !(!Q || (L && false)) && pt then none else
    bif !Q || (L && false) || (pt && false) then F else T
theorem skelP_eq {R : Type} {Q L pt X z d : Bool} {I D : (Bool → Option R) → Option R} {F T : Option R} (hI : L = true → ∀ K, I K = K z) (hD : ∀ K, D K = K d) : skelP Q L pt X I D F T = bif !Q || (L && z) || (pt && (!d || X)) then F else T := by
  unfold skelP
  simp only [hD]
  cases L
  · cases Q <;> cases pt <;> cases d <;> cases X <;> rfl
  · simp only [hI rfl]
    cases Q <;> cases pt <;> cases d <;> cases X <;> cases z <;> rfl
def parseBody (b : List UInt8) (m : Bool) : Option PV :=
  bif decide (b.length ≤ 500) then
    digO (cutA b) fun Q => skelP Q (decide (1 < ((cutA b).length : Int))) (cutB b) (decide (6 < ((cutR b).length : Int))) (fun K => ixB (cutA b) 0 fun v => K ((v.toNat : Int) == 48)) (digO (cutR b)) failP (tailP (cutA b) (cutR b) m)
  else none
noncomputable def lParse : List (FuncId × PFn) := [(124, p_CutP), (126, p_Cut), (127, p_digits), (128, p_Atoi)]
theorem ok_lParse : AllOK NGd We lParse := allOK_cons (fok_mono we_d ok_CutP) (allOK_cons (fok_mono we_d ok_Cut) (allOK_cons (fok_mono we_d ok_digits) (allOK_cons ok_Atoi allOK_nil)))
theorem parse_raw (s : List UInt8) : prun (en lParse) ⟨[], []⟩ 0 false Tryz.f92 [.str s] = parseBody (noM s) (hasM s) := by kernel_rfl
theorem noM_len (s : List UInt8) : (noM s).length ≤ s.length := by unfold noM; cases hasM s <;> simp
theorem cut_len (s : List UInt8) : (cutA s).length + (cutR s).length ≤ s.length := by
  cases h : cutB s
  · obtain ⟨e1, e2⟩ := cut_none h
    rw [e1, e2]; simp
  · have := congrArg List.length (cut_some h).1
    simp only [List.length_append, List.length_cons] at this
    omega
theorem digB_iff {s : List UInt8} : digB s = true ↔ s.all isD = true ∧ s ≠ [] := by unfold digB; simp
theorem tail_eq {w r : List UInt8} {m : Bool} (hw : digB w = true) (hr : r.all isD = true) (hl : w.length + r.length ≤ 500) :
    tailP w r m = some (resP (bif over64 (sgn (digV (w ++ r)) m) || (sgn (digV (w ++ r)) m == 0 && m) then none else some (sgn (digV (w ++ r)) m, r.length))) := by
  rw [digB_iff] at hw
  have hd : (w ++ r).all isD = true := by rw [List.all_append, hw.1, hr]; rfl
  have hne : w ++ r ≠ [] := by simp [hw.2]
  have key : tailC w r m (bif m then [45] else []) = some (resP (bif over64 (sgn (digV (w ++ r)) m) || (sgn (digV (w ++ r)) m == 0 && m) then none else some (sgn (digV (w ++ r)) m, r.length))) := by
    have hpl : (bif m then [45] else [] : List UInt8).length ≤ 1 := by cases m <;> simp
    unfold tailC
    rw [cond_t (decide_eq_true (by omega)), cond_t (decide_eq_true (by simp only [List.length_append]; omega)), cond_t (decide_eq_true (by simp only [List.length_append]; omega)), List.append_assoc]
    unfold atoK
    rw [atoi_digits hd hne]
    cases ho : over64 (sgn (digV (w ++ r)) m)
    · simp only [cond_false, Bool.false_or]
      cases hz : sgn (digV (w ++ r)) m == 0 && m
      · rfl
      · rfl
    · rfl
  unfold tailP
  cases m
  · exact key
  · exact key
theorem ixB_head {R : Type} {w : List UInt8} {K : UInt8 → Option R} (c : UInt8) (t : List UInt8) (h : w = c :: t) : ixB w 0 K = K c := by
  subst h
  exact ixB_eq (i := 0) rfl
theorem parse_body {s : List UInt8} (hs : s.length ≤ 400) : parseBody (noM s) (hasM s) = some (resP (parseP s)) := by
  have h1 := noM_len s
  have h2 := cut_len (noM s)
  unfold parseBody parseP valP
  generalize noM s = b at *
  have hz : decide (1 < ((cutA b).length : Int)) = true → ∀ (K : Bool → Option PV), (ixB (cutA b) 0 fun v => K ((v.toNat : Int) == 48)) = K ((cutA b).head? == some 48) := by
    intro hL K
    simp only [decide_eq_true_eq] at hL
    obtain ⟨c, t, e⟩ := List.exists_cons_of_ne_nil (show cutA b ≠ [] by intro e; rw [e] at hL; simp at hL)
    rw [ixB_head c t e, e]
    congr 1
    simp only [List.head?_cons]
    rw [Bool.eq_iff_iff]
    simp only [beq_iff_eq, Option.some.injEq]
    constructor
    · intro k; apply UInt8.toNat_inj.1; simp only [UInt8.reduceToNat]; omega
    · intro k; subst k; rfl
  have hD : ∀ (x : List UInt8), x.length ≤ 500 → ∀ (K : Bool → Option PV), digO x K = K (digB x) := by
    intro x hx K
    unfold digO
    exact cond_t (decide_eq_true hx)
  rw [cond_t (decide_eq_true (by omega)), hD _ (by omega), skelP_eq hz (hD (cutR b) (by omega))]
  have eL : decide (1 < ((cutA b).length : Int)) = decide (1 < (cutA b).length) := by congr 1; simp only [eq_iff_iff]; omega
  have eX : decide (6 < ((cutR b).length : Int)) = decide (6 < (cutR b).length) := by congr 1; simp only [eq_iff_iff]; omega
  rw [eL, eX]
  have eb : (!digB (cutA b) || decide (1 < (cutA b).length) && (cutA b).head? == some 48 || cutB b && (!digB (cutR b) || decide (6 < (cutR b).length))) = badP (cutA b) (cutR b) (cutB b) := rfl
  rw [eb]
  cases hb : badP (cutA b) (cutR b) (cutB b)
  · simp only [cond_false]
    unfold badP at hb
    simp only [Bool.or_eq_false_iff] at hb
    have hw : digB (cutA b) = true := by have := hb.1.1; simpa using this
    have hr : (cutR b).all isD = true := by
      cases hc : cutB b
      · rw [(cut_none hc).2]; rfl
      · have := hb.2
        rw [hc, Bool.true_and, Bool.or_eq_false_iff] at this
        have h3 : digB (cutR b) = true := by simpa using this.1
        exact (digB_iff.1 h3).1
    exact tail_eq hw hr (by omega)
  · rfl
def p_Parse : PFn := ⟨fun xs k => match xs with | [.str s] => bif decide (s.length ≤ 400) then k (resP (parseP s)) else none | _ => none, false⟩
theorem ok_Parse : FOK NGd We 92 p_Parse := by
  refine fok woke ok_lParse (h := ⟨[], []⟩) Tryz.func92 rfl (by decide) ?_ ?_
  · intro R xs k
    simp only [p_Parse]
    split
    · exact cond_nat
    · rfl
  · intro xs r h
    simp only [p_Parse] at h
    split at h
    · rename_i s
      rcases hb : decide (s.length ≤ 400) with _ | _ <;> rw [hb] at h
      · cases h
      · simp only [decide_eq_true_eq] at hb
        exact ⟨0, (parse_raw s).trans ((parse_body hb).trans h)⟩
    · cases h
end Go.Proofs.YtelckbphbkebkaaGreatDoor
set_option linter.unusedVariables false
set_option linter.unusedSimpArgs false
namespace Go.Proofs.YtelckbphbkebkaaGreatDoor
open Go.RowKit

/-! ## the loop -/
def hRP : Hints := ⟨[], [(0, ⟨[(0, false), (5, false), (6, false), (7, false), (8, false), (9, false)], []⟩)]⟩
noncomputable def lRP : List (FuncId × PFn) := [(133, p_trim), (132, p_Int)]
theorem ok_lRP : AllOK NGd Wd lRP := allOK_cons ok_trim (allOK_cons ok_Int allOK_nil)
def frP (s : List UInt8) (i : Int) (m : Bool) (nl : Option Bool) (l : Nat) (c : List PV) (pt f : Int) : St :=
  frame 111 [(0, (.str s, 0)), (5, (.int .i64 i, 0)), (6, (.bool m, 0)), (7, (.sl nl 1 l c, 0)), (8, (.int .i64 pt, 0)), (9, (.int .i64 f, 0))] []
noncomputable def rpLoop (fu n : Nat) (st : St) : Option PV := loopF (en lRP) hRP fu false Tryz.f98 [1, 1, 1, 1, 1, 1, 1, 0, 0] 0 n st
theorem rp_raw (fu : Nat) (s : List UInt8) : prun (en lRP) hRP fu false Tryz.f98 [.str s] =
    bif !(s == []) then ixB s 0 fun v => bif (v.toNat : Int) == 45 then rpLoop fu fu (frP s 1 ((v.toNat : Int) == 45) (some true) 0 [] (-1) 1) else rpLoop fu fu (frP s 0 ((v.toNat : Int) == 45) (some true) 0 [] (-1) 0)
    else rpLoop fu fu (frP s 0 false (some true) 0 [] (-1) 0) := by kernel_rfl
def intO {R : Type} (l0 : Nat) (c0 : List PV) (m : Bool) (k : Int → Bool → Option R) : Option R := (decN l0 c0).bind fun X => bif decide (dlen X ≤ 500) then k (ansV (sgn X m)) (!over64 (sgn X m)) else none
def fin4 (m : Bool) (l : Nat) (c : List PV) (sc : Int) : Option PV :=
  cutO l c fun N => intO (dlen N) (cellsN N) m fun V B => bif !B || (V == 0 && m) then failP else some (.tuple [.int .i64 V, .int .i64 sc, .bool true])
def fin3 (s : List UInt8) (m : Bool) (l : Nat) (c : List PV) (f wh sc : Int) : Option PV :=
  bif !(wh == f) && decide (IntKind.i64.wrap (f + 1) < wh) then ixB s f fun v => bif (v.toNat : Int) == 48 then failP else fin4 m l c sc
  else bif !(wh == f) && decide (IntKind.i64.wrap (f + 1) < wh) then none else bif wh == f || (decide (IntKind.i64.wrap (f + 1) < wh) && false) then failP else fin4 m l c sc
def fin2 (s : List UInt8) (m : Bool) (l : Nat) (c : List PV) (pt f wh : Int) : Option PV :=
  bif decide (0 ≤ pt) then bif IntKind.i64.wrap (IntKind.i64.wrap ((s.length : Int) - pt) - 1) == 0 || decide (6 < IntKind.i64.wrap (IntKind.i64.wrap ((s.length : Int) - pt) - 1)) then failP else fin3 s m l c f wh (IntKind.i64.wrap (IntKind.i64.wrap ((s.length : Int) - pt) - 1))
  else fin3 s m l c f wh 0
def finP (s : List UInt8) (m : Bool) (l : Nat) (c : List PV) (pt f i : Int) : Option PV := bif decide (0 ≤ pt) then fin2 s m l c pt f pt else fin2 s m l c pt f i
theorem rp_step (fu : Nat) (s : List UInt8) (i : Int) (m : Bool) (nl : Option Bool) (l : Nat) (c : List PV) (pt f : Int) (K : St → Option PV) :
    stepF (en lRP) hRP fu false Tryz.f98 [1, 1, 1, 1, 1, 1, 1, 0, 0] (frP s i m nl l c pt f) (fun st => pnorm (hRP.loop.lookup 0) st K) =
    bif decide (i < (s.length : Int)) then ixB s i fun v => bif (v.toNat : Int) == 46 && decide (pt < 0) && decide (f < i) then K (frP s (IntKind.i64.wrap (i + 1)) m nl l c i f) else
      ixB s i fun v => bif !decide ((v.toNat : Int) < 48) then ixB s i fun v => bif decide (57 < (v.toNat : Int)) then failP else ixB s i fun v => room 1 l (K (frP s (IntKind.i64.wrap (i + 1)) m ((some false).map (· && (l == 0))) (1 + l) (.int .i64 (IntKind.i64.wrap (IntKind.u8.wrap ((v.toNat : Int) - 48))) :: c) pt f)) else failP
    else finP s m l c pt f i := by kernel_rfl

/-! ## the scan -/
def ptI : Option Nat → Int
  | none => -1
  | some p => p
def scan (f : Nat) : List UInt8 → Nat → Option Nat → List Nat → Option (Option Nat × List Nat)
  | [], _, pt, ds => some (pt, ds)
  | c :: l, i, pt, ds => bif c == 46 && pt.isNone && decide (f < i) then scan f l (i + 1) (some i) ds else bif isD c then scan f l (i + 1) pt ((c.toNat - 48) :: ds) else none
theorem rp_loop (fu : Nat) (s : List UInt8) (hs : s.length ≤ 400) (m : Bool) (f : Nat) : ∀ (k i n : Nat) (nl : Option Bool) (pt : Option Nat) (ds : List Nat), i + k = s.length → k < n → ds.length ≤ i →
    rpLoop fu n (frP s (i : Int) m nl ds.length (cellsD ds) (ptI pt) (f : Int)) = match scan f (s.drop i) i pt ds with | none => failP | some (pt', ds') => finP s m ds'.length (cellsD ds') (ptI pt') (f : Int) (s.length : Int)
  | k, i, 0, _, _, _, _, h, _ => by omega
  | 0, i, n + 1, nl, pt, ds, hi, hn, hd => by
    unfold rpLoop
    rw [loopF_succ, rp_step, cond_f (decide_eq_false (by omega)), List.drop_of_length_le (by omega), show i = s.length by omega]
    rfl
  | k + 1, i, n + 1, nl, pt, ds, hi, hn, hd => by
    unfold rpLoop
    have hc := List.getElem?_eq_getElem (l := s) (i := i) (by omega)
    rw [loopF_succ, rp_step, cond_t (decide_eq_true (by omega)), ixB_eq hc, ixB_eq hc, ixB_eq hc, ixB_eq hc, wrapI_of (x := (i : Int) + 1) (by omega) (by omega), List.drop_eq_getElem_cons (by omega), scan, room_eq (by omega)]
    generalize s[i] = c
    have ec : ((c.toNat : Int) == 46) = (c == 46) := by
      rw [Bool.eq_iff_iff]
      simp only [beq_iff_eq]
      constructor
      · intro e; apply UInt8.toNat_inj.1; simp only [UInt8.reduceToNat]; omega
      · intro e; subst e; rfl
    have ep : decide (ptI pt < 0) = pt.isNone := by cases pt with
      | none => rfl
      | some p => exact decide_eq_false (show ¬ ((p : Nat) : Int) < 0 by omega)
    have ef : decide ((f : Int) < (i : Int)) = decide (f < i) := by congr 1; simp only [eq_iff_iff]; omega
    rw [ec, ep, ef]
    cases hx : c == 46 && pt.isNone && decide (f < i)
    · simp only [cond_false]
      by_cases h1 : 48 ≤ c.toNat
      · rw [cond_t (by rw [decide_eq_false (by omega)]; rfl)]
        by_cases h2 : c.toNat ≤ 57
        · have hD : isD c = true := by unfold isD; rw [decide_eq_true h1, decide_eq_true h2]; rfl
          rw [cond_f (decide_eq_false (by omega)), hD, cond_true]
          have ih := rp_loop fu s hs m f k (i + 1) n ((some false).map (· && (ds.length == 0))) pt ((c.toNat - 48) :: ds) (by omega) (by omega) (by simp; omega)
          unfold rpLoop at ih
          rw [← ih]
          have e1 : IntKind.i64.wrap (IntKind.u8.wrap ((c.toNat : Int) - 48)) = ((c.toNat - 48 : Nat) : Int) := by
            have : IntKind.u8.wrap ((c.toNat : Int) - 48) = (c.toNat : Int) - 48 := by
              have e8 : ∀ x : Int, IntKind.u8.wrap x = x % 256 := fun x => by simp only [IntKind.wrap]; rfl
              rw [e8]; omega
            rw [this, wrapI_of (by omega) (by omega)]; omega
          rw [e1, show 1 + ds.length = ((c.toNat - 48) :: ds).length by simp; omega]
          rfl
        · have hD : isD c = false := by unfold isD; rw [decide_eq_false h2, Bool.and_false]
          rw [cond_t (decide_eq_true (by omega)), hD, cond_false]
      · have hD : isD c = false := by unfold isD; rw [decide_eq_false h1]; rfl
        rw [cond_f (by rw [decide_eq_true (by omega)]; rfl), hD, cond_false]
    · simp only [cond_true]
      have ih := rp_loop fu s hs m f k (i + 1) n nl (some i) ds (by omega) (by omega) (by omega)
      unfold rpLoop at ih
      exact ih
/-- the digits of a text, put ahead -/
def pushD (w : List UInt8) (ds : List Nat) : List Nat := w.foldl (fun ds c => (c.toNat - 48) :: ds) ds
def natL : List Nat → Nat
  | [] => 0
  | d :: l => d + 10 * natL l
theorem push_len : ∀ (w : List UInt8) (ds : List Nat), (pushD w ds).length = ds.length + w.length
  | [], ds => by simp [pushD]
  | c :: w, ds => by
    have := push_len w ((c.toNat - 48) :: ds)
    simp only [pushD, List.foldl_cons, List.length_cons] at this ⊢
    omega
theorem push_nat : ∀ (w : List UInt8) (ds : List Nat), natL (pushD w ds) = vacc (natL ds) w
  | [], ds => rfl
  | c :: w, ds => by
    have := push_nat w ((c.toNat - 48) :: ds)
    simp only [pushD, vacc, List.foldl_cons, natL] at this ⊢
    rw [this, show c.toNat - 48 + 10 * natL ds = natL ds * 10 + (c.toNat - 48) by omega]
theorem push_lt : ∀ (w : List UInt8) (ds : List Nat), w.all isD = true → (∀ d ∈ ds, d < 10) → ∀ d ∈ pushD w ds, d < 10
  | [], ds, _, h => h
  | c :: w, ds, hw, h => by
    rw [List.all_cons, Bool.and_eq_true] at hw
    have hc := hw.1
    unfold isD at hc
    simp only [Bool.and_eq_true, decide_eq_true_eq] at hc
    refine push_lt w ((c.toNat - 48) :: ds) hw.2 ?_
    intro d hd
    rcases List.mem_cons.1 hd with rfl | hd
    · omega
    · exact h d hd
theorem push_app (w r : List UInt8) (ds : List Nat) : pushD (w ++ r) ds = pushD r (pushD w ds) := by simp [pushD]
theorem natC_L : ∀ {ds : List Nat}, (∀ d ∈ ds, d < 10) → natC (cellsD ds) = some (natL ds)
  | [], _ => rfl
  | d :: ds, h => by
    have hd := h d (List.mem_cons_self ..)
    show (if 0 ≤ (d : Int) ∧ (d : Int) < 10 then (natC (cellsD ds)).map fun n => (d : Int).toNat + 10 * n else none) = _
    rw [if_pos (by omega), natC_L (fun x hx => h x (List.mem_cons_of_mem _ hx))]
    rfl
theorem isD_ne {c : UInt8} (h : isD c = true) : (c == 46) = false := by
  unfold isD at h
  simp only [Bool.and_eq_true, decide_eq_true_eq] at h
  rw [beq_eq_false_iff_ne]
  intro e
  subst e
  simp at h
theorem scan_digits (f : Nat) : ∀ (w t : List UInt8) (i : Nat) (pt : Option Nat) (ds : List Nat), w.all isD = true → scan f (w ++ t) i pt ds = scan f t (i + w.length) pt (pushD w ds)
  | [], t, i, pt, ds, _ => rfl
  | c :: w, t, i, pt, ds, h => by
    rw [List.all_cons, Bool.and_eq_true] at h
    rw [List.cons_append, scan, isD_ne h.1, h.1]
    simp only [Bool.false_and, cond_false, cond_true]
    rw [scan_digits f w t (i + 1) pt _ h.2, List.length_cons, show i + 1 + w.length = i + (w.length + 1) by omega]
    rfl
theorem scan_bad (f : Nat) : ∀ (w t : List UInt8) (i : Nat) (pt : Option Nat) (ds : List Nat), w.all isD = false → (pt.isSome = true ∨ cutB w = false) → scan f (w ++ t) i pt ds = none
  | [], t, i, pt, ds, h, _ => by cases h
  | c :: w, t, i, pt, ds, h, hp => by
    rw [List.cons_append, scan]
    have h46 : (c == 46 && pt.isNone && decide (f < i)) = false := by
      rcases hp with hp | hp
      · cases pt with
        | none => cases hp
        | some p => simp
      · unfold cutB at hp
        simp only [List.any_cons, Bool.or_eq_false_iff] at hp
        rw [hp.1]; rfl
    rw [h46, cond_false]
    cases hc : isD c
    · rfl
    · rw [cond_true]
      rw [List.all_cons, hc, Bool.true_and] at h
      refine scan_bad f w t (i + 1) pt _ h ?_
      rcases hp with hp | hp
      · exact .inl hp
      · unfold cutB at hp ⊢
        simp only [List.any_cons, Bool.or_eq_false_iff] at hp
        exact .inr hp.2
theorem cutA_no (s : List UInt8) : cutB (cutA s) = false := by
  unfold cutB cutA
  rw [List.any_eq_false]
  intro c hc
  have := List.all_eq_true.1 (List.all_takeWhile (p := notP) (l := s)) c hc
  unfold notP at this
  simpa using this

/-! ## the end -/
theorem cutO_L {R : Type} {ds : List Nat} {k : Nat → Option R} (h : ∀ d ∈ ds, d < 10) (hl : ds.length ≤ 600) : cutO ds.length (cellsD ds) k = k (natL ds) := by
  unfold cutO
  rw [natC_L h]
  exact cond_t (by simp [cellsD, hl])
theorem natL_dlen {ds : List Nat} (h : ∀ d ∈ ds, d < 10) : dlen (natL ds) ≤ ds.length := by
  have := (natC_inv (natC_L h)).2
  rw [show (cellsD ds).length = ds.length by simp [cellsD]] at this
  exact (dlen_le _ _).2 this
def valF (N : Nat) (m : Bool) (sc : Int) : Option PV := bif over64 (sgn N m) || (sgn N m == 0 && m) then failP else some (.tuple [.int .i64 (sgn N m), .int .i64 sc, .bool true])
theorem fin4_eq {ds : List Nat} {m : Bool} {sc : Int} (h : ∀ d ∈ ds, d < 10) (hl : ds.length ≤ 500) : fin4 m ds.length (cellsD ds) sc = valF (natL ds) m sc := by
  have := natL_dlen h
  unfold fin4 valF
  rw [cutO_L h (by omega)]
  unfold intO
  rw [decN_big]
  simp only [Option.bind_some]
  rw [cond_t (decide_eq_true (by omega)), Bool.not_not]
  unfold ansV
  cases over64 (sgn (natL ds) m) <;> rfl
theorem fin3_eq {s : List UInt8} {ds : List Nat} {m : Bool} {f wh : Nat} {sc : Int} (h : ∀ d ∈ ds, d < 10) (hl : ds.length ≤ 500) (hf : f ≤ 1) (hw : f ≤ wh) (hw2 : wh ≤ s.length) (hs : s.length ≤ 400) :
    fin3 s m ds.length (cellsD ds) (f : Int) (wh : Int) sc = bif decide (wh = f) || (decide (f + 1 < wh) && (s[f]? == some 48)) then failP else valF (natL ds) m sc := by
  unfold fin3
  rw [fin4_eq h hl, wrapI_of (by omega) (by omega)]
  by_cases e : wh = f
  · subst e
    rw [cond_f (by simp), cond_f (by simp), cond_t (by simp), decide_eq_true rfl]
    rfl
  · have e1 : ((wh : Int) == (f : Int)) = false := by rw [beq_eq_false_iff_ne]; omega
    rw [e1, decide_eq_false e]
    by_cases k : f + 1 < wh
    · have hc := List.getElem?_eq_getElem (l := s) (i := f) (by omega)
      rw [cond_t (by rw [decide_eq_true (by omega)]; rfl), ixB_eq hc, hc, decide_eq_true k]
      generalize s[f] = c
      have e2 : ((c.toNat : Int) == 48) = (some c == some 48) := by
        rw [Bool.eq_iff_iff]
        simp only [beq_iff_eq, Option.some.injEq]
        constructor
        · intro e; apply UInt8.toNat_inj.1; simp only [UInt8.reduceToNat]; omega
        · intro e; subst e; rfl
      rw [e2]
      rfl
    · rw [cond_f (by rw [decide_eq_false (by omega)]; rfl), cond_f (by rw [decide_eq_false (by omega)]; rfl), decide_eq_false k]
      simp
theorem resV (N : Nat) (m : Bool) (k : Nat) : valF N m (k : Int) = some (resP (bif over64 (sgn N m) || (sgn N m == 0 && m) then none else some (sgn N m, k))) := by
  unfold valF
  cases over64 (sgn N m) || (sgn N m == 0 && m) <;> rfl
theorem scan_end {s b : List UInt8} {m : Bool} {f : Nat} (hf : f ≤ 1) (hs : s.length ≤ 400) (hb : s.length = f + b.length) (hd : s.drop f = b) :
    (match scan f b f none [] with | none => failP | some (pt', ds') => finP s m ds'.length (cellsD ds') (ptI pt') (f : Int) (s.length : Int)) = some (resP (valP (cutA b) (cutR b) (cutB b) m)) := by
  have hh : s[f]? = b.head? := by rw [← hd, List.head?_drop]
  have no : ∀ d ∈ ([] : List Nat), d < 10 := fun d h => by cases h
  cases hc : cutB b
  · obtain ⟨e1, e2⟩ := cut_none hc
    rw [e1, e2]
    unfold valP badP
    cases ha : b.all isD
    · have := scan_bad f b [] f none [] ha (.inr hc)
      rw [List.append_nil] at this
      have hdg : digB b = false := by unfold digB; rw [ha]; rfl
      rw [this, hdg]
      rfl
    · have := scan_digits f b [] f none [] ha
      rw [List.append_nil] at this
      have hp := push_lt b [] ha no
      have hl := push_len b []
      simp only [List.length_nil, Nat.zero_add] at hl
      rw [this]
      simp only [scan]
      show finP s m _ _ (-1) _ _ = _
      unfold finP fin2
      rw [cond_f (by decide), cond_f (by decide), fin3_eq hp (by omega) hf (by omega) (Nat.le_refl _) hs, push_nat, hh, List.append_nil]
      have ed : digB b = !decide (s.length = f) := by
        unfold digB
        rw [ha, Bool.true_and]
        cases b with
        | nil => simp at hb; rw [decide_eq_true hb]; rfl
        | cons c t => rw [decide_eq_false (by simp at hb; omega)]; rfl
      have el : decide (1 < b.length) = decide (f + 1 < s.length) := by congr 1; simp only [eq_iff_iff]; omega
      rw [ed, el, Bool.not_not]
      show (bif decide (s.length = f) || (decide (f + 1 < s.length) && (b.head? == some 48)) then failP else valF (digV b) m 0) = some (resP (bif decide (s.length = f) || (decide (f + 1 < s.length) && b.head? == some 48) || false then none else _))
      rw [Bool.or_false]
      cases decide (s.length = f) || (decide (f + 1 < s.length) && (b.head? == some 48))
      · exact resV (digV b) m 0
      · rfl
  · obtain ⟨e1, e2⟩ := cut_some hc
    have hnA := cutA_no b
    have hlen : b.length = (cutA b).length + 1 + (cutR b).length := by
      conv => lhs; rw [e1]
      simp only [List.length_append, List.length_cons]; omega
    have hhd : ∀ c t, cutA b = c :: t → b.head? = some c := by
      intro c t e
      rw [e1, e]; rfl
    generalize cutA b = w at *
    generalize cutR b = r at *
    unfold valP badP
    cases ha : w.all isD
    · have hdg : digB w = false := by unfold digB; rw [ha]; rfl
      rw [e1, scan_bad f w _ f none [] ha (.inr hnA), hdg]
      rfl
    · rw [e1, scan_digits f w _ f none [] ha, scan]
      simp only [beq_self_eq_true, Option.isNone_none, Bool.true_and]
      by_cases hw : w = []
      · subst hw
        rw [decide_eq_false (by simp)]
        rfl
      · have hwl : 0 < w.length := List.length_pos_iff.2 hw
        have hdw : digB w = true := digB_iff.2 ⟨ha, hw⟩
        rw [decide_eq_true (by omega), cond_true, hdw]
        cases hr : r.all isD
        · have := scan_bad f r [] (f + w.length + 1) (some (f + w.length)) (pushD w []) hr (.inl rfl)
          rw [List.append_nil] at this
          have hdr : digB r = false := by unfold digB; rw [hr]; rfl
          rw [this, hdr]
          simp only [Bool.not_false, Bool.true_or, Bool.and_true, Bool.or_true, cond_true]
          rfl
        · have := scan_digits f r [] (f + w.length + 1) (some (f + w.length)) (pushD w []) hr
          rw [List.append_nil] at this
          rw [this, ← push_app]
          have hall : (w ++ r).all isD = true := by rw [List.all_append, ha, hr]; rfl
          have hp := push_lt (w ++ r) [] hall no
          have hl := push_len (w ++ r) []
          simp only [List.length_nil, Nat.zero_add, List.length_append] at hl
          simp only [scan]
          show finP s m _ _ (((f + w.length : Nat) : Int)) _ _ = _
          unfold finP fin2
          have hsc : IntKind.i64.wrap (IntKind.i64.wrap ((s.length : Int) - ((f + w.length : Nat) : Int)) - 1) = (r.length : Int) := by
            rw [wrapI_of (x := (s.length : Int) - _) (by omega) (by omega), wrapI_of (by omega) (by omega)]; omega
          rw [cond_t (decide_eq_true (by omega)), cond_t (decide_eq_true (by omega)), hsc, fin3_eq hp (by omega) hf (by omega) (by omega) hs, push_nat, hh]
          have edr : digB r = !decide (r.length = 0) := by
            unfold digB
            rw [hr, Bool.true_and]
            cases r with
            | nil => rfl
            | cons c t => rw [decide_eq_false (by simp)]; rfl
          have e0 : ((r.length : Int) == 0) = decide (r.length = 0) := by
            rw [Bool.eq_iff_iff]; simp only [beq_iff_eq, decide_eq_true_eq]; omega
          have e6 : decide (6 < (r.length : Int)) = decide (6 < r.length) := by congr 1; simp only [eq_iff_iff]; omega
          have ewf : decide (f + w.length = f) = false := decide_eq_false (by omega)
          have e1w : decide (f + 1 < f + w.length) = decide (1 < w.length) := by congr 1; simp only [eq_iff_iff]; omega
          obtain ⟨c, t, ew⟩ := List.exists_cons_of_ne_nil hw
          have eh : (w ++ 46 :: r).head? = w.head? := by rw [ew]; rfl
          rw [hhd c t ew, edr, e0, e6, ewf, e1w, Bool.not_not]
          have eh2 : w.head? = some c := by rw [ew]; rfl
          rw [eh2]
          simp only [Bool.not_true, Bool.false_or, Bool.true_and]
          cases h1 : decide (r.length = 0) || decide (6 < r.length)
          · rw [cond_false, Bool.or_false]
            cases h2 : decide (1 < w.length) && some c == some 48
            · exact resV (digV (w ++ r)) m r.length
            · rfl
          · rw [cond_true, Bool.or_true]
            rfl
theorem rp_start0 {fu : Nat} {s : List UInt8} {m : Bool} (hs : s.length ≤ 400) (hfu : 500 ≤ fu) : rpLoop fu fu (frP s 0 m (some true) 0 [] (-1) 0) = some (resP (valP (cutA s) (cutR s) (cutB s) m)) := by
  have h1 := rp_loop fu s hs m 0 s.length 0 fu (some true) none [] (by omega) (by omega) (Nat.le_refl _)
  rw [List.drop_zero] at h1
  exact h1.trans (scan_end (by omega) hs (by omega) List.drop_zero)
theorem rp_start1 {fu : Nat} {c : UInt8} {t : List UInt8} {m : Bool} (hs : (c :: t).length ≤ 400) (hfu : 500 ≤ fu) : rpLoop fu fu (frP (c :: t) 1 m (some true) 0 [] (-1) 1) = some (resP (valP (cutA t) (cutR t) (cutB t) m)) := by
  have hl : (c :: t).length = t.length + 1 := rfl
  have h1 := rp_loop fu (c :: t) hs m 1 t.length 1 fu (some true) none [] (by omega) (by omega) (Nat.zero_le _)
  have hd : (c :: t).drop 1 = t := rfl
  rw [hd] at h1
  exact h1.trans (scan_end (by omega) hs (by omega) hd)
theorem rp_all {fu : Nat} {s : List UInt8} (hs : s.length ≤ 400) (hfu : 500 ≤ fu) : prun (en lRP) hRP fu false Tryz.f98 [.str s] = some (resP (parseP s)) := by
  rw [rp_raw]
  cases s with
  | nil => exact rp_start0 hs hfu
  | cons c t =>
    rw [cond_t (by rfl), ixB_head c t rfl]
    unfold parseP noM
    by_cases h : c = 45
    · subst h
      have e : hasM (45 :: t) = true := rfl
      have e2 : (((45 : UInt8).toNat : Int) == 45) = true := rfl
      rw [e, e2, cond_true, cond_true]
      exact rp_start1 hs hfu
    · have e : hasM (c :: t) = false := by unfold hasM; simp [h]
      have e2 : ((c.toNat : Int) == 45) = false := by
        rw [beq_eq_false_iff_ne]
        intro k
        apply h
        apply UInt8.toNat_inj.1
        simp only [UInt8.reduceToNat]; omega
      rw [e, e2, cond_false, cond_false]
      exact rp_start0 hs hfu
def p_RParse : PFn := ⟨fun xs k => match xs with | [.str s] => bif decide (s.length ≤ 400) then k (resP (parseP s)) else none | _ => none, false⟩
theorem ok_RParse : FOK NGd Wd 98 p_RParse := by
  refine fok wokd ok_lRP (h := hRP) Tryz.func98 rfl (by decide) ?_ ?_
  · intro R xs k
    simp only [p_RParse]
    split
    · exact cond_nat
    · rfl
  · intro xs r h
    simp only [p_RParse] at h
    split at h
    · rename_i s
      rcases hb : decide (s.length ≤ 400) with _ | _ <;> rw [hb] at h
      · cases h
      · simp only [decide_eq_true_eq] at hb
        exact ⟨1000, (rp_all hb (by decide)).trans h⟩
    · cases h

end Go.Proofs.YtelckbphbkebkaaGreatDoor
set_option linter.unusedVariables false
set_option linter.unusedSimpArgs false
namespace Go.Proofs.YtelckbphbkebkaaGreatDoor
open Go.RowKit

/-! ## the digits of a number, the highest first -/
theorem ch_nat {d : Nat} (h : d < 10) : (UInt8.ofNat (48 + d)).toNat = 48 + d := by simp; omega
theorem ch_isD {d : Nat} (h : d < 10) : isD (UInt8.ofNat (48 + d)) = true := by
  unfold isD
  rw [ch_nat h, decide_eq_true (by omega), decide_eq_true (by omega)]; rfl
theorem vacc_app (a : Nat) (l : List UInt8) (c : UInt8) : vacc a (l ++ [c]) = vacc a l * 10 + (c.toNat - 48) := by simp [vacc]
theorem head_app {l : List UInt8} {t : List UInt8} (h : l ≠ []) : (l ++ t).head? = l.head? := by
  obtain ⟨c, r, e⟩ := List.exists_cons_of_ne_nil h
  rw [e]; rfl
theorem decD_facts : ∀ (k u : Nat), u < 10 ^ (k + 1) → (decD (k + 1) u).all isD = true ∧ decD (k + 1) u ≠ [] ∧ digV (decD (k + 1) u) = u ∧ (decD (k + 1) u).length ≤ k + 1 ∧ (0 < u → ∀ c, (decD (k + 1) u).head? = some c → c ≠ 48) ∧ (1 < (decD (k + 1) u).length → 0 < u)
  | k, u, hu => by
    unfold decD
    by_cases h : u < 10
    · rw [decide_eq_true h, cond_true]
      refine ⟨by rw [List.all_cons, ch_isD h]; rfl, by simp, ?_, by simp, ?_, by simp⟩
      · show 0 * 10 + ((UInt8.ofNat (48 + u)).toNat - 48) = u
        rw [ch_nat h]; omega
      · intro hp c hc
        simp only [List.head?_cons, Option.some.injEq] at hc
        subst hc
        intro e
        have := congrArg UInt8.toNat e
        rw [ch_nat h] at this
        simp at this; omega
    · rw [decide_eq_false h, cond_false]
      match k, hu with
      | 0, hu => simp at hu; omega
      | k + 1, hu =>
        have hq : u / 10 < 10 ^ (k + 1) := (Nat.div_lt_iff_lt_mul (by decide)).2 (by rw [Nat.pow_succ] at hu; exact hu)
        obtain ⟨f1, f2, f3, f4, f5, f6⟩ := decD_facts k (u / 10) hq
        have hm : u % 10 < 10 := Nat.mod_lt _ (by decide)
        refine ⟨by rw [List.all_append, f1, List.all_cons, ch_isD hm]; rfl, by simp, ?_, by simp; omega, ?_, fun _ => by omega⟩
        · unfold digV at *
          rw [vacc_app, f3, ch_nat hm]; omega
        · intro hp c hc
          rw [head_app f2] at hc
          exact f5 (by omega) c hc
def dS (N : Nat) : List UInt8 := decD 20 N
theorem dS_facts {N : Nat} (h : N < 10 ^ 20) : (dS N).all isD = true ∧ dS N ≠ [] ∧ digV (dS N) = N ∧ (dS N).length ≤ 20 ∧ (0 < N → ∀ c, (dS N).head? = some c → c ≠ 48) ∧ (1 < (dS N).length → 0 < N) := decD_facts 19 N h

/-! ## what Print does -/
def padS (t : List UInt8) (k : Nat) : List UInt8 := List.replicate (k + 1 - t.length) 48 ++ t
def catM (m : Bool) (t : List UInt8) : Option PV := bif m then bif decide (([45] : List UInt8).length + t.length ≤ 9223372036854775807) then some (.str ([45] ++ t)) else none else some (.str t)
def prFin (x : List UInt8) (sc : Int) (m : Bool) : Option PV :=
  bif decide (0 < sc) then
    bif decide (0 ≤ IntKind.i64.wrap ((x.length : Int) - sc)) && decide (IntKind.i64.wrap ((x.length : Int) - sc) ≤ (x.length : Int)) then
      bif decide (((x.take (IntKind.i64.wrap ((x.length : Int) - sc)).toNat).drop 0).length + ([46] : List UInt8).length ≤ 9223372036854775807) then
        bif decide (0 ≤ IntKind.i64.wrap ((x.length : Int) - sc)) && decide (IntKind.i64.wrap ((x.length : Int) - sc) ≤ (x.length : Int)) then
          bif decide ((((x.take (IntKind.i64.wrap ((x.length : Int) - sc)).toNat).drop 0) ++ [46]).length + ((x.take x.length).drop (IntKind.i64.wrap ((x.length : Int) - sc)).toNat).length ≤ 9223372036854775807) then
            catM m (((x.take (IntKind.i64.wrap ((x.length : Int) - sc)).toNat).drop 0) ++ [46] ++ ((x.take x.length).drop (IntKind.i64.wrap ((x.length : Int) - sc)).toNat))
          else none
        else none
      else none
    else none
  else catM m x
def dotS (p : List UInt8) (k : Nat) : List UInt8 := bif decide (0 < k) then p.take (p.length - k) ++ [46] ++ p.drop (p.length - k) else p
def printS (N : Nat) (m : Bool) (k : Nat) : List UInt8 := (bif m then [45] else []) ++ dotS (padS (dS N) k) k
theorem catM_eq {m : Bool} {t : List UInt8} (h : t.length ≤ 1000) : catM m t = some (.str ((bif m then [45] else []) ++ t)) := by
  unfold catM
  cases m
  · rfl
  · rw [cond_true, cond_t (decide_eq_true (by simp; omega))]; rfl
theorem prFin_eq {x : List UInt8} {k : Nat} {m : Bool} (hk : k < x.length) (hx : x.length ≤ 500) : prFin x (k : Int) m = some (.str ((bif m then [45] else []) ++ dotS x k)) := by
  unfold prFin dotS
  have hw : IntKind.i64.wrap ((x.length : Int) - (k : Int)) = (x.length : Int) - (k : Int) := wrapI_of (by omega) (by omega)
  have ht : ((x.length : Int) - (k : Int)).toNat = x.length - k := by omega
  by_cases h : 0 < k
  · rw [cond_t (decide_eq_true (by omega)), decide_eq_true h, cond_true]
    simp only [hw, ht]
    have hb : (decide (0 ≤ (x.length : Int) - (k : Int)) && decide ((x.length : Int) - (k : Int) ≤ (x.length : Int))) = true := by rw [decide_eq_true (by omega), decide_eq_true (by omega)]; rfl
    rw [hb, List.take_length, List.drop_zero]
    have l1 : (x.take (x.length - k)).length = x.length - k := by rw [List.length_take]; omega
    rw [cond_true, cond_true, cond_t (decide_eq_true (by rw [l1]; simp; omega)), cond_t (decide_eq_true (by simp only [List.length_append, l1, List.length_drop, List.length_cons, List.length_nil]; omega)), catM_eq (by simp only [List.length_append, l1, List.length_drop, List.length_cons, List.length_nil]; omega)]
  · rw [cond_f (decide_eq_false (by omega)), decide_eq_false h, cond_false, catM_eq (by omega)]
theorem pad_step {t : List UInt8} {k : Nat} (h : t.length ≤ k) : padS (48 :: t) k = padS t k := by
  unfold padS
  rw [show k + 1 - t.length = (k + 1 - (48 :: t).length) + 1 by simp only [List.length_cons]; omega, List.replicate_succ', List.append_assoc]
  rfl
theorem pad_done {t : List UInt8} {k : Nat} (h : k < t.length) : padS t k = t := by
  unfold padS
  rw [show k + 1 - t.length = 0 by omega]; rfl
theorem pad_len (t : List UInt8) (k : Nat) : (padS t k).length = max t.length (k + 1) := by
  unfold padS
  rw [List.length_append, List.length_replicate]; omega
def hPr : Hints := ⟨[], [(0, ⟨[(1, false), (5, false), (6, false)], []⟩)]⟩
noncomputable def lPr : List (FuncId × PFn) := [(81, p_Right), (124, p_CutP), (125, p_Itoa)]
theorem ok_lPr : AllOK NGd Wd lPr := allOK_cons ok_Right (allOK_cons ok_CutP (allOK_cons ok_Itoa allOK_nil))
def frPr (sc : Int) (x : List UInt8) (m : Bool) : St := frame 42 [(1, (.int .i64 sc, 0)), (5, (.str x, 0)), (6, (.bool m, 0))] []
noncomputable def prLoop (fu n : Nat) (st : St) : Option PV := loopF (en lPr) hPr fu false Tryz.f91 [1, 1, 1, 0, 0] 0 n st
theorem pr_raw (fu : Nat) (n sc : Int) : prun (en lPr) hPr fu false Tryz.f91 [.int .i64 n, .int .i64 sc] =
    bif !scaleB sc then some (.str []) else bif decide (-9223372036854775808 ≤ n) && decide (n ≤ 9223372036854775807) then prLoop fu fu (frPr sc (noM (itoaD n)) (hasM (itoaD n))) else none := by kernel_rfl
theorem pr_step (fu : Nat) (sc : Int) (x : List UInt8) (m : Bool) (K : St → Option PV) :
    stepF (en lPr) hPr fu false Tryz.f91 [1, 1, 1, 0, 0] (frPr sc x m) (fun st => pnorm (hPr.loop.lookup 0) st K) =
    bif decide ((x.length : Int) ≤ sc) then bif decide (([48] : List UInt8).length + x.length ≤ 9223372036854775807) then K (frPr sc ([48] ++ x) m) else none else prFin x sc m := by kernel_rfl
theorem pr_loop (fu : Nat) (k : Nat) (hk : k ≤ 6) (m : Bool) : ∀ (j n : Nat) (x : List UInt8), k + 1 ≤ x.length + j → j < n → x.length ≤ 100 → prLoop fu n (frPr (k : Int) x m) = some (.str ((bif m then [45] else []) ++ dotS (padS x k) k))
  | j, 0, _, _, h, _ => by omega
  | j, n + 1, x, hj, hn, hx => by
    unfold prLoop
    rw [loopF_succ, pr_step]
    by_cases h : x.length ≤ k
    · rw [cond_t (decide_eq_true (by omega)), cond_t (decide_eq_true (by simp; omega))]
      have ih := pr_loop fu k hk m (j - 1) n (48 :: x) (by simp; omega) (by omega) (by simp; omega)
      rw [pad_step h] at ih
      unfold prLoop at ih
      exact ih
    · rw [cond_f (decide_eq_false (by omega)), prFin_eq (by omega) (by omega), pad_done (by omega)]
theorem noM_digits {t : List UInt8} (h : t.all isD = true) : noM t = t ∧ hasM t = false := by
  have : hasM t = false := by
    unfold hasM
    cases t with
    | nil => rfl
    | cons c t =>
      rw [List.all_cons, Bool.and_eq_true] at h
      have hc := h.1
      simp only [List.head?_cons]
      rw [beq_eq_false_iff_ne]
      intro e
      injection e with e
      subst e
      simp [isD] at hc
  unfold noM
  rw [this]
  exact ⟨rfl, rfl⟩
theorem itoa_cut {n : Int} (h : inI n = true) : noM (itoaD n) = dS n.natAbs ∧ hasM (itoaD n) = decide (n < 0) := by
  rw [inI_iff] at h
  have f := (dS_facts (N := n.natAbs) (by omega)).1
  unfold itoaD
  by_cases k : n < 0
  · rw [decide_eq_true k, cond_true]
    exact ⟨rfl, rfl⟩
  · rw [decide_eq_false k, cond_false, show n.toNat = n.natAbs by omega]
    exact noM_digits f
def prV (n sc : Int) : List UInt8 := bif scaleB sc then printS n.natAbs (decide (n < 0)) sc.toNat else []
def p_Print : PFn := ⟨fun xs k => match xs with | [.int .i64 n, .int .i64 sc] => bif inI n then k (.str (prV n sc)) else none | _ => none, false⟩
theorem ok_Print : FOK NGd Wd 91 p_Print := by
  refine fok wokd ok_lPr (h := hPr) Tryz.func91 rfl (by decide) ?_ ?_
  · intro R xs k
    simp only [p_Print]
    split
    · exact cond_nat
    · rfl
  · intro xs r h
    simp only [p_Print] at h
    split at h
    · rename_i n sc
      rcases hb : inI n with _ | _ <;> rw [hb] at h
      · cases h
      · simp only [cond_true, Option.some.injEq] at h
        subst h
        refine ⟨1000, (pr_raw 1000 n sc).trans ?_⟩
        unfold prV
        cases hs : scaleB sc
        · rfl
        · rw [scaleB_iff] at hs
          obtain ⟨e1, e2⟩ := itoa_cut hb
          rw [inI_iff] at hb
          have f := (dS_facts (N := n.natAbs) (by omega)).2.2.2.1
          rw [Bool.not_true, cond_false, cond_true, cond_t (by rw [decide_eq_true hb.1, decide_eq_true hb.2]; rfl), e1, e2]
          obtain ⟨k, rfl⟩ := Int.eq_ofNat_of_zero_le hs.1
          have := pr_loop 1000 k (by omega) (decide (n < 0)) 7 1000 (dS n.natAbs) (by omega) (by omega) (by omega)
          rw [Int.toNat_natCast]
          exact this
    · cases h

/-! ## the document's Digits and Print -/
def hDg : Hints := ⟨[], [(0, ⟨[(3, false), (7, false), (8, false), (9, false)], []⟩)]⟩
def frDg (x : List UInt8) (n7 : Option Bool) (l7 : Nat) (c7 : List PV) (L i : Int) : St := frame 23 [(3, (.str x, 0)), (7, (.sl n7 1 l7 c7, 0)), (8, (.int .i64 L, 0)), (9, (.int .i64 i, 0))] []
noncomputable def lDg : List (FuncId × PFn) := [(101, p_Of)]
noncomputable def dgLoop (fu n : Nat) (st : St) : Option PV := loopF (en lDg) hDg fu false Tryz.f131 [1, 1, 0, 1, 0] 0 n st
theorem dgt_raw (fu : Nat) (n : Int) : prun (en lDg) hDg fu false Tryz.f131 [.int .i64 n] =
    bif inI n then dgLoop fu fu (frDg [] (some (n.natAbs == 0)) (dlen n.natAbs) (cellsN n.natAbs) (dlen n.natAbs : Int) 0) else none := by kernel_rfl
def tenS : List UInt8 := [48, 49, 50, 51, 52, 53, 54, 55, 56, 57]
theorem dgt_step (fu : Nat) (x : List UInt8) (n7 : Option Bool) (l7 : Nat) (c7 : List PV) (L i : Int) (K : St → Option PV) :
    stepF (en lDg) hDg fu false Tryz.f131 [1, 1, 0, 1, 0] (frDg x n7 l7 c7 L i) (fun st => pnorm (hDg.loop.lookup 0) st K) =
    bif decide (i < L) then ixI l7 c7 i fun v =>
      bif decide (0 ≤ IntKind.i64.wrap (v + 1)) && decide (IntKind.i64.wrap (v + 1) ≤ (tenS.length : Int)) then bif decide (0 ≤ v) && decide (v ≤ ((IntKind.i64.wrap (v + 1)).toNat : Int)) then
        bif decide (((tenS.take (IntKind.i64.wrap (v + 1)).toNat).drop v.toNat).length + x.length ≤ 9223372036854775807) then K (frDg (((tenS.take (IntKind.i64.wrap (v + 1)).toNat).drop v.toNat) ++ x) n7 l7 c7 L (IntKind.i64.wrap (i + 1))) else none
      else none else none
    else bif x == [] then some (.str [48]) else some (.str x) := by kernel_rfl
def chS (k N : Nat) : List UInt8 := ((dg k N).map fun d => UInt8.ofNat (48 + d)).reverse
theorem ten_one : ∀ d, d < 10 → (tenS.take (d + 1)).drop d = [UInt8.ofNat (48 + d)] := by decide
theorem dgt_loop (fu : Nat) (N : Nat) (hN : dlen N ≤ 100) (n7 : Option Bool) : ∀ (m i n : Nat), i + m = dlen N → m < n → dgLoop fu n (frDg (chS i N) n7 (dlen N) (cellsN N) (dlen N : Int) (i : Int)) = some (.str (bif chS (dlen N) N == [] then [48] else chS (dlen N) N))
  | m, i, 0, _, h => by omega
  | 0, i, n + 1, hi, hn => by
    unfold dgLoop
    rw [loopF_succ, dgt_step, cond_f (decide_eq_false (by omega)), show i = dlen N by omega]
    cases chS (dlen N) N == [] <;> rfl
  | m + 1, i, n + 1, hi, hn => by
    unfold dgLoop
    have hd : N / 10 ^ i % 10 < 10 := Nat.mod_lt _ (by decide)
    have hl : (chS i N).length = i := by simp [chS, dg_len]
    rw [loopF_succ, dgt_step, cond_t (decide_eq_true (by omega)), ixI_dgs (by omega) (by omega), Int.toNat_natCast, wrapI_of (x := _ + 1) (by omega) (by omega), wrapI_of (x := (i : Int) + 1) (by omega) (by omega)]
    have e1 : (((N / 10 ^ i % 10 : Nat) : Int) + 1).toNat = N / 10 ^ i % 10 + 1 := by omega
    have ih := dgt_loop fu N hN n7 m (i + 1) n (by omega) (by omega)
    unfold dgLoop at ih
    have e2 : chS (i + 1) N = [UInt8.ofNat (48 + N / 10 ^ i % 10)] ++ chS i N := by
      unfold chS
      rw [dg_snoc, List.map_append, List.reverse_append]; rfl
    rw [e2] at ih
    simp only [e1, Int.toNat_natCast]
    rw [cond_t (by rw [decide_eq_true (by omega), decide_eq_true (by show _ ≤ ((10 : Nat) : Int); omega)]; rfl), cond_t (by rw [decide_eq_true (by omega), decide_eq_true (by omega)]; rfl), ten_one _ hd, cond_t (decide_eq_true (by simp; omega))]
    exact ih
theorem ch_dS : ∀ (k u : Nat), u < 10 ^ (k + 1) → decD (k + 1) u = bif chS (dlen u) u == [] then [48] else chS (dlen u) u
  | k, u, hu => by
    unfold decD
    by_cases h : u < 10
    · rw [decide_eq_true h, cond_true]
      by_cases h0 : u = 0
      · subst h0; rfl
      · have hl : dlen u = 1 := by rw [dlen_pos h0, show u / 10 = 0 by omega, dlen_zero]
        rw [hl]
        show _ = bif [UInt8.ofNat (48 + u % 10)] == [] then [48] else [UInt8.ofNat (48 + u % 10)]
        rw [show u % 10 = u by omega]; rfl
    · rw [decide_eq_false h, cond_false]
      match k, hu with
      | 0, hu => simp at hu; omega
      | k + 1, hu =>
        have hq : u / 10 < 10 ^ (k + 1) := (Nat.div_lt_iff_lt_mul (by decide)).2 (by rw [Nat.pow_succ] at hu; exact hu)
        rw [ch_dS k (u / 10) hq]
        have hl : dlen u = dlen (u / 10) + 1 := dlen_pos (by omega)
        have hl2 : dlen (u / 10) = dlen (u / 10 / 10) + 1 := dlen_pos (by omega)
        have e : chS (dlen u) u = chS (dlen (u / 10)) (u / 10) ++ [UInt8.ofNat (48 + u % 10)] := by
          rw [hl]
          unfold chS
          show ((u % 10 :: dg (dlen (u / 10)) (u / 10)).map _).reverse = _
          rw [List.map_cons, List.reverse_cons]
        have n1 : (chS (dlen (u / 10)) (u / 10) == []) = false := by
          rw [beq_eq_false_iff_ne]
          intro e
          have := congrArg List.length e
          simp [chS, dg_len] at this
          omega
        have n2 : (chS (dlen u) u == []) = false := by rw [e]; simp
        rw [n1, n2, cond_false, cond_false, e]
def p_Digits : PFn := ⟨fun xs k => match xs with | [.int .i64 n] => bif inI n then k (.str (dS n.natAbs)) else none | _ => none, false⟩
theorem ok_Digits : FOK NGd Wd 131 p_Digits := by
  refine fok wokd (allOK_cons ok_Of allOK_nil) (h := hDg) Tryz.func131 rfl (by decide) ?_ ?_
  · intro R xs k
    simp only [p_Digits]
    split
    · exact cond_nat
    · rfl
  · intro xs r h
    simp only [p_Digits] at h
    split at h
    · rename_i n
      rcases hb : inI n with _ | _ <;> rw [hb] at h
      · cases h
      · simp only [cond_true, Option.some.injEq] at h
        subst h
        refine ⟨1000, (dgt_raw 1000 n).trans ?_⟩
        have hl := dlen_abs hb
        rw [hb, cond_true]
        rw [inI_iff] at hb
        have := dgt_loop 1000 n.natAbs (by omega) (some (n.natAbs == 0)) (dlen n.natAbs) 0 1000 (by omega) (by omega)
        unfold dS
        rw [ch_dS 19 n.natAbs (by omega)]
        exact this
    · cases h
def hRPr : Hints := ⟨[], [(0, ⟨[(0, false), (1, false), (5, false)], []⟩)]⟩
noncomputable def lRPr : List (FuncId × PFn) := [(129, p_Scale), (131, p_Digits)]
def frRPr (n sc : Int) (x : List UInt8) : St := frame 38 [(0, (.int .i64 n, 0)), (1, (.int .i64 sc, 0)), (5, (.str x, 0))] []
noncomputable def rprLoop (fu n : Nat) (st : St) : Option PV := loopF (en lRPr) hRPr fu false Tryz.f97 [1, 1, 1, 0, 0] 0 n st
theorem rpr_raw (fu : Nat) (n sc : Int) : prun (en lRPr) hRPr fu false Tryz.f97 [.int .i64 n, .int .i64 sc] =
    bif !scaleB sc then some (.str []) else bif inI n then rprLoop fu fu (frRPr n sc (dS n.natAbs)) else none := by kernel_rfl
theorem rpr_step (fu : Nat) (n sc : Int) (x : List UInt8) (K : St → Option PV) :
    stepF (en lRPr) hRPr fu false Tryz.f97 [1, 1, 1, 0, 0] (frRPr n sc x) (fun st => pnorm (hRPr.loop.lookup 0) st K) =
    bif decide ((x.length : Int) ≤ sc) then bif decide (([48] : List UInt8).length + x.length ≤ 9223372036854775807) then K (frRPr n sc ([48] ++ x)) else none else prFin x sc (decide (n < 0)) := by kernel_rfl
theorem rpr_loop (fu : Nat) (k : Nat) (hk : k ≤ 6) (v : Int) : ∀ (j n : Nat) (x : List UInt8), k + 1 ≤ x.length + j → j < n → x.length ≤ 100 → rprLoop fu n (frRPr v (k : Int) x) = some (.str ((bif decide (v < 0) then [45] else []) ++ dotS (padS x k) k))
  | j, 0, _, _, h, _ => by omega
  | j, n + 1, x, hj, hn, hx => by
    unfold rprLoop
    rw [loopF_succ, rpr_step]
    by_cases h : x.length ≤ k
    · rw [cond_t (decide_eq_true (by omega)), cond_t (decide_eq_true (by simp; omega))]
      have ih := rpr_loop fu k hk v (j - 1) n (48 :: x) (by simp; omega) (by omega) (by simp; omega)
      rw [pad_step h] at ih
      unfold rprLoop at ih
      exact ih
    · rw [cond_f (decide_eq_false (by omega)), prFin_eq (by omega) (by omega), pad_done (by omega)]
def p_RPrint : PFn := ⟨fun xs k => match xs with | [.int .i64 n, .int .i64 sc] => bif inI n then k (.str (prV n sc)) else none | _ => none, false⟩
theorem ok_RPrint : FOK NGd Wd 97 p_RPrint := by
  refine fok wokd (allOK_cons ok_Scale (allOK_cons ok_Digits allOK_nil)) (h := hRPr) Tryz.func97 rfl (by decide) ?_ ?_
  · intro R xs k
    simp only [p_RPrint]
    split
    · exact cond_nat
    · rfl
  · intro xs r h
    simp only [p_RPrint] at h
    split at h
    · rename_i n sc
      rcases hb : inI n with _ | _ <;> rw [hb] at h
      · cases h
      · simp only [cond_true, Option.some.injEq] at h
        subst h
        refine ⟨1000, (rpr_raw 1000 n sc).trans ?_⟩
        unfold prV
        cases hs : scaleB sc
        · rfl
        · rw [scaleB_iff] at hs
          rw [Bool.not_true, cond_false, cond_true, hb, cond_true]
          rw [inI_iff] at hb
          have f := (dS_facts (N := n.natAbs) (by omega)).2.2.2.1
          obtain ⟨k, rfl⟩ := Int.eq_ofNat_of_zero_le hs.1
          have := rpr_loop 1000 k (by omega) n 7 1000 (dS n.natAbs) (by omega) (by omega) (by omega)
          rw [Int.toNat_natCast]
          exact this
    · cases h
end Go.Proofs.YtelckbphbkebkaaGreatDoor
set_option linter.unusedVariables false
set_option linter.unusedSimpArgs false
namespace Go.Proofs.YtelckbphbkebkaaGreatDoor
open Go.RowKit

theorem cutB_digits {w : List UInt8} (h : w.all isD = true) : cutB w = false := by
  unfold cutB
  rw [List.any_eq_false]
  intro c hc
  have := isD_ne (List.all_eq_true.1 h c hc)
  simpa using this
theorem cut_dot {w r : List UInt8} (h : w.all isD = true) : cutA (w ++ 46 :: r) = w ∧ cutR (w ++ 46 :: r) = r ∧ cutB (w ++ 46 :: r) = true := by
  unfold cutA cutR cutB
  induction w with
  | nil => simp [notP]
  | cons c w ih =>
    rw [List.all_cons, Bool.and_eq_true] at h
    have hn : notP c = true := by unfold notP; rw [isD_ne h.1]; rfl
    obtain ⟨i1, i2, i3⟩ := ih h.2
    rw [List.cons_append, List.takeWhile_cons, List.dropWhile_cons, hn]
    simp only [if_true, List.any_cons, i1, i2, i3, Bool.or_true]
    exact ⟨trivial, trivial, trivial⟩
theorem vacc_zeros (t : List UInt8) : ∀ j, vacc 0 (List.replicate j 48 ++ t) = vacc 0 t
  | 0 => rfl
  | j + 1 => by
    rw [List.replicate_succ, List.cons_append]
    exact vacc_zeros t j
theorem pad_facts {t : List UInt8} {k : Nat} (h : t.all isD = true) : (padS t k).all isD = true ∧ digV (padS t k) = digV t := by
  unfold padS
  refine ⟨?_, vacc_zeros t _⟩
  rw [List.all_append, h, Bool.and_true, List.all_eq_true]
  intro c hc
  obtain ⟨_, rfl⟩ := List.mem_replicate.1 hc
  rfl
theorem hasM_digit {c : UInt8} {t : List UInt8} (h : isD c = true) : hasM (c :: t) = false := by
  unfold hasM
  rw [List.head?_cons, beq_eq_false_iff_ne]
  intro e
  injection e with e
  subst e
  simp [isD] at h
theorem cut_m {q : List UInt8} {m : Bool} (h : ∃ c t, q = c :: t ∧ isD c = true) : noM ((bif m then [45] else []) ++ q) = q ∧ hasM ((bif m then [45] else []) ++ q) = m := by
  cases m
  · obtain ⟨c, t, rfl, hc⟩ := h
    have : hasM (c :: t) = false := hasM_digit hc
    unfold noM
    rw [cond_false, List.nil_append, this]
    exact ⟨rfl, rfl⟩
  · exact ⟨rfl, rfl⟩
theorem print_parse {N k : Nat} {m : Bool} (hN : N < 10 ^ 20) (hk : k ≤ 6) (ho : over64 (sgn N m) = false) (hz : (sgn N m == 0 && m) = false) : parseP (printS N m k) = some (sgn N m, k) := by
  obtain ⟨f1, f2, f3, f4, f5, f6⟩ := dS_facts hN
  obtain ⟨p1, p2⟩ := pad_facts (k := k) f1
  have p3 := pad_len (dS N) k
  have hl : 0 < (dS N).length := List.length_pos_iff.2 f2
  rw [f3] at p2
  have hdone : k + 1 < (padS (dS N) k).length → padS (dS N) k = dS N := fun h => pad_done (by omega)
  have hdone0 : k = 0 → padS (dS N) k = dS N := fun h => pad_done (by omega)
  unfold printS
  generalize padS (dS N) k = p at *
  have hp0 : p ≠ [] := by intro e; rw [e] at p3; simp at p3; omega
  obtain ⟨c, t, hp⟩ := List.exists_cons_of_ne_nil hp0
  have hcD : isD c = true := by rw [hp, List.all_cons, Bool.and_eq_true] at p1; exact p1.1
  by_cases h0 : k = 0
  · have hd : dotS p k = p := by unfold dotS; rw [decide_eq_false (by omega)]; rfl
    have hpd := hdone0 h0
    rw [hd]
    obtain ⟨e1, e2⟩ := cut_m (m := m) ⟨c, t, hp, hcD⟩
    obtain ⟨g1, g2⟩ := cut_none (cutB_digits p1)
    unfold parseP valP
    rw [e1, e2, g1, g2, cutB_digits p1, List.append_nil, p2, ho, hz]
    have hb : badP p [] false = false := by
      unfold badP
      rw [digB_iff.2 ⟨p1, hp0⟩]
      simp only [Bool.not_true, Bool.false_or, Bool.false_and, Bool.or_false, Bool.and_eq_false_iff]
      by_cases h1 : 1 < p.length
      · right
        rw [hp, List.head?_cons, beq_eq_false_iff_ne]
        intro e
        injection e with e
        rw [hpd] at h1 hp
        exact f5 (f6 h1) c (by rw [hp]; rfl) e
      · exact .inl (decide_eq_false h1)
    rw [hb, h0]
    rfl
  · have hd : dotS p k = p.take (p.length - k) ++ 46 :: p.drop (p.length - k) := by unfold dotS; rw [decide_eq_true (by omega), cond_true, List.append_assoc]; rfl
    have hwl : (p.take (p.length - k)).length = p.length - k := by rw [List.length_take]; omega
    have hrl : (p.drop (p.length - k)).length = k := by rw [List.length_drop]; omega
    have hcat : p.take (p.length - k) ++ p.drop (p.length - k) = p := List.take_append_drop _ _
    have hall := p1
    rw [← hcat, List.all_append, Bool.and_eq_true] at hall
    have hhead : (p.take (p.length - k)).head? = some c := by
      rw [List.head?_take, if_neg (by omega), hp]; rfl
    rw [hd]
    have hq : ∃ c' t', p.take (p.length - k) ++ 46 :: p.drop (p.length - k) = c' :: t' ∧ isD c' = true := by
      obtain ⟨c', t', e⟩ := List.exists_cons_of_ne_nil (show p.take (p.length - k) ≠ [] by intro e; rw [e] at hwl; simp at hwl; omega)
      rw [e] at hhead
      injection hhead with hh
      exact ⟨c', t' ++ 46 :: p.drop (p.length - k), by rw [e]; rfl, by rw [hh]; exact hcD⟩
    obtain ⟨e1, e2⟩ := cut_m (m := m) hq
    obtain ⟨g1, g2, g3⟩ := cut_dot (r := p.drop (p.length - k)) hall.1
    unfold parseP valP
    rw [e1, e2, g1, g2, g3, hcat, p2, ho, hz, hrl]
    have hb : badP (p.take (p.length - k)) (p.drop (p.length - k)) true = false := by
      unfold badP
      rw [digB_iff.2 ⟨hall.1, by intro e; rw [e] at hwl; simp at hwl; omega⟩, digB_iff.2 ⟨hall.2, by intro e; rw [e] at hrl; simp at hrl; omega⟩, hrl, decide_eq_false (show ¬ 6 < k by omega), hwl, hhead]
      simp only [Bool.not_true, Bool.false_or, Bool.and_false, Bool.or_false, Bool.and_eq_false_iff]
      by_cases h1 : 1 < p.length - k
      · right
        rw [beq_eq_false_iff_ne]
        intro e
        injection e with e
        have hpd := hdone (by omega)
        rw [hpd] at h1 hp
        exact f5 (f6 (by omega)) c (by rw [hp]; rfl) e
      · exact .inl (decide_eq_false h1)
    rw [hb]
    rfl
def printsBody (n sc : Int) : Option PV :=
  bif inI n then bif inI n then
    bif !(!(prV n sc == prV n sc)) then bif !(scaleB sc == scaleB sc) then some (.bool false) else
      bif decide ((prV n sc).length ≤ 400) then
        some (.bool ((parseP (prV n sc)).isSome == scaleB sc && (!(parseP (prV n sc)).isSome || ((parseP (prV n sc)).elim 0 (fun p => p.1) == n && (parseP (prV n sc)).elim 0 (fun p => (p.2 : Int)) == sc))))
      else none
    else some (.bool false)
  else none else none
theorem prints_body {n sc : Int} (hn : inI n = true) : printsBody n sc = some (.bool true) := by
  unfold printsBody
  rw [hn]
  simp only [cond_true, beq_self_eq_true, Bool.not_true, Bool.not_false, cond_false]
  rw [inI_iff] at hn
  cases hs : scaleB sc
  · have e : prV n sc = [] := by unfold prV; rw [hs]; rfl
    rw [e]; rfl
  · have e : prV n sc = printS n.natAbs (decide (n < 0)) sc.toNat := by unfold prV; rw [hs]; rfl
    rw [scaleB_iff] at hs
    have hsg : sgn (n.natAbs : Int) (decide (n < 0)) = n := by
      unfold sgn
      by_cases k : n < 0
      · rw [decide_eq_true k, cond_true]; omega
      · rw [decide_eq_false k, cond_false]; omega
    have hp := print_parse (N := n.natAbs) (k := sc.toNat) (m := decide (n < 0)) (by omega) (by omega) (by rw [hsg]; unfold over64; rw [decide_eq_false (by omega), decide_eq_false (by omega)]; rfl)
      (by rw [hsg]; by_cases k : n < 0
          · rw [show (n == 0) = false by rw [beq_eq_false_iff_ne]; omega]; rfl
          · rw [decide_eq_false k, Bool.and_false])
    rw [hsg] at hp
    have hlen : (prV n sc).length ≤ 400 := by
      rw [e]
      unfold printS dotS
      have h1 := pad_len (dS n.natAbs) sc.toNat
      have h2 := (dS_facts (N := n.natAbs) (by omega)).2.2.2.1
      have hm : (bif decide (n < 0) then [45] else [] : List UInt8).length ≤ 1 := by cases decide (n < 0) <;> simp
      rw [List.length_append]
      cases decide (0 < sc.toNat)
      · rw [cond_false]; omega
      · simp only [cond_true, List.length_append, List.length_take, List.length_drop, List.length_cons, List.length_nil]
        omega
    rw [cond_t (decide_eq_true hlen), e, hp]
    have : ((sc.toNat : Nat) : Int) = sc := by omega
    simp [this]
end Go.Proofs.YtelckbphbkebkaaGreatDoor
