/-
  Decimal: texts: digits, CutPrefix, Cut, Atoi.
-/
import Derived.Test.YtllpobcecingiaaGreatDoorDza
import Derived.Test.YtllpobcecingiaaGreatDoorDshelf2
import Derived.Lib.SmallJoins
set_option linter.unusedVariables false
set_option linter.unusedSimpArgs false
namespace Go.Proofs.YtllpobcecingiaaGreatDoor
open Go.RowKit

/-! ## the two errors are there -/
def ErrIs (w : World) (name : String) : Prop := ∃ tp p, w.var? Tryz.prog name = some #[.iface tp p]
def We (w : World) : Prop := Wd w ∧ ErrIs w "strconv.ErrSyntax" ∧ ErrIs w "strconv.ErrRange"
theorem gSyntax : Tryz.prog.globalNamed "strconv.ErrSyntax" = some 3 := by kernel_rfl
theorem gRange : Tryz.prog.globalNamed "strconv.ErrRange" = some 4 := by kernel_rfl
theorem woke : WOK NGd We := by
  intro w w' h hW
  refine ⟨wokd w w' h hW.1, ?_, ?_⟩
  · obtain ⟨tp, p, hv⟩ := hW.2.1
    refine ⟨tp, p, ?_⟩
    rw [← hv]
    unfold World.var?
    rw [gSyntax]
    simp only [Option.bind_some]
    rw [h _ (of_decide_eq_true (by kernel_rfl))]
  · obtain ⟨tp, p, hv⟩ := hW.2.2
    refine ⟨tp, p, ?_⟩
    rw [← hv]
    unfold World.var?
    rw [gRange]
    simp only [Option.bind_some]
    rw [h _ (of_decide_eq_true (by kernel_rfl))]
theorem fok_mono {NG : Nat} {W V : World → Prop} (h : ∀ w, V w → W w) {f : FuncId} {p : PFn} (hp : FOK NG W f p) : FOK NG V f p where
  nat := hp.nat
  call := fun M xs vs r hW => hp.call M xs vs r (h _ hW)
theorem we_d : ∀ w, We w → Wd w := fun w h => h.1

/-! ## digits -/
def ixB {R : Type} (s : List UInt8) (i : Int) (K : UInt8 → Option R) : Option R := bif decide (0 ≤ i) && decide (i < (s.length : Int)) then s[i.toNat]?.bind K else none
theorem ixB_eq {R : Type} {s : List UInt8} {i : Nat} {c : UInt8} {K : UInt8 → Option R} (h : s[i]? = some c) : ixB s (i : Int) K = K c := by
  have := (List.getElem?_eq_some_iff.1 h).1
  unfold ixB
  rw [cond_t (by rw [decide_eq_true (by omega), decide_eq_true (by omega)]; rfl), Int.toNat_natCast, h]
  rfl
def isD (c : UInt8) : Bool := decide (48 ≤ c.toNat) && decide (c.toNat ≤ 57)
def digB (s : List UInt8) : Bool := s.all isD && !(s == [])
def hDig : Hints := ⟨[], [(0, ⟨[(0, false), (5, false), (6, false)], []⟩)]⟩
def frDig (s : List UInt8) (n i : Int) : St := frame 22 [(0, (.str s, 0)), (5, (.int .i64 n, 0)), (6, (.int .i64 i, 0))] []
noncomputable def digLoop (fu n : Nat) (st : St) : Option PV := loopF (en []) hDig fu false Tryz.f85 [1, 0, 1, 0] 0 n st
theorem dig_raw (fu : Nat) (s : List UInt8) : prun (en []) hDig fu false Tryz.f85 [.str s] = digLoop fu fu (frDig s (s.length : Int) 0) := by kernel_rfl
theorem dig_step (fu : Nat) (s : List UInt8) (n i : Int) (K : St → Option PV) :
    stepF (en []) hDig fu false Tryz.f85 [1, 0, 1, 0] (frDig s n i) (fun st => pnorm (hDig.loop.lookup 0) st K) =
    bif decide (i < n) then ixB s i fun v => bif !decide ((v.toNat : Int) < 48) then ixB s i fun v => bif decide (57 < (v.toNat : Int)) then some (.bool false) else K (frDig s n (IntKind.i64.wrap (i + 1))) else some (.bool false)
    else some (.bool (!(s == []))) := by kernel_rfl
theorem dig_loop (fu : Nat) (s : List UInt8) (hs : s.length ≤ 1000) : ∀ (m i n : Nat), i + m = s.length → m < n → digLoop fu n (frDig s (s.length : Int) (i : Int)) = some (.bool ((s.drop i).all isD && !(s == [])))
  | m, i, 0, _, h => by omega
  | 0, i, n + 1, hi, hn => by
    unfold digLoop
    rw [loopF_succ, dig_step, cond_f (decide_eq_false (by omega)), List.drop_of_length_le (by omega)]
    rfl
  | m + 1, i, n + 1, hi, hn => by
    unfold digLoop
    have hc := List.getElem?_eq_getElem (l := s) (i := i) (by omega)
    rw [loopF_succ, dig_step, cond_t (decide_eq_true (by omega)), ixB_eq hc, ixB_eq hc, wrapI_of (by omega) (by omega), List.drop_eq_getElem_cons (by omega), List.all_cons]
    generalize s[i] = c
    have ih := dig_loop fu s hs m (i + 1) n (by omega) (by omega)
    unfold digLoop at ih
    unfold isD
    by_cases h1 : 48 ≤ c.toNat
    · rw [cond_t (by rw [decide_eq_false (by omega)]; rfl), decide_eq_true h1]
      by_cases h2 : c.toNat ≤ 57
      · rw [cond_f (decide_eq_false (by omega)), decide_eq_true h2]
        exact ih
      · rw [cond_t (decide_eq_true (by omega)), decide_eq_false h2]; rfl
    · rw [cond_f (by rw [decide_eq_true (by omega)]; rfl), decide_eq_false h1]; rfl
def p_digits : PFn := ⟨fun xs k => match xs with | [.str s] => bif decide (s.length ≤ 500) then k (.bool (digB s)) else none | _ => none, false⟩
theorem ok_digits : FOK NGd Wd 85 p_digits := by
  refine fok wokd allOK_nil (h := hDig) Tryz.func85 rfl (by decide) ?_ ?_
  · intro R xs k
    simp only [p_digits]
    split
    · exact cond_nat
    · rfl
  · intro xs r h
    simp only [p_digits] at h
    split at h
    · rename_i s
      rcases hb : decide (s.length ≤ 500) with _ | _ <;> rw [hb] at h
      · cases h
      · simp only [cond_true, Option.some.injEq] at h
        subst h
        simp only [decide_eq_true_eq] at hb
        refine ⟨1000, (dig_raw 1000 s).trans ?_⟩
        exact dig_loop 1000 s (by omega) s.length 0 1000 (by omega) (by omega)
    · cases h

/-! ## CutPrefix -/
def hasM (s : List UInt8) : Bool := s.head? == some 45
def p_HasPrefix : PFn := ⟨fun xs k => match xs with | [.str s, .str [45]] => k (.bool (hasM s)) | _ => none, false⟩
theorem hasp_raw (s : List UInt8) : prun (en []) ⟨[], []⟩ 0 false Tryz.f139 [.str s, .str [45]] =
    bif decide (1 ≤ (s.length : Int)) then bif decide (1 ≤ (s.length : Int)) then some (.bool ((s.take 1).drop 0 == [45])) else none else some (.bool false) := by kernel_rfl
theorem ok_HasPrefix : FOK NGd Wd 139 p_HasPrefix := by
  refine fok wokd allOK_nil (h := ⟨[], []⟩) Tryz.func139 rfl (by decide) ?_ ?_
  · intro R xs k
    simp only [p_HasPrefix]
    split <;> rfl
  · intro xs r h
    simp only [p_HasPrefix] at h
    split at h
    · rename_i s
      refine ⟨0, (hasp_raw s).trans ?_⟩
      rw [← h]
      cases s with
      | nil => rfl
      | cons c t =>
        rw [cond_t (decide_eq_true (by simp; omega)), cond_t (decide_eq_true (by simp; omega))]
        simp [hasM]
    · cases h
def noM (s : List UInt8) : List UInt8 := bif hasM s then s.drop 1 else s
def p_CutP : PFn := ⟨fun xs k => match xs with | [.str s, .str [45]] => k (.tuple [.str (noM s), .bool (hasM s)]) | _ => none, false⟩
theorem cutp_raw (s : List UInt8) : prun (en [(139, p_HasPrefix)]) ⟨[], []⟩ 0 false Tryz.f117 [.str s, .str [45]] =
    bif !hasM s then some (.tuple [.str s, .bool false]) else bif decide (1 ≤ (s.length : Int)) then some (.tuple [.str ((s.take s.length).drop 1), .bool true]) else none := by kernel_rfl
theorem ok_CutPl : FOK NGd Wd 117 p_CutP := by
  refine fok wokd (allOK_cons ok_HasPrefix allOK_nil) (h := ⟨[], []⟩) Tryz.func117 rfl (by decide) ?_ ?_
  · intro R xs k
    simp only [p_CutP]
    split <;> rfl
  · intro xs r h
    simp only [p_CutP] at h
    split at h
    · rename_i s
      refine ⟨0, (cutp_raw s).trans ?_⟩
      rw [← h]
      unfold noM
      cases hm : hasM s
      · rfl
      · have : s ≠ [] := by intro e; subst e; cases hm
        have hl : 0 < s.length := List.length_pos_iff.2 this
        simp only [Bool.not_true, cond_false, cond_true]
        rw [cond_t (decide_eq_true (by omega)), List.take_length]
    · cases h
theorem cutpo_raw (s : List UInt8) : prun (en [(117, p_CutP)]) ⟨[], []⟩ 0 false Tryz.f82 [.str s, .str [45]] = some (.tuple [.str (noM s), .bool (hasM s)]) := by kernel_rfl
theorem ok_CutP : FOK NGd Wd 82 p_CutP := by
  refine fok wokd (allOK_cons ok_CutPl allOK_nil) (h := ⟨[], []⟩) Tryz.func82 rfl (by decide) ?_ ?_
  · intro R xs k
    simp only [p_CutP]
    split <;> rfl
  · intro xs r h
    simp only [p_CutP] at h
    split at h
    · rename_i s
      exact ⟨0, (cutpo_raw s).trans h⟩
    · cases h

/-! ## Cut -/
def notP (c : UInt8) : Bool := !(c == 46)
def cutA (s : List UInt8) : List UInt8 := s.takeWhile notP
def cutR (s : List UInt8) : List UInt8 := (s.dropWhile notP).drop 1
def cutB (s : List UInt8) : Bool := s.any fun c => c == 46
theorem first_ix (s : List UInt8) : ∀ i, firstIx 46 i s = bif cutB s then ((i + (cutA s).length : Nat) : Int) else -1 := by
  induction s with
  | nil => intro i; rfl
  | cons c s ih =>
    intro i
    unfold firstIx cutB cutA
    by_cases h : c = 46
    · subst h; simp [notP]
    · have h1 : ¬ ((c.toNat : Int) = 46) := by
        intro e
        apply h
        apply UInt8.toNat_inj.1
        simp only [UInt8.reduceToNat]; omega
      have h2 : (c == 46) = false := by simpa using h
      rw [decide_eq_false h1, cond_false, ih]
      simp only [List.any_cons, h2, Bool.false_or, List.takeWhile_cons, notP, Bool.not_false, if_true, List.length_cons]
      unfold cutB cutA notP
      cases s.any fun c => c == 46 <;> simp <;> omega
def p_IndexByte : PFn := ⟨fun xs k => match xs with | [.str s, .int .u8 c] => bif decide (0 ≤ c) && decide (c ≤ 255) then k (.int .i64 (firstIx c 0 s)) else none | _ => none, false⟩
theorem ixbyte_raw (s : List UInt8) (c : Int) : prun (en [(169, p_IndexByteString)]) ⟨[], []⟩ 0 false Tryz.f155 [.str s, .int .u8 c] = bif decide (0 ≤ c) && decide (c ≤ 255) then some (.int .i64 (firstIx c 0 s)) else none := by kernel_rfl
theorem ok_IndexByte : FOK NGd Wd 155 p_IndexByte := by
  refine fok wokd (allOK_cons ok_IndexByteString allOK_nil) (h := ⟨[], []⟩) Tryz.func155 rfl (by decide) ?_ ?_
  · intro R xs k
    simp only [p_IndexByte]
    split
    · exact cond_nat
    · rfl
  · intro xs r h
    simp only [p_IndexByte] at h
    split at h
    · exact ⟨0, (ixbyte_raw _ _).trans h⟩
    · cases h
def p_Index : PFn := ⟨fun xs k => match xs with | [.str s, .str [46]] => k (.int .i64 (bif [46] == s then 0 else firstIx 46 0 s)) | _ => none, false⟩
theorem index_raw (s : List UInt8) : prun (en [(155, p_IndexByte)]) ⟨[], []⟩ 0 false Tryz.f141 [.str s, .str [46]] = bif (false || ([46] == s)) then some (.int .i64 0) else some (.int .i64 (firstIx 46 0 s)) := by kernel_rfl
theorem ok_Index : FOK NGd Wd 141 p_Index := by
  refine fok wokd (allOK_cons ok_IndexByte allOK_nil) (h := ⟨[], []⟩) Tryz.func141 rfl (by decide) ?_ ?_
  · intro R xs k
    simp only [p_Index]
    split <;> rfl
  · intro xs r h
    simp only [p_Index] at h
    split at h
    · rename_i s
      refine ⟨0, (index_raw s).trans ?_⟩
      rw [← h]
      cases [46] == s <;> rfl
    · cases h
def p_Cut : PFn := ⟨fun xs k => match xs with | [.str s, .str [46]] => bif decide (s.length ≤ 500) then k (.tuple [.str (cutA s), .str (cutR s), .bool (cutB s)]) else none | _ => none, false⟩
theorem cut_raw (s : List UInt8) (i : Int) (hi : (bif [46] == s then 0 else firstIx 46 0 s) = i) : prun (en [(141, p_Index)]) ⟨[], []⟩ 0 false Tryz.f119 [.str s, .str [46]] =
    bif decide (0 ≤ i) then bif decide (0 ≤ i) && decide (i ≤ (s.length : Int)) then bif decide (0 ≤ IntKind.i64.wrap (i + 1)) && decide (IntKind.i64.wrap (i + 1) ≤ (s.length : Int)) then
      some (.tuple [.str ((s.take i.toNat).drop 0), .str ((s.take s.length).drop (IntKind.i64.wrap (i + 1)).toNat), .bool true]) else none else none
    else some (.tuple [.str s, .str [], .bool false]) := by
  subst hi
  kernel_rfl
theorem cut_ix (s : List UInt8) : (bif [46] == s then 0 else firstIx 46 0 s) = bif cutB s then (((cutA s).length : Nat) : Int) else -1 := by
  by_cases h : [46] = s
  · subst h; rfl
  · have : ([46] == s) = false := by simpa using h
    rw [this, cond_false, first_ix]
    simp
theorem cut_none {s : List UInt8} (h : cutB s = false) : cutA s = s ∧ cutR s = [] := by
  induction s with
  | nil => exact ⟨rfl, rfl⟩
  | cons c s ih =>
    unfold cutB at h
    simp only [List.any_cons, Bool.or_eq_false_iff] at h
    obtain ⟨i1, i2⟩ := ih h.2
    have hn : notP c = true := by unfold notP; rw [h.1]; rfl
    unfold cutA cutR at *
    rw [List.takeWhile_cons, List.dropWhile_cons, hn]
    simp only [if_true, i1, i2]
    exact ⟨trivial, trivial⟩
theorem cut_some {s : List UInt8} (h : cutB s = true) : s = cutA s ++ 46 :: cutR s ∧ (cutA s).length < s.length := by
  induction s with
  | nil => cases h
  | cons c s ih =>
    unfold cutA cutR
    rw [List.takeWhile_cons, List.dropWhile_cons]
    by_cases hc : c = 46
    · subst hc
      simp [notP]
    · have hn : notP c = true := by unfold notP; simpa using hc
      have h2 : cutB s = true := by
        unfold cutB at h ⊢
        simp only [List.any_cons, Bool.or_eq_true, beq_iff_eq] at h
        rcases h with h | h
        · exact (hc h).elim
        · exact h
      obtain ⟨i1, i2⟩ := ih h2
      rw [hn]
      simp only [if_true, List.cons_append, List.length_cons]
      unfold cutA cutR at i1
      unfold cutA at i2
      exact ⟨congrArg (c :: ·) i1, by omega⟩
theorem ok_Cutl : FOK NGd Wd 119 p_Cut := by
  refine fok wokd (allOK_cons ok_Index allOK_nil) (h := ⟨[], []⟩) Tryz.func119 rfl (by decide) ?_ ?_
  · intro R xs k
    simp only [p_Cut]
    split
    · exact cond_nat
    · rfl
  · intro xs r h
    simp only [p_Cut] at h
    split at h
    · rename_i s
      rcases hb : decide (s.length ≤ 500) with _ | _ <;> rw [hb] at h
      · cases h
      · simp only [cond_true, Option.some.injEq] at h
        subst h
        simp only [decide_eq_true_eq] at hb
        refine ⟨0, (cut_raw s _ (cut_ix s)).trans ?_⟩
        cases hc : cutB s
        · obtain ⟨e1, e2⟩ := cut_none hc
          rw [e1, e2]; rfl
        · obtain ⟨e1, e2⟩ := cut_some hc
          simp only [cond_true]
          have hw : IntKind.i64.wrap (((cutA s).length : Int) + 1) = ((cutA s).length : Int) + 1 := wrapI_of (by omega) (by omega)
          rw [cond_t (decide_eq_true (by omega)), cond_t (by rw [decide_eq_true (by omega), decide_eq_true (by omega)]; rfl)]
          simp only [hw]
          rw [cond_t (by rw [decide_eq_true (by omega), decide_eq_true (by omega)]; rfl), List.take_length, List.drop_zero, Int.toNat_natCast, show ((((cutA s).length : Nat) : Int) + 1).toNat = (cutA s).length + 1 by omega]
          have t1 : s.take (cutA s).length = cutA s := by
            conv => lhs; arg 2; rw [e1]
            exact List.take_left
          have t2 : s.drop ((cutA s).length + 1) = cutR s := by
            conv => lhs; arg 2; rw [e1]
            rw [show cutA s ++ 46 :: cutR s = (cutA s ++ [46]) ++ cutR s by simp]
            exact List.drop_left' (by simp)
          rw [t1, t2]
    · cases h
theorem cuto_raw (s : List UInt8) : prun (en [(119, p_Cut)]) ⟨[], []⟩ 0 false Tryz.f84 [.str s, .str [46]] = bif decide (s.length ≤ 500) then some (.tuple [.str (cutA s), .str (cutR s), .bool (cutB s)]) else none := by kernel_rfl
theorem ok_Cut : FOK NGd Wd 84 p_Cut := by
  refine fok wokd (allOK_cons ok_Cutl allOK_nil) (h := ⟨[], []⟩) Tryz.func84 rfl (by decide) ?_ ?_
  · intro R xs k
    simp only [p_Cut]
    split
    · exact cond_nat
    · rfl
  · intro xs r h
    simp only [p_Cut] at h
    split at h
    · exact ⟨0, (cuto_raw _).trans h⟩
    · cases h

/-! ## Atoi -/
def atoK {R : Type} (s : List UInt8) (A : Int → Option R) (B : Option R) (C : Int → Option R) : Option R :=
  match Lib.atoiAll s with
  | .ok v => A v
  | .range => C (Lib.atoiSat s)
  | _ => B
def p_Atoi : PFn := ⟨fun xs k => match xs with | [.str s] => bif decide (s.length ≤ 1000) then atoK s (fun v => k (.tuple [.int .i64 v, .nilIface])) (k (.tuple [.int .i64 0, .iface 169 .nptr])) (fun v => k (.tuple [.int .i64 v, .iface 169 .nptr])) else none | _ => none, false⟩
theorem ok_Atoi : FOK NGd We 86 p_Atoi := by
  refine fok_calls Tryz.func86 (by kernel_rfl) (by decide) ?_ rfl ?_
  · intro R xs k
    simp only [p_Atoi]
    split
    · rename_i s
      unfold atoK
      cases decide (s.length ≤ 1000)
      · rfl
      · simp only [cond_true]
        cases Lib.atoiAll s <;> rfl
    · rfl
  · intro xs r M vs hW h hr
    simp only [p_Atoi] at h
    split at h
    · rename_i s
      rcases hb : decide (s.length ≤ 1000) with _ | _ <;> rw [hb] at h
      · cases h
      · simp only [cond_true] at h
        simp only [decide_eq_true_eq] at hb
        obtain ⟨v, rfl, h1⟩ := relT1 hr
        simp only [RelD] at h1
        subst h1
        have hsz : (ByteArray.mk s.toArray).size ≤ 1000 := by show s.toArray.size ≤ 1000; simpa using hb
        obtain ⟨_, ⟨t1, q1, e1⟩, ⟨t2, q2, e2⟩⟩ := hW
        unfold atoK at h
        cases ha : Lib.atoiAll s <;> rw [ha] at h <;> dsimp only at h
        · rename_i n
          simp only [Option.some.injEq] at h
          subst h
          refine (Any.strconv_Atoi_ok Tryz.laysC172 ⟨s.toArray⟩ (by omega) n (by simpa using ha) M.w).mono ?_
          rintro e w' ⟨rfl, hw⟩
          refine ⟨_, rfl, ?_, fun U' _ => ?_⟩
          · rcases hw with rfl | ⟨t, rfl⟩
            · exact Below.refl _ _
            · exact Go.Joins.below_bytesWorld _ _ _ _ (Nat.le_refl _)
          · simp only [RelD, RelT]
            exact ⟨[_, _], rfl, _, _, rfl, rfl, _, _, rfl, rfl, rfl⟩
        · simp only [Option.some.injEq] at h
          subst h
          refine (Any.strconv_Atoi_syntax_var Tryz.laysC172 ⟨s.toArray⟩ (by omega) (by simpa using ha) t1 q1 M.w e1).mono ?_
          rintro e w' ⟨N, rfl, _, _, hbl⟩
          refine ⟨_, rfl, hbl, fun U' _ => ?_⟩
          simp only [RelD, RelT]
          exact ⟨[_, _], rfl, _, _, rfl, rfl, _, _, rfl, ⟨_, rfl, _, rfl⟩, rfl⟩
        · simp only [Option.some.injEq] at h
          subst h
          refine (Any.strconv_Atoi_range_var Tryz.laysC172 ⟨s.toArray⟩ (by omega) (by simpa using ha) t2 q2 M.w e2).mono ?_
          rintro e w' ⟨N, rfl, _, _, hbl⟩
          refine ⟨_, rfl, hbl, fun U' _ => ?_⟩
          simp only [RelD, RelT]
          exact ⟨[_, _], rfl, _, _, rfl, rfl, _, _, rfl, ⟨_, rfl, _, rfl⟩, rfl⟩
    · cases h

end Go.Proofs.YtllpobcecingiaaGreatDoor
