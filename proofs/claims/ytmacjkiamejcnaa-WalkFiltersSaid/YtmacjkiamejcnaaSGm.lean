/-
  slices.BinarySearch of strings (walked; printed by wip/gen/rm.py).
  (*tree.node).kid: its closure, sort.Search (walked).
  (*tree.node).kid (walked); contracts of kid and of slices.BinarySearch.
  Contracts of (*tree.node).kid and of slices.BinarySearch.
-/
import Derived.Test.YtmacjkiamejcnaaSl
import Derived.Shelf.Spec.SearchS
import Derived.Deep.LoopGhost
import Derived.Deep.Draws
import Derived.LoopTactic
import Derived.Deep.QuietTactic
import Derived.Shelf.RegionOpenPlain
set_option linter.unusedVariables false
set_option linter.unusedSimpArgs false
set_option maxRecDepth 1000000
namespace Go.Proofs.Ytmacjkiamejcnaa
open Go.RowKit Go.Lib
set_option maxHeartbeats 1000000 in
theorem cmp_isNaN_s (x : ByteArray) (w : World) : Calls Try.prog 112 #[.string x] w fun e w' => e = .returned (.bool false) ∧ w' = w := by
  go_enter Try.func112, Try.ntmps112
  go_wp2
  go_ret
  exact ⟨by simp, rfl⟩
set_option maxHeartbeats 1000000 in
theorem sl_isNaN_s (x : ByteArray) (w : World) : Calls Try.prog 105 #[.string x] w fun e w' => e = .returned (.bool false) ∧ w' = w := by
  go_enter Try.func105, Try.ntmps105
  go_wp2
  go_ret
  exact ⟨by simp, rfl⟩
set_option maxHeartbeats 1000000 in
theorem cmp_Less_s (x y : ByteArray) (w : World) : Calls Try.prog 104 #[.string x, .string y] w fun e w' => e = .returned (.bool (Op.bytesLess x.toList y.toList)) ∧ w' = w := by
  go_enter Try.func104, Try.ntmps104
  go_wp2_with (go_at_call 112; refine (cmp_isNaN_s _ _).mono ?_; rintro e w' ⟨rfl, rfl⟩)
  go_ret
  exact ⟨rfl, rfl⟩
set_option maxHeartbeats 4000000 in
set_option maxRecDepth 1000000 in
theorem bsearch_s (b off n c : Nat) (Sx : Nat → ByteArray) (x : ByteArray) (w : World) (hbig : n < 4611686018427387904) (hc : ∀ j, j < n → w.cell? ⟨b, off + j, none⟩ = some (.string (Sx j))) :
    Calls Try.prog 91 #[.slice (some ⟨b, off, none⟩) n c, .string x] w fun e w' =>
      e = .returned (.tuple #[.int .i64 (Lib.bsGo (fun t => Op.bytesLess (Sx t).toList x.toList) n 0 n : Nat), .bool (decide (Lib.bsGo (fun t => Op.bytesLess (Sx t).toList x.toList) n 0 n < n ∧ Sx (Lib.bsGo (fun t => Op.bytesLess (Sx t).toList x.toList) n 0 n) = x))]) ∧ ∃ q, w' = w.drewN q := by
  have mixed := Go.Proofs.Ytmacjkiamejcnaa.mixed
  obtain ⟨I, hI⟩ : ∃ I, Lib.bsGo (fun t => Op.bytesLess (Sx t).toList x.toList) n 0 n = I := ⟨_, rfl⟩
  rw [hI]
  go_enter Try.func91, Try.ntmps91
  go_wp2
  go_loopg [7, 8] n (fun g s7 s8 wr => ∃ lo hi q : Nat, s7 = .int .i64 lo ∧ s8 = .int .i64 hi ∧ lo ≤ hi ∧ hi ≤ n ∧ hi - lo ≤ g ∧ wr = w.drewN q ∧ Lib.bsGo (fun t => Op.bytesLess (Sx t).toList x.toList) g lo hi = I)
  case atStart => exact ⟨0, n, 0, rfl, rfl, Nat.zero_le _, Nat.le_refl _, by omega, rfl, hI⟩
  case round =>
    obtain ⟨lo, hi, q, rfl, rfl, hlh, hin, hg, rfl, hb⟩ := hrel
    by_cases hlt : lo < hi
    · have cm : w.cell? ⟨b, off + (lo + hi) / 2, none⟩ = some (.string (Sx ((lo + hi) / 2))) := hc _ (by omega)
      clear hc
      obtain ⟨g', rfl⟩ : ∃ g', gk = g' + 1 := ⟨gk - 1, by omega⟩
      simp only [Lib.bsGo, hlt, if_true] at hb
      obtain ⟨y, hy⟩ : ∃ y, Sx ((lo + hi) / 2) = y := ⟨_, rfl⟩
      rw [hy] at cm
      simp only [hy] at hb
      cases hyx : Op.bytesLess y.toList x.toList <;> simp only [hyx, if_true, Bool.false_eq_true, if_false] at hb
      · go_wp2_with (first | (go_at_call 104; refine (cmp_Less_s _ _ _).mono ?_; rintro e w' ⟨rfl, rfl⟩) | (go_at_call 105; refine (sl_isNaN_s _ _).mono ?_; rintro e w' ⟨rfl, rfl⟩))
        go_roundg ((lo + hi) / 2 - lo)
        case measure => omega
        case rel => exact ⟨lo, (lo + hi) / 2, _, rfl, by rw [show ((lo : Int) + (hi : Int)) / 2 = (((lo + hi) / 2 : Nat) : Int) by omega], by omega, by omega, Nat.le_refl _, rfl, by rw [← hb]; exact Lib.bsGo_fuel _ _ _ _ _ (Nat.le_refl _) (by omega)⟩
      · go_wp2_with (first | (go_at_call 104; refine (cmp_Less_s _ _ _).mono ?_; rintro e w' ⟨rfl, rfl⟩) | (go_at_call 105; refine (sl_isNaN_s _ _).mono ?_; rintro e w' ⟨rfl, rfl⟩))
        go_roundg (hi - ((lo + hi) / 2 + 1))
        case measure => omega
        case rel => exact ⟨(lo + hi) / 2 + 1, hi, _, by rw [show ((lo : Int) + (hi : Int)) / 2 + 1 = (((lo + hi) / 2 + 1 : Nat) : Int) by omega], rfl, by omega, hin, Nat.le_refl _, rfl, by rw [← hb]; exact Lib.bsGo_fuel _ _ _ _ _ (Nat.le_refl _) (by omega)⟩
    · have : hi = lo := by omega
      subst this
      have hIe : I = hi := by
        rw [← hb]
        cases gk <;> simp [Lib.bsGo]
      by_cases hn : hi < n
      · have cl : w.cell? ⟨b, off + hi, none⟩ = some (.string (Sx hi)) := hc _ hn
        clear hc hb hI
        obtain ⟨y, hy⟩ : ∃ y, Sx hi = y := ⟨_, rfl⟩
        rw [hy] at cl
        by_cases hyx : y = x
        · go_wp2_with (first | (go_at_call 104; refine (cmp_Less_s _ _ _).mono ?_; rintro e w' ⟨rfl, rfl⟩) | (go_at_call 105; refine (sl_isNaN_s _ _).mono ?_; rintro e w' ⟨rfl, rfl⟩))
          go_ret2
          refine ⟨?_, _, rfl⟩
          try rw [hIe]
          rw [hy, decide_eq_true (show hi < n ∧ y = x from ⟨hn, hyx⟩)]
          first | rfl | simp [*]
        · have hne : (y.toList == x.toList) = false := by
            rw [beq_eq_false_iff_ne]
            intro h
            apply hyx
            rw [Lib.toList_data, Lib.toList_data] at h
            cases y with
            | mk yd => cases x with
              | mk xd => exact congrArg ByteArray.mk (Array.toList_inj.1 h)
          go_wp2_with (first | (go_at_call 104; refine (cmp_Less_s _ _ _).mono ?_; rintro e w' ⟨rfl, rfl⟩) | (go_at_call 105; refine (sl_isNaN_s _ _).mono ?_; rintro e w' ⟨rfl, rfl⟩))
          all_goals
            (go_ret2
             refine ⟨?_, _, rfl⟩
             try rw [hIe]
             rw [hy, decide_eq_false (show ¬ (hi < n ∧ y = x) from fun h => hyx h.2)]
             first | rfl | simp [*])
      · clear hc hb hI
        go_wp2_with (first | (go_at_call 104; refine (cmp_Less_s _ _ _).mono ?_; rintro e w' ⟨rfl, rfl⟩) | (go_at_call 105; refine (sl_isNaN_s _ _).mono ?_; rintro e w' ⟨rfl, rfl⟩))
        go_ret2
        refine ⟨?_, _, rfl⟩
        try rw [hIe]
        rw [decide_eq_false (show ¬ (hi < n ∧ Sx hi = x) from fun h => hn h.1)]
        first | rfl | simp [*]

end Go.Proofs.Ytmacjkiamejcnaa
set_option linter.unusedVariables false
set_option linter.unusedSimpArgs false
set_option maxRecDepth 1000000
namespace Go.Proofs.Ytmacjkiamejcnaa
open Go.RowKit Go.Lib
@[go_sem] theorem binOp_string_gtr_my (t : TypeId) (a b : ByteArray) : binOp .gtr t (.string a) (.string b) = pure (.bool !(Op.bytesLess a.toList b.toList || a.toList == b.toList)) := by simp [binOp, Op.stringOp]
set_option maxHeartbeats 2000000 in
theorem kid1_c (B C nb no blk off n c i : Nat) (x y : ByteArray) (W : World) (hi : i < n)
    (h1 : W.cell? ⟨B, 0, none⟩ = some (.pointer (some ⟨nb, no, none⟩))) (h2 : W.cell? ⟨nb, no, none⟩ = some (.slice (some ⟨blk, off, none⟩) n c)) (h3 : W.cell? ⟨C, 0, none⟩ = some (.string x)) (h4 : W.cell? ⟨blk, off + i, none⟩ = some (.string y)) :
    Calls Try.prog 93 #[.int .i64 i, .pointer (some ⟨B, 0, none⟩), .pointer (some ⟨C, 0, none⟩)] W fun e w' => e = .returned (.bool (!(Op.bytesLess y.toList x.toList || y.toList == x.toList))) ∧ ∃ q, w' = W.drewN q := by
  have mixed := Go.Proofs.Ytmacjkiamejcnaa.mixed
  have hiz : (i : Int) < (n : Int) := by omega
  go_enter Try.func93, Try.ntmps93
  go_wp2
  go_region_o
  all_goals go_wp2
  all_goals go_ret
  all_goals exact ⟨by first | rfl | simp, 1, rfl⟩
set_option maxHeartbeats 4000000 in
theorem search_c (B C n : Nat) (p : Nat → Bool) (w : World) (hsz : n < 4611686018427387904)
    (hf : ∀ (m i : Nat), i < n → Calls Try.prog 93 #[.int .i64 i, .pointer (some ⟨B, 0, none⟩), .pointer (some ⟨C, 0, none⟩)] (w.drewN m) fun e w' => e = .returned (.bool (!p i)) ∧ ∃ q, w' = (w.drewN m).drewN q) :
    Calls Try.prog 92 #[.int .i64 n, .func (.func 93) #[] #[.pointer (some ⟨B, 0, none⟩), .pointer (some ⟨C, 0, none⟩)]] w fun e w' => e = .returned (.int .i64 (Lib.bsGo p n 0 n : Nat)) ∧ ∃ q, w' = w.drewN q := by
  have mixed := Go.Proofs.Ytmacjkiamejcnaa.mixed
  have HF : Aside _ := hf
  clear hf
  obtain ⟨I, hI⟩ : ∃ I, Lib.bsGo p n 0 n = I := ⟨_, rfl⟩
  rw [hI]
  go_enter Try.func92, Try.ntmps92
  go_wp2
  go_loopg [5, 6] n (fun g s5 s6 wr => ∃ lo hi q : Nat, s5 = .int .i64 lo ∧ s6 = .int .i64 hi ∧ lo ≤ hi ∧ hi ≤ n ∧ hi - lo ≤ g ∧ wr = w.drewN q ∧ Lib.bsGo p g lo hi = I)
  case atStart => exact ⟨0, n, 0, rfl, rfl, Nat.zero_le _, Nat.le_refl _, by omega, rfl, hI⟩
  case round =>
    obtain ⟨lo, hi, q, rfl, rfl, hlh, hin, hg, rfl, hb⟩ := hrel
    by_cases hlt : lo < hi
    · have hc := HF.out q ((lo + hi) / 2) (by omega)
      rw [show (((lo + hi) / 2 : Nat) : Int) = ((lo : Int) + (hi : Int)) / 2 by omega] at hc
      obtain ⟨g', rfl⟩ : ∃ g', gk = g' + 1 := ⟨gk - 1, by omega⟩
      simp only [Lib.bsGo, hlt, if_true] at hb
      cases hp : p ((lo + hi) / 2) <;> rw [hp] at hc <;> simp only [hp, if_true, Bool.false_eq_true, if_false] at hb
      · clear hp
        go_wp2_with (go_at_call 93; refine hc.mono ?_; rintro e w' ⟨rfl, nq, rfl⟩)
        go_roundg ((lo + hi) / 2 - lo)
        case measure => omega
        case rel => exact ⟨lo, (lo + hi) / 2, q + nq, rfl, by rw [show ((lo : Int) + (hi : Int)) / 2 = (((lo + hi) / 2 : Nat) : Int) by omega], by omega, by omega, Nat.le_refl _, rfl, by rw [← hb]; exact Lib.bsGo_fuel _ _ _ _ _ (Nat.le_refl _) (by omega)⟩
      · clear hp
        go_wp2_with (go_at_call 93; refine hc.mono ?_; rintro e w' ⟨rfl, nq, rfl⟩)
        go_roundg (hi - ((lo + hi) / 2 + 1))
        case measure => omega
        case rel => exact ⟨(lo + hi) / 2 + 1, hi, q + nq, by rw [show ((lo : Int) + (hi : Int)) / 2 + 1 = (((lo + hi) / 2 + 1 : Nat) : Int) by omega], rfl, by omega, hin, Nat.le_refl _, rfl, by rw [← hb]; exact Lib.bsGo_fuel _ _ _ _ _ (Nat.le_refl _) (by omega)⟩
    · obtain rfl : hi = lo := by omega
      have hIe : I = hi := by
        rw [← hb]
        cases gk <;> simp [Lib.bsGo]
      subst hIe
      go_wp2
      go_ret
      exact ⟨rfl, q, rfl⟩
end Go.Proofs.Ytmacjkiamejcnaa
set_option linter.unusedVariables false
set_option linter.unusedSimpArgs false
set_option maxRecDepth 1000000
namespace Go.Proofs.Ytmacjkiamejcnaa
open Go.RowKit Go.Lib
theorem bsGo_le (p : Nat → Bool) : ∀ (f lo hi : Nat), lo ≤ hi → Lib.bsGo p f lo hi ≤ hi
  | 0, lo, hi, h => h
  | f + 1, lo, hi, h => by
    simp only [Lib.bsGo]
    split
    · split
      · exact bsGo_le p f _ _ (by omega)
      · exact Nat.le_trans (bsGo_le p f _ _ (by omega)) (by omega)
    · exact h
set_option maxHeartbeats 4000000 in
theorem kid_c (nb no blk off n c : Nat) (Sx : Nat → ByteArray) (x : ByteArray) (w : World) (hsz : n < 4611686018427387904)
    (h2 : w.cell? ⟨nb, no, none⟩ = some (.slice (some ⟨blk, off, none⟩) n c)) (h4 : ∀ i, i < n → w.cell? ⟨blk, off + i, none⟩ = some (.string (Sx i))) (I : Nat) (hI : Lib.bsGo (fun t => Op.bytesLess (Sx t).toList x.toList || (Sx t).toList == x.toList) n 0 n = I) :
    Calls Try.prog 74 #[.pointer (some ⟨nb, no, none⟩), .string x] w fun e w' => e = .returned (.int .i64 ((I - 1 : Nat) : Int)) ∧ ∃ q, w' = ((w.alloc (.cells #[.pointer (some ⟨nb, no, none⟩)] 93)).alloc (.cells #[.string x] 9)).drewN q := by
  have mixed := Go.Proofs.Ytmacjkiamejcnaa.mixed
  obtain ⟨W1, hW1⟩ : ∃ W1, W1 = w.alloc (.cells #[.pointer (some ⟨nb, no, none⟩)] 93) := ⟨_, rfl⟩
  obtain ⟨W2, hW2⟩ : ∃ W2, W2 = W1.alloc (.cells #[.string x] 9) := ⟨_, rfl⟩
  have z1 : W1.heap.size = w.heap.size + 1 := by rw [hW1]; show (w.heap.push _).size = _; rw [Array.size_push]
  have keep : ∀ a v, w.cell? a = some v → W2.cell? a = some v := fun a v h => by rw [hW2, hW1]; exact Lib.cell?_alloc_some _ (Lib.cell?_alloc_some _ h)
  have k1 : W2.cell? ⟨w.heap.size, 0, none⟩ = some (.pointer (some ⟨nb, no, none⟩)) := by
    rw [hW2]
    refine Lib.cell?_alloc_some _ ?_
    rw [hW1, World.cell?_alloc_at _ _ _ _ rfl]; rfl
  have k2 : W2.cell? ⟨w.heap.size + 1, 0, none⟩ = some (.string x) := by
    rw [hW2, World.cell?_alloc_at _ _ _ _ z1.symm]; rfl
  have hk : ∀ (m i : Nat), i < n → Calls Try.prog 93 #[.int .i64 i, .pointer (some ⟨w.heap.size, 0, none⟩), .pointer (some ⟨w.heap.size + 1, 0, none⟩)] (W2.drewN m) fun e w' => e = .returned (.bool (!(fun t => Op.bytesLess (Sx t).toList x.toList || (Sx t).toList == x.toList) i)) ∧ ∃ q, w' = (W2.drewN m).drewN q := fun m i hi =>
    kid1_c _ _ nb no blk off n c i x (Sx i) (W2.drewN m) hi k1 (keep _ _ h2) k2 (keep _ _ (h4 i hi))
  have hs := search_c w.heap.size (w.heap.size + 1) n _ W2 hsz hk
  rw [hI] at hs
  have hIn : I ≤ n := by rw [← hI]; exact bsGo_le _ _ _ _ (Nat.zero_le _)
  have c2 := keep _ _ h2
  have f1 : IntKind.i64.wrap ((I : Int) - 1) = (I : Int) - 1 := by rw [IntKind.wrap_i64]; omega
  have f2 : max ((I : Int) - 1) 0 = ((I - 1 : Nat) : Int) := by omega
  clear hk keep hI h4
  subst hW2
  subst hW1
  go_enter Try.func74, Try.ntmps74
  go_wp2_with (go_at_call 92; refine hs.mono ?_; rintro e w' ⟨rfl, nq, rfl⟩)
  all_goals go_ret
  all_goals exact ⟨by simp [f2], _, rfl⟩
end Go.Proofs.Ytmacjkiamejcnaa
set_option linter.unusedVariables false
set_option linter.unusedSimpArgs false
set_option maxRecDepth 1000000
namespace Go.Proofs.Ytmacjkiamejcnaa
open Go.RowKit Go.Lib
def strOf : PV → List UInt8
  | .str s => s
  | _ => []
def isStr : PV → Bool
  | .str _ => true
  | _ => false
def strAt (keys : List PV) (t : Nat) : List UInt8 := strOf (keys.getD t .undef)
/-- the place of a key: how many the halving leaves ahead of it -/
def placeI (keys : List PV) (x : List UInt8) : Nat := Lib.bsGo (fun t => Op.bytesLess (strAt keys t) x) keys.length 0 keys.length
/-- the kid's number, plus one -/
def kidI (keys : List PV) (x : List UInt8) : Nat := Lib.bsGo (fun t => Op.bytesLess (strAt keys t) x || strAt keys t == x) keys.length 0 keys.length
theorem str_cells {M : Mem} {keys : List PV} {cs : List Value} (hr : RelL M keys cs) (hs : keys.all isStr = true) {t : Nat} (ht : t < keys.length) : cs[t]? = some (.string ⟨(strAt keys t).toArray⟩) := by
  obtain ⟨u, h1, _, h3⟩ := hr.get (List.getElem?_eq_getElem ht)
  rw [h1]
  have := List.all_eq_true.1 hs _ (List.getElem_mem ht)
  unfold strAt
  rw [List.getD_eq_getElem?_getD, List.getElem?_eq_getElem ht, Option.getD_some]
  revert h3 this
  cases keys[t] <;> intro h3 h4 <;> simp only [isStr, RelD, strOf, Bool.false_eq_true] at h3 h4 ⊢
  rw [h3]
theorem tl_mk (s : List UInt8) : (ByteArray.mk s.toArray).toList = s := by rw [Lib.toList_data]
theorem below_drewN (w : World) (q B : Nat) : Below B w (w.drewN q) := ⟨rfl, rfl, rfl, Nat.le_refl _, fun _ _ => rfl⟩
def p_bs : PFn := ⟨fun xs k => match xs with | [.sl _ 1 n keys, .str x] => bif keys.all isStr && (decide (keys.length = n) && (decide (0 < n) && decide (n ≤ 1000000))) then k (.tuple [.int .i64 (placeI keys x : Nat), .bool (decide (placeI keys x < n) && strAt keys (placeI keys x) == x)]) else none | _ => none, false⟩
theorem ok_bs {NG : Nat} {W : World → Prop} : FOK NG W 91 p_bs := by
  refine fok_calls Try.func91 (by kernel_rfl) (by decide) ?_ rfl ?_
  · intro R xs k
    simp only [p_bs]
    split
    · rename_i n keys x
      rcases (keys.all isStr && (decide (keys.length = n) && (decide (0 < n) && decide (n ≤ 1000000)))) with _ | _ <;> rfl
    · rfl
  · intro xs r M vs hW h hr
    simp only [p_bs] at h
    split at h
    · rename_i nl n keys x
      rcases hb : (keys.all isStr && (decide (keys.length = n) && (decide (0 < n) && decide (n ≤ 1000000)))) with _ | _ <;> rw [hb] at h
      · cases h
      simp only [cond_true, Option.some.injEq] at h
      subst h
      simp only [Bool.and_eq_true, decide_eq_true_eq] at hb
      obtain ⟨b1, rfl, b3, b4⟩ := hb
      obtain ⟨v, u, rfl, g1, g2⟩ := relT2 hr
      simp only [RelD] at g1 g2
      subst g2
      obtain ⟨A, c, cs, rfl, j1, j2, j3, j4, j5, j6, j7⟩ := g1
      have hl := j6.length
      obtain rfl | ⟨b, o, rfl, hat⟩ := j7
      · simp only [List.length_nil] at hl; omega
      have key := bsearch_s b o keys.length c (fun t => ⟨(strAt keys t).toArray⟩) ⟨x.toArray⟩ M.w (by omega) (fun j hj => (hat j _ (str_cells j6 b1 hj)).1)
      simp only [tl_mk] at key
      refine key.mono ?_
      rintro e w' ⟨rfl, q, rfl⟩
      refine ⟨_, rfl, below_drewN _ _ _, fun U' hm => ?_⟩
      simp only [RelD, RelT]
      refine ⟨[_, _], rfl, _, _, rfl, rfl, _, _, rfl, ?_, rfl⟩
      show Value.bool _ = Value.bool _
      congr 1
      show decide (placeI keys x < keys.length ∧ (⟨(strAt keys (placeI keys x)).toArray⟩ : ByteArray) = ⟨x.toArray⟩) = _
      rw [Bool.eq_iff_iff]
      simp
    · cases h
def p_kid : PFn := ⟨fun xs k => match xs with | [.eptr (.sl _ 1 n keys :: _), .str x] => bif keys.all isStr && (decide (keys.length = n) && (decide (0 < n) && decide (n ≤ 1000000))) then k (.int .i64 ((kidI keys x - 1 : Nat) : Int)) else none | _ => none, false⟩
theorem ok_kid {NG : Nat} {W : World → Prop} : FOK NG W 74 p_kid := by
  refine fok_calls Try.func74 (by kernel_rfl) (by decide) ?_ rfl ?_
  · intro R xs k
    simp only [p_kid]
    split
    · rename_i n keys _ x
      rcases (keys.all isStr && (decide (keys.length = n) && (decide (0 < n) && decide (n ≤ 1000000)))) with _ | _ <;> rfl
    · rfl
  · intro xs r M vs hW h hr
    simp only [p_kid] at h
    split at h
    · rename_i nl n keys rest x
      rcases hb : (keys.all isStr && (decide (keys.length = n) && (decide (0 < n) && decide (n ≤ 1000000)))) with _ | _ <;> rw [hb] at h
      · cases h
      simp only [cond_true, Option.some.injEq] at h
      subst h
      simp only [Bool.and_eq_true, decide_eq_true_eq] at hb
      obtain ⟨b1, rfl, b3, b4⟩ := hb
      obtain ⟨v, u, rfl, g1, g2⟩ := relT2 hr
      simp only [RelD] at g1 g2
      subst g2
      obtain ⟨nb, no, ws, rfl, g3, hnode⟩ := g1
      simp only [RelL, RelD] at g3
      obtain ⟨u0, us, rfl, _, ⟨A, c, cs, rfl, j1, j2, j3, j4, j5, j6, j7⟩, _⟩ := g3
      have hl := j6.length
      obtain rfl | ⟨b, o, rfl, hat⟩ := j7
      · simp only [List.length_nil] at hl; omega
      have h0 := (hnode 0 _ rfl).1
      have key := kid_c nb no b o keys.length c (fun t => ⟨(strAt keys t).toArray⟩) ⟨x.toArray⟩ M.w (by omega) h0 (fun j hj => (hat j _ (str_cells j6 b1 hj)).1) (kidI keys x) (by simp only [tl_mk]; rfl)
      refine key.mono ?_
      rintro e w' ⟨rfl, q, rfl⟩
      refine ⟨_, rfl, ((((Below.refl _ M.w).alloc (Nat.le_refl _) _).alloc (by show _ ≤ (M.w.heap.push _).size; rw [Array.size_push]; omega) _).trans (below_drewN _ _ _)), fun U' hm => ?_⟩
      simp only [RelD]
    · cases h
end Go.Proofs.Ytmacjkiamejcnaa
