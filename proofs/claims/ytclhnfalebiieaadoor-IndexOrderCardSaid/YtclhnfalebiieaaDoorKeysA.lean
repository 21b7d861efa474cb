/-
  Layer 5: a number in eight bytes, a text with its end, one value, many: each appends the specified bytes to the row that it is given.
-/
import Derived.Test.YtclhnfalebiieaaDoorPlain
import Derived.Deep.RegionHeld3
import Derived.BigQuiet
import Derived.Deep.RegionWith
set_option linter.unusedVariables false
set_option linter.unusedSimpArgs false
namespace Go.Proofs.YtclhnfalebiieaaDoor
open Go.RowKit

/-! ## plain -/
theorem xor_top (k N : Nat) (h : N < 2 ^ (k + 1)) : N ^^^ 2 ^ k = (N + 2 ^ k) % 2 ^ (k + 1) := by
  apply Nat.eq_of_testBit_eq
  intro j
  rw [Nat.testBit_xor, Nat.testBit_mod_two_pow, Nat.testBit_two_pow, Nat.add_comm N (2 ^ k)]
  rcases Nat.lt_trichotomy j k with hj | hj | hj
  · rw [Nat.testBit_two_pow_add_gt hj]
    have : ¬ k = j := by omega
    have h2 : j < k + 1 := by omega
    simp [this, h2]
  · subst hj
    rw [Nat.testBit_two_pow_add_eq]
    simp
  · have h1 : N.testBit j = false := Nat.testBit_lt_two_pow (Nat.lt_of_lt_of_le h (Nat.pow_le_pow_right (by omega) (by omega)))
    have h2 : ¬ j < k + 1 := by omega
    have : ¬ k = j := by omega
    simp [h1, h2, this]
def flipN (n : Int) : Nat := ((n + 9223372036854775808) % 18446744073709551616).toNat
theorem flipN_lt (n : Int) : flipN n < 18446744073709551616 := by unfold flipN; omega
theorem wrapu_nat (n : Int) : IntKind.u64.wrap n = ((n % 18446744073709551616).toNat : Int) := by rw [IntKind.wrap_u64]; omega
theorem xor_u64_top (n : Int) : bits BinOp.xor IntKind.u64 (IntKind.u64.wrap n) 9223372036854775808 = (flipN n : Int) := by
  rw [wrapu_nat]
  obtain ⟨N, hN⟩ : ∃ N, (n % 18446744073709551616).toNat = N := ⟨_, rfl⟩
  have hlt : N < 18446744073709551616 := by omega
  rw [hN]
  have h1 : (BitVec.ofInt 64 (9223372036854775808 : Int)).toNat = 2 ^ 63 := by decide
  have h2 : (BitVec.ofInt 64 (N : Int)).toNat = N := by rw [BitVec.ofInt_natCast, BitVec.toNat_ofNat]; exact Nat.mod_eq_of_lt (by omega)
  have e : bits BinOp.xor IntKind.u64 (N : Int) 9223372036854775808 = IntKind.u64.wrap ((BitVec.ofInt 64 (N : Int) ^^^ BitVec.ofInt 64 9223372036854775808).toNat : Int) := rfl
  rw [e, BitVec.toNat_xor, h1, h2, xor_top 63 N (by omega), IntKind.wrap_u64]
  unfold flipN
  omega
theorem xor_u8_top (t : Nat) (h : t < 256) : bits BinOp.xor IntKind.u8 (t : Int) 128 = ((t + 128) % 256 : Nat) := by
  have h1 : (BitVec.ofInt 8 (128 : Int)).toNat = 2 ^ 7 := by decide
  have h2 : (BitVec.ofInt 8 (t : Int)).toNat = t := by rw [BitVec.ofInt_natCast, BitVec.toNat_ofNat]; exact Nat.mod_eq_of_lt (by omega)
  have e : bits BinOp.xor IntKind.u8 (t : Int) 128 = IntKind.u8.wrap ((BitVec.ofInt 8 (t : Int) ^^^ BitVec.ofInt 8 128).toNat : Int) := rfl
  rw [e, BitVec.toNat_xor, h1, h2, xor_top 7 t (by omega), IntKind.wrap_u8]
  omega

theorem byte_of (U j : Nat) : (U : Int) / 2 ^ j % 256 = ((UInt8.ofNat (U / 2 ^ j % 256)).toNat : Int) := by
  rw [UInt8.toNat_ofNat']
  have e : ((U / 2 ^ j % 256 : Nat) : Int) = (U : Int) / 2 ^ j % 256 := by
    rw [Int.natCast_emod, Int.natCast_ediv, Int.natCast_pow]; rfl
  rw [← e]
  omega
/-- the first k of the eight bytes of a number of 64 bits, the greatest first -/
def beTo (u : Nat) (k : Nat) : List UInt8 := (List.range k).map fun j => UInt8.ofNat (u / 2 ^ (56 - 8 * j) % 256)
def be8 (n : Int) : List UInt8 := beTo (flipN n) 8
theorem beTo_succ (u k : Nat) : beTo u (k + 1) = beTo u k ++ [UInt8.ofNat (u / 2 ^ (56 - 8 * k) % 256)] := by simp [beTo, List.range_succ]
theorem beTo_length (u k : Nat) : (beTo u k).length = k := by simp [beTo]
/-- a text with its end -/
def escTo : List UInt8 → List UInt8
  | [] => []
  | c :: l => (if c = 0 then [0, 255] else [c]) ++ escTo l
theorem escTo_append (a b : List UInt8) : escTo (a ++ b) = escTo a ++ escTo b := by
  induction a with
  | nil => rfl
  | cons c a ih => simp [escTo, ih]
theorem escTo_length (l : List UInt8) : (escTo l).length ≤ 2 * l.length := by
  induction l with
  | nil => simp [escTo]
  | cons c l ih => rw [escTo, List.length_append, List.length_cons]; split <;> simp <;> omega
def enc0 (v : Val) : List UInt8 :=
  UInt8.ofNat v.kind.toNat :: (if v.kind = 1 then [UInt8.ofNat v.n.toNat] else if v.kind = 2 then be8 v.n else if v.kind = 3 then UInt8.ofNat v.scale.toNat :: be8 v.n
    else if v.kind = 4 ∨ v.kind = 5 then escTo v.s ++ [0, 1] else [])
def enc (v : Val) : List UInt8 := enc0 (plain v)
def encs (l : List Val) : List UInt8 := l.flatMap enc

theorem Sl.new1 (w : World) (t : TypeId) (i : Int) (c : UInt8) (h : i = (c.toNat : Int)) : Sl (w.alloc (.cells #[.int .u8 i] t)) 1 (some ⟨w.heap.size, 0, none⟩) 1 1 (bvs [c]) := by
  subst h
  exact Sl.fresh #[.int .u8 (c.toNat : Int)] t (0, 0) 1 1 1 rfl (Nat.le_refl _) (by simp [maxLen])
theorem Sl.new2 (w : World) (t : TypeId) (i j : Int) (c d : UInt8) (h : i = (c.toNat : Int)) (h' : j = (d.toNat : Int)) : Sl (w.alloc (.cells #[.int .u8 i, .int .u8 j] t)) 1 (some ⟨w.heap.size, 0, none⟩) 2 2 (bvs [c, d]) := by
  subst h; subst h'
  exact Sl.fresh #[.int .u8 (c.toNat : Int), .int .u8 (d.toNat : Int)] t (0, 0) 1 2 2 rfl (Nat.le_refl _) (by simp [maxLen])
theorem u8_info : (Tryd.prog.info? 5).map (fun i => (i.zero, i.size, i.bytes)) = some (some (.int .u8 0), 1, 1) := by kernel_rfl
theorem val_info : (Tryd.prog.info? 29).map (fun i => (i.zero, i.size, i.bytes)) = some (some (.agg #[.int .i64 0, .int .i64 0, .int .i64 0, .string ⟨#[]⟩]), 4, 40) := by kernel_rfl

/-- bytes, values that the call owns from block B on -/
def OwnB (w : World) (B : Nat) (v : Value) (l : List UInt8) : Prop := w.ownsRow B 5 1 v l.length (bvs l)
def OwnV (w : World) (B : Nat) (v : Value) (l : List Val) : Prop := w.ownsRow B 29 4 v l.length (vcs l)
theorem OwnB.nil (w : World) (B : Nat) : OwnB w B (.slice none 0 0) [] := World.ownsRow_nil _ _ _ _
theorem OwnV.nil (w : World) (B : Nat) : OwnV w B (.slice none 0 0) [] := World.ownsRow_nil _ _ _ _
theorem OwnB.alloc {w : World} {B : Nat} {v : Value} {l : List UInt8} (h : OwnB w B v l) (o : Obj) : OwnB (w.alloc o) B v l := World.ownsRow.alloc h o
theorem OwnV.alloc {w : World} {B : Nat} {v : Value} {l : List Val} (h : OwnV w B v l) (o : Obj) : OwnV (w.alloc o) B v l := World.ownsRow.alloc h o
theorem OwnB.below {w w' : World} {B : Nat} {v : Value} {l : List UInt8} (h : OwnB w B v l) {C : Nat} (hb : Below C w w') (hC : w.heap.size ≤ C) : OwnB w' B v l := own_below h hb hC
theorem OwnV.below {w w' : World} {B : Nat} {v : Value} {l : List Val} (h : OwnV w B v l) {C : Nat} (hb : Below C w w') (hC : w.heap.size ≤ C) : OwnV w' B v l := own_below h hb hC
theorem OwnB.form {w : World} {B : Nat} {v : Value} {l : List UInt8} (h : OwnB w B v l) : ∃ A c, v = .slice A l.length c ∧ Sl w 1 A l.length c (bvs l) := by
  obtain ⟨A, c, hv, hs, _⟩ := own_form h
  exact ⟨A, c, hv, hs⟩
theorem OwnV.form {w : World} {B : Nat} {v : Value} {l : List Val} (h : OwnV w B v l) : ∃ A c, v = .slice A l.length c ∧ Sl w 4 A l.length c (vcs l) := by
  obtain ⟨A, c, hv, hs, _⟩ := own_form h
  exact ⟨A, c, hv, hs⟩
theorem Ext.alloc {w : World} {v : Value} {w' : World} {v' : Value} (h : Ext w v w' v') (o : Obj) : Ext w v (w'.alloc o) v' := h.after ((Below.refl _ _).alloc (Nat.le_refl _) _)

theorem app_bytes {w : World} {ops : Array Oper} {rest : List Oper} {o : Oper} {a : Act} {Q : Exit → Act → World → Prop} (hgd : o.guard = none) (s x : Operand)
    (ho : o.op = .call { callee := .builtin .append, args := #[s, x], argTypes := #[25, 25] })
    {B : Nat} {v : Value} {l l' : List UInt8} (hs : a.eval s = v) (hown : OwnB w B v l) {A : Option Addr} {m c : Nat} (hx : a.eval x = .slice A m c) (hr : Sl w 1 A m c (bvs l'))
    (hlen : l.length + l'.length ≤ 1000000000000) (hbase : B ≤ w.heap.size)
    (h : ∀ v' w', OwnB w' B v' (l ++ l') → Ext w v w' v' → wpList Tryd.prog ops Q rest (a.put o.dst v') w') :
    wpList Tryd.prog ops Q (o :: rest) a w := by
  have hm := hr.blen
  refine wpList_append_sl hgd s x _ ho B 5 _ 1 1 Tryd.underlying25 u8_info rfl (by omega) hs hown hx hr (bvs_one _) (by simp only [maxLen]; omega) (by omega) hbase fun v' w' h1 h2 h3 => h v' w' ?_ (Ext.appended (Below.refl _ _) h2 h3)
  unfold OwnB
  rw [bvs_append, List.length_append, hm]
  exact h1
theorem app_vals {w : World} {ops : Array Oper} {rest : List Oper} {o : Oper} {a : Act} {Q : Exit → Act → World → Prop} (hgd : o.guard = none) (s x : Operand)
    (ho : o.op = .call { callee := .builtin .append, args := #[s, x], argTypes := #[22, 22] })
    {B : Nat} {v : Value} {l l' : List Val} (hs : a.eval s = v) (hown : OwnV w B v l) {A : Option Addr} {m c : Nat} (hx : a.eval x = .slice A m c) (hr : Sl w 4 A m c (vcs l'))
    (hlen : l.length + l'.length ≤ 1000000000000) (hbase : B ≤ w.heap.size)
    (h : ∀ v' w', OwnV w' B v' (l ++ l') → Ext w v w' v' → wpList Tryd.prog ops Q rest (a.put o.dst v') w') :
    wpList Tryd.prog ops Q (o :: rest) a w := by
  have hm := hr.vlen
  refine wpList_append_sl hgd s x _ ho B 29 _ 4 40 Tryd.underlying22 val_info rfl (by omega) hs hown hx hr (vcs_one _) (by simp only [maxLen]; omega) (by omega) hbase fun v' w' h1 h2 h3 => h v' w' ?_ (Ext.appended (Below.refl _ _) h2 h3)
  unfold OwnV
  rw [vcs_append, List.length_append, hm]
  exact h1

theorem step_app_bytes {w : World} {ops : Array Oper} {o : Oper} {a : Act} {K : Act → World → Prop} {Q : Exit → Act → World → Prop} {E : Prop} (hgd : o.guard = none) (s x : Operand)
    (ho : o.op = .call { callee := .builtin .append, args := #[s, x], argTypes := #[25, 25] })
    {B : Nat} {v : Value} {l l' : List UInt8} (hs : a.eval s = v) (hown : OwnB w B v l) {A : Option Addr} {m c : Nat} (hx : a.eval x = .slice A m c) (hr : Sl w 1 A m c (bvs l'))
    (hlen : l.length + l'.length ≤ 1000000000000) (hbase : B ≤ w.heap.size)
    (h : ∀ v' w', OwnB w' B v' (l ++ l') → Ext w v w' v' → K (a.put o.dst v') w') :
    if Region.wanted o (yielded ops a.tmps) = true then Oper.wp Tryd.prog o a w K Q else E := by
  have hw : Region.wanted o (yielded ops a.tmps) = true := by simp [Region.wanted, hgd]
  rw [if_pos hw]
  have hm := hr.blen
  obtain ⟨i, hi, hz, hsize, hby⟩ := info_parts u8_info
  obtain ⟨v', w', hr', h2, h3, h5⟩ := run_append_sl (P := Tryd.prog) w B _ o.type _ i _ 1 1 Tryd.underlying25 hi hz hsize hby rfl (by omega) v l.length (bvs l) hown A m c (bvs l') hr (bvs_one _) (by simp only [maxLen]; omega) (by omega) hbase
  unfold Oper.wp execOp
  simp only [ho, resolve, invoke, builtin, Sem.run_bind, Sem.run_pure, Result.andThen_ok, List.map_toArray, List.map_cons, List.map_nil, hs, hx, hr']
  refine h v' w' ?_ (Ext.appended (Below.refl _ _) h3 h5)
  unfold OwnB
  rw [bvs_append, List.length_append, hm]
  exact h2

/-- what an appender promises: the row holds this list behind the call, and nothing else of what was there has turned -/
def Appends (w : World) (B : Nat) (v : Value) (l : List UInt8) : Ending → World → Prop := fun e w' =>
  ∃ v', e = .returned v' ∧ OwnB w' B v' l ∧ Ext w v w' v'


set_option maxHeartbeats 400000 in
theorem number_any (w : World) (B : Nat) (v : Value) (l : List UInt8) (n : Int) (hB : B ≤ w.heap.size) (hown : OwnB w B v l) (hl : l.length ≤ 100000000000) :
    Calls Tryd.prog 47 #[v, .int .i64 n] w (Appends w B v (l ++ be8 n)) := by
  obtain ⟨U, hU⟩ : ∃ U, flipN n = U := ⟨_, rfl⟩
  have hx := xor_u64_top n
  rw [hU] at hx
  have he : be8 n = beTo U 8 := by rw [be8, hU]
  rw [he]
  clear hU he
  go_enter Tryd.func47, Tryd.ntmps47
  go_wp2_with fail
  clear hx
  go_loopw [0, 6] (fun v1 i wr => ∃ k : Nat, k ≤ 8 ∧ i = .int .i64 (56 - 8 * (k : Int)) ∧ OwnB wr B v1 (l ++ beTo U k) ∧ Ext w v wr v1) (fun _ i _ => (intOf i + 9).toNat)
  case atStart => exact ⟨0, by omega, rfl, by simpa [beTo] using hown, Ext.refl _ _⟩
  case round =>
    obtain ⟨k, hk, rfl, ho, hx⟩ := hrel
    have hBr : B ≤ wr.heap.size := Nat.le_trans hB hx.grown.size
    by_cases hk8 : k < 8
    · have hge : (0 : Int) ≤ 56 - 8 * (k : Int) := by omega
      have hlk := beTo_length U k
      go_wp2_with (refine app_bytes rfl (.tmp 14) (.tmp 19) rfl rfl (ho.alloc _) rfl (Sl.new1 _ _ _ (UInt8.ofNat (U / 2 ^ (56 - 8 * k) % 256)) (byte_of _ _)) ?_ ?_ ?_; (· simp; omega); (· simp; omega); intro v2 w2 ho2 hx2)
      go_roundw
      case rel => exact ⟨k + 1, by omega, by go_num, by rw [beTo_succ, ← List.append_assoc]; exact ho2, (hx.alloc _).trans hx2⟩
      case measure => exact (by first | (simp [intOf]; done) | (simp [intOf]; omega))
    · obtain rfl : k = 8 := by omega
      go_wp2_with fail
      go_ret
      exact ⟨_, rfl, ho, hx⟩

theorem escTo_succ {s : List UInt8} {k : Nat} {c : UInt8} (h : s[k]? = some c) : escTo (s.take (k + 1)) = escTo (s.take k) ++ (if c = 0 then [0, 255] else [c]) := by
  have hk : k < s.length := by
    rcases Nat.lt_or_ge k s.length with h' | h'
    · exact h'
    · rw [List.getElem?_eq_none h'] at h; cases h
  have hd : s[k] = c := by rw [List.getElem?_eq_getElem hk] at h; injection h
  rw [List.take_succ_eq_append_getElem hk, escTo_append, hd]
  simp [escTo]
theorem escTake_length (s : List UInt8) (k : Nat) (h : s.length ≤ 100000000000) : (escTo (s.take k)).length ≤ 200000000000 := by
  have := escTo_length (s.take k)
  have h2 : (s.take k).length ≤ s.length := by rw [List.length_take]; omega
  omega

set_option maxHeartbeats 1000000 in
theorem text_any (w : World) (B : Nat) (v : Value) (l s : List UInt8) (hB : B ≤ w.heap.size) (hown : OwnB w B v l) (hl : l.length ≤ 100000000000) (hs : s.length ≤ 100000000000) :
    Calls Tryd.prog 48 #[v, .string ⟨s.toArray⟩] w (Appends w B v (l ++ (escTo s ++ [0, 1]))) := by
  go_enter Tryd.func48, Tryd.ntmps48
  go_wp2_with fail
  go_loopw [0, 8] (fun v1 i wr => ∃ k : Nat, k ≤ s.length ∧ i = .int .i64 (k : Int) ∧ OwnB wr B v1 (l ++ escTo (s.take k)) ∧ Ext w v wr v1) (fun _ i _ => s.length - (intOf i).toNat)
  case atStart => exact ⟨0, by omega, rfl, by simpa [escTo] using hown, Ext.refl _ _⟩
  case round =>
    obtain ⟨k, hk, rfl, ho, hx⟩ := hrel
    have hBr : B ≤ wr.heap.size := Nat.le_trans hB hx.grown.size
    have hel := escTake_length s k hs
    by_cases hlt : k < s.length
    · obtain ⟨c, hc⟩ : ∃ c, s[k]? = some c := ⟨s[k], by simp⟩
      have hbyte := byteAt hc
      have hsucc := hide (escTo_succ hc)
      have b0 : (0 : Int) ≤ (c.toNat : Int) := by omega
      have b1 : (c.toNat : Int) < 256 := by have := c.toNat_lt; omega
      have hlt' : (k : Int) < (s.length : Int) := by omega
      clear hc
      by_cases h0 : c = 0
      · have hz : (c.toNat : Int) = 0 := by rw [h0]; rfl
        have hsucc' := hide (show escTo (s.take (k + 1)) = escTo (s.take k) ++ [0, 255] by rw [unhide hsucc, if_pos h0])
        clear b0 b1 h0 hsucc
        go_wp2_with (first | (refine app_bytes rfl (.tmp 11) (.tmp 15) rfl rfl (ho.alloc _) rfl (Sl.new1 _ _ _ 0 rfl) ?_ ?_ ?_; (· simp; omega); (· simp; omega); intro v2 w2 ho2 hx2) | (refine app_bytes rfl (.tmp 21) (.tmp 22) rfl rfl (ho2.alloc _) rfl (Sl.new1 _ _ _ 255 rfl) ?_ ?_ ?_; (· simp; omega); (· have := hx2.grown.size; simp at this; simp; omega); intro v3 w3 ho3 hx3))
        go_roundw
        case rel => exact ⟨k + 1, by omega, by go_num, by rw [unhide hsucc']; simpa using ho3, ((hx.alloc _).trans hx2).alloc _ |>.trans hx3⟩
        case measure => exact (by first | (simp [intOf]; done) | (simp [intOf]; omega))
      · have hz : ((c.toNat : Int) == 0) = false := by
          rw [beq_eq_false_iff_ne]
          intro e
          exact h0 (UInt8.toNat_inj.1 (by simpa using e))
        have hsucc' := hide (show escTo (s.take (k + 1)) = escTo (s.take k) ++ [c] by rw [unhide hsucc, if_neg h0])
        clear h0 hsucc
        go_wp2_with (refine app_bytes rfl (.tmp 11) (.tmp 15) rfl rfl (ho.alloc _) rfl (Sl.new1 _ _ _ c rfl) ?_ ?_ ?_; (· simp; omega); (· simp; omega); intro v2 w2 ho2 hx2)
        go_roundw
        case rel => exact ⟨k + 1, by omega, by go_num, by rw [unhide hsucc', ← List.append_assoc]; exact ho2, (hx.alloc _).trans hx2⟩
        case measure => exact (by first | (simp [intOf]; done) | (simp [intOf]; omega))
    · obtain rfl : k = s.length := by omega
      have ht : s.take s.length = s := List.take_of_length_le (Nat.le_refl _)
      rw [ht] at ho hel
      clear ht
      go_wp2_with (refine app_bytes rfl (.tmp 25) (.tmp 26) rfl rfl (ho.alloc _) rfl (Sl.new2 _ _ _ _ 0 1 rfl rfl) ?_ ?_ ?_; (· simp; omega); (· simp; omega); intro v2 w2 ho2 hx2)
      go_ret
      exact ⟨_, rfl, by rw [← List.append_assoc]; exact ho2, (hx.alloc _).trans hx2⟩
end Go.Proofs.YtclhnfalebiieaaDoor
