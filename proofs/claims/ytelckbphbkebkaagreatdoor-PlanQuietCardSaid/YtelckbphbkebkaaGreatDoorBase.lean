/-
  Words for slices, strings and api.Value in memory; no statement of the seat. 'Sl': a slice that reads as a list of cells. 'Ret': the call returns a value and leaves all older blocks alone.
-/
import Derived.WalkKit
import Derived.WalkLawsBesides
import Derived.WalkSpells
import Derived.WalkSmall
import Derived.Maps.AppendAt
import Derived.Outline
set_option linter.unusedVariables false
set_option linter.unusedSimpArgs false
namespace Go.Proofs.YtelckbphbkebkaaGreatDoor
open Go.RowKit

theorem hide {p : Prop} (h : p) : Hid p := h
theorem unhide {p : Prop} (h : Hid p) : p := h

/-- the call returns this value, and what was there is as it was -/
def Ret (w : World) (v : Value) : Ending → World → Prop := fun e w' => e = .returned v ∧ Below w.heap.size w w'

theorem bcell {W w1 : World} (hb : Below W.heap.size W w1) : (∀ b o, b < W.heap.size → w1.cell? ⟨b, o, none⟩ = W.cell? ⟨b, o, none⟩) ∧ (∀ b o, b < W.heap.size → w1.frozen? ⟨b, o, none⟩ = W.frozen? ⟨b, o, none⟩) ∧ W.heap.size ≤ w1.heap.size :=
  ⟨fun b o h => hb.cell (p := ⟨b, o, none⟩) h, fun b o h => hb.frozen (p := ⟨b, o, none⟩) h, hb.size⟩

theorem below_step {W w1 w : World} {B : Nat} (hb : Below W.heap.size W w1) (h : Below B w W) (hB : B ≤ W.heap.size) : Below B w w1 := h.trans (hb.mono hB)

/-! ## bytes -/
def bv (c : UInt8) : Value := .int .u8 c.toNat
def bvs (l : List UInt8) : List Value := l.map bv
theorem bvs_length (l : List UInt8) : (bvs l).length = l.length := by simp [bvs]
theorem bvs_append (a b : List UInt8) : bvs (a ++ b) = bvs a ++ bvs b := by simp [bvs]
theorem bvs_one (l : List UInt8) : ∀ u ∈ bvs l, u.oneCell' = true := by
  intro u hu
  simp only [bvs, List.mem_map] at hu
  obtain ⟨c, _, rfl⟩ := hu
  rfl
theorem bvs_get {l : List UInt8} {k : Nat} {c : UInt8} (h : l[k]? = some c) : (bvs l)[k]? = some (bv c) := by simp [bvs, h]
theorem bv_ofNat (n : Nat) (h : n < 256) : bv (UInt8.ofNat n) = .int .u8 (n : Int) := by
  unfold bv
  rw [UInt8.toNat_ofNat']
  congr 2
  omega

/-! ## api.Value -/
structure Val where
  kind : Int
  n : Int
  scale : Int
  s : List UInt8

theorem Val.ext' {a b : Val} (h1 : a.kind = b.kind) (h2 : a.n = b.n) (h3 : a.scale = b.scale) (h4 : a.s = b.s) : a = b := by
  cases a; cases b; simp_all
instance : DecidableEq Val := fun a b =>
  if h : a.kind = b.kind ∧ a.n = b.n ∧ a.scale = b.scale ∧ a.s = b.s then isTrue (Val.ext' h.1 h.2.1 h.2.2.1 h.2.2.2)
  else isFalse (fun e => h (by subst e; exact ⟨rfl, rfl, rfl, rfl⟩))

def Val.cells (v : Val) : List Value := [.int .i64 v.kind, .int .i64 v.n, .int .i64 v.scale, .string ⟨v.s.toArray⟩]
def vcs (l : List Val) : List Value := l.flatMap Val.cells
theorem vcs_length (l : List Val) : (vcs l).length = l.length * 4 := by
  induction l with
  | nil => rfl
  | cons a l ih => rw [vcs, List.flatMap_cons, List.length_append, ← vcs, ih]; simp [Val.cells]; omega
theorem vcs_append (a b : List Val) : vcs (a ++ b) = vcs a ++ vcs b := by simp [vcs]
theorem vcs_single (a : Val) : vcs [a] = a.cells := by simp [vcs]
theorem vcs_one (l : List Val) : ∀ u ∈ vcs l, u.oneCell' = true := by
  intro u hu
  simp only [vcs, List.mem_flatMap] at hu
  obtain ⟨c, _, h⟩ := hu
  simp only [Val.cells, List.mem_cons, List.mem_nil_iff, or_false] at h
  rcases h with rfl | rfl | rfl | rfl <;> rfl
theorem vcs_get {l : List Val} {k : Nat} {x : Val} (hk : l[k]? = some x) : ∀ i, i < 4 → (vcs l)[k * 4 + i]? = x.cells[i]? := by
  induction l generalizing k with
  | nil => simp at hk
  | cons y l ih =>
    intro i hi
    rw [vcs, List.flatMap_cons, ← vcs]
    cases k with
    | zero =>
      simp at hk
      subst hk
      rw [List.getElem?_append_left (by simp [Val.cells]; omega)]; simp
    | succ k =>
      rw [List.getElem?_append_right (by simp [Val.cells]; omega)]
      have := ih (by simpa using hk) i hi
      rw [← this]
      congr 1
      simp [Val.cells]; omega

def ValAt (w : World) (b o : Nat) (x : Val) : Prop :=
  w.cell? ⟨b, o, none⟩ = some (.int .i64 x.kind) ∧ w.cell? ⟨b, o + 1, none⟩ = some (.int .i64 x.n) ∧ w.cell? ⟨b, o + 2, none⟩ = some (.int .i64 x.scale) ∧ w.cell? ⟨b, o + 3, none⟩ = some (.string ⟨x.s.toArray⟩)

/-! ## a slice that reads as a list of cells -/
structure Sl (w : World) (size : Nat) (A : Option Addr) (n c : Nat) (xs : List Value) : Prop where
  len : xs.length = n * size
  nc : n ≤ c
  cm : c ≤ maxLen
  at_ : 0 < n → ∃ b o, A = some ⟨b, o, none⟩ ∧ b < w.heap.size ∧ ∀ j u, xs[j]? = some u → w.cell? ⟨b, o + j, none⟩ = some u

theorem Sl.below {w w' : World} {size : Nat} {A : Option Addr} {n c : Nat} {xs : List Value} (h : Sl w size A n c xs) {B : Nat} (hb : Below B w w') (hB : w.heap.size ≤ B) : Sl w' size A n c xs :=
  ⟨h.len, h.nc, h.cm, fun hn => by
    obtain ⟨b, o, e, hlt, hc⟩ := h.at_ hn
    exact ⟨b, o, e, Nat.lt_of_lt_of_le hlt hb.size, fun j u hu => (hb.cell (p := ⟨b, o + j, none⟩) (Nat.lt_of_lt_of_le hlt hB)).trans (hc j u hu)⟩⟩
theorem Sl.mono {w w' : World} {size : Nat} {A : Option Addr} {n c : Nat} {xs : List Value} (h : Sl w size A n c xs) (hb : Below w.heap.size w w') : Sl w' size A n c xs := h.below hb (Nat.le_refl _)
theorem Sl.alloc {w : World} {size : Nat} {A : Option Addr} {n c : Nat} {xs : List Value} (h : Sl w size A n c xs) (o : Obj) : Sl (w.alloc o) size A n c xs :=
  h.mono ((Below.refl _ _).alloc (Nat.le_refl _) _)
theorem Sl.drew {w : World} {size : Nat} {A : Option Addr} {n c : Nat} {xs : List Value} (h : Sl w size A n c xs) : Sl w.drew size A n c xs := h.mono (Below.refl _ _).drew
theorem Sl.drewN {w : World} {size : Nat} {A : Option Addr} {n c : Nat} {xs : List Value} (h : Sl w size A n c xs) (q : Nat) : Sl (w.drewN q) size A n c xs := h.mono (below_drewN (Below.refl _ _) q)
theorem Sl.zero (w : World) (size : Nat) (A : Option Addr) (c : Nat) (hc : c ≤ maxLen) : Sl w size A 0 c [] := ⟨by simp, Nat.zero_le _, hc, fun h => absurd h (by omega)⟩
theorem Sl.val {w : World} {A : Option Addr} {n c : Nat} {l : List Val} (h : Sl w 4 A n c (vcs l)) {k : Nat} (hk : k < n) :
    ∃ b o x, A = some ⟨b, o, none⟩ ∧ b < w.heap.size ∧ l[k]? = some x ∧ ValAt w b (o + k * 4) x := by
  obtain ⟨b, o, rfl, hlt, hc⟩ := h.at_ (by omega)
  have hlen : l.length = n := by have := h.len; rw [vcs_length] at this; omega
  have hx : l[k]? = some l[k] := by simp
  have g := vcs_get hx
  refine ⟨b, o, l[k], rfl, hlt, hx, ?_, ?_, ?_, ?_⟩
  · have := hc (k * 4 + 0) _ ((g 0 (by omega)).trans rfl); simpa using this
  · have := hc (k * 4 + 1) _ ((g 1 (by omega)).trans rfl); simpa [Nat.add_assoc] using this
  · have := hc (k * 4 + 2) _ ((g 2 (by omega)).trans rfl); simpa [Nat.add_assoc] using this
  · have := hc (k * 4 + 3) _ ((g 3 (by omega)).trans rfl); simpa [Nat.add_assoc] using this
theorem Sl.vlen {w : World} {A : Option Addr} {n c : Nat} {l : List Val} (h : Sl w 4 A n c (vcs l)) : l.length = n := by have := h.len; rw [vcs_length] at this; omega
theorem Sl.blen {w : World} {A : Option Addr} {n c : Nat} {l : List UInt8} (h : Sl w 1 A n c (bvs l)) : l.length = n := by have := h.len; rw [bvs_length] at this; omega
theorem Sl.byte {w : World} {A : Option Addr} {n c : Nat} {l : List UInt8} (h : Sl w 1 A n c (bvs l)) {k : Nat} (hk : k < n) :
    ∃ b o x, A = some ⟨b, o, none⟩ ∧ b < w.heap.size ∧ l[k]? = some x ∧ w.cell? ⟨b, o + k, none⟩ = some (.int .u8 (x.toNat : Int)) := by
  obtain ⟨b, o, rfl, hlt, hc⟩ := h.at_ (by omega)
  have hlen := h.blen
  have hx : l[k]? = some l[k] := by simp
  exact ⟨b, o, l[k], rfl, hlt, hx, hc k _ (bvs_get hx)⟩
/-- s[k:]: as the walk writes its address -/
theorem Sl.cut {w : World} {size : Nat} {A : Option Addr} {n c : Nat} {xs : List Value} (h : Sl w size A n c xs) {k : Nat} (hk : k ≤ n) :
    Sl w size (if c = k then A else A.map (·.add (k * size))) (n - k) (c - k) (xs.drop (k * size)) := by
  refine ⟨by rw [List.length_drop, h.len, Nat.sub_mul], by have := h.nc; omega, by have := h.cm; omega, fun hn => ?_⟩
  have hnc := h.nc
  obtain ⟨b, o, rfl, hlt, hc⟩ := h.at_ (by omega)
  rw [if_neg (by omega)]
  refine ⟨b, o + k * size, ?_, hlt, fun j u hu => ?_⟩
  · simp only [Option.map_some, Addr.add]
    by_cases e : k * size = 0
    · rw [if_pos e, e]; rfl
    · rw [if_neg e]
  · rw [List.getElem?_drop] at hu
    have := hc _ u hu
    rwa [← Nat.add_assoc] at this
/-- s[:k] -/
theorem Sl.upto {w : World} {size : Nat} {A : Option Addr} {n c : Nat} {xs : List Value} (h : Sl w size A n c xs) {k : Nat} (hk : k ≤ n) :
    Sl w size A k c (xs.take (k * size)) := by
  have hnc := h.nc
  refine ⟨by rw [List.length_take, h.len]; exact Nat.min_eq_left (Nat.mul_le_mul_right _ hk), by omega, h.cm, fun hn => ?_⟩
  obtain ⟨b, o, rfl, hlt, hc⟩ := h.at_ (by omega)
  exact ⟨b, o, rfl, hlt, fun j u hu => hc j u (by rw [List.getElem?_take] at hu; split at hu <;> simp_all)⟩

/-- a slice of the call's own reads as its list -/
theorem own_form {w : World} {B : Nat} {e : TypeId} {size : Nat} {v : Value} {n : Nat} {xs : List Value} (h : w.ownsRow B e size v n xs) :
    ∃ A c, v = .slice A n c ∧ Sl w size A n c xs ∧ (A = none ∨ ∃ g, A = some ⟨g, 0, none⟩ ∧ B ≤ g ∧ g < w.heap.size) := by
  have hl := h.1
  rcases h.2 with ⟨rfl, rfl⟩ | ⟨g, cap, cur, rfl, hg, hh, hnc, hcm, hsz, ht⟩
  · exact ⟨none, 0, rfl, ⟨hl, Nat.le_refl _, Nat.zero_le _, fun h => absurd h (by omega)⟩, .inl rfl⟩
  · have hlt := (h.lt g rfl).2
    refine ⟨_, cap, rfl, ⟨hl, hnc, hcm, fun _ => ⟨g, 0, rfl, hlt, fun j u hu => ?_⟩⟩, .inr ⟨g, rfl, hg, hlt⟩⟩
    have := h.cells (g := g) rfl j u hu
    rw [← this]
    congr 1
    unfold Addr.add
    split <;> simp_all

/-- the row grew: only its own block, and new ones, have changed; it lies where it lay, or in a new block -/
structure Ext (w : World) (v : Value) (w' : World) (v' : Value) : Prop where
  grown : w.grownBy w' v.ownBlock
  lies : v'.ownBlock = v.ownBlock ∨ ∃ k, v'.ownBlock = some k ∧ w.heap.size ≤ k
theorem Ext.refl (w : World) (v : Value) : Ext w v w v := ⟨World.grownBy.refl _ _, .inl rfl⟩
theorem Ext.trans {w w1 w2 : World} {v v1 v2 : Value} (h : Ext w v w1 v1) (k : Ext w1 v1 w2 v2) : Ext w v w2 v2 := by
  refine ⟨⟨k.grown.os.trans h.grown.os, k.grown.tape.trans h.grown.tape, k.grown.output.trans h.grown.output, Nat.le_trans h.grown.size k.grown.size, fun i hi hne => (k.grown.block i (Nat.lt_of_lt_of_le hi h.grown.size) ?_).trans (h.grown.block i hi hne)⟩, ?_⟩
  · rcases h.lies with e | ⟨g, e, hg⟩ <;> rw [e]
    · exact hne
    · intro c
      injection c with c
      omega
  · rcases k.lies with e | ⟨g, e, hg⟩
    · rw [e]
      exact h.lies
    · exact .inr ⟨g, e, Nat.le_trans h.grown.size hg⟩
theorem Ext.after {w w1 w2 : World} {v v1 : Value} (h : Ext w v w1 v1) (k : Below w1.heap.size w1 w2) : Ext w v w2 v1 :=
  h.trans ⟨⟨k.os, k.tape, k.output, k.size, fun i hi _ => k.block i hi⟩, .inl rfl⟩
/-- one append, as its law leaves it -/
theorem Ext.appended {w w1 w' : World} {v v' : Value} (hb : Below w.heap.size w w1) (hg : w1.grownBy w' v.ownBlock) (hat : v'.ownBlock = v.ownBlock ∨ v'.ownBlock = some w1.heap.size) : Ext w v w' v' := by
  refine ⟨⟨hg.os.trans hb.os, hg.tape.trans hb.tape, hg.output.trans hb.output, Nat.le_trans hb.size hg.size, fun i hi hne => (hg.block i (Nat.lt_of_lt_of_le hi hb.size) hne).trans (hb.block i hi)⟩, ?_⟩
  rcases hat with e | e
  · exact .inl e
  · exact .inr ⟨_, e, hb.size⟩
/-- onto a row that lies beyond B, B is as it was -/
theorem Ext.below {w w' : World} {v v' : Value} (h : Ext w v w' v') {B : Nat} (hB : B ≤ w.heap.size) (hv : ∀ k, v.ownBlock = some k → B ≤ k) : Below B w w' :=
  ⟨h.grown.os, h.grown.tape, h.grown.output, h.grown.size, fun i hi => h.grown.block i (by omega) (fun e => by have := hv i e.symm; omega)⟩
theorem own_lies {w : World} {B : Nat} {e : TypeId} {size : Nat} {v : Value} {n : Nat} {xs : List Value} (h : w.ownsRow B e size v n xs) : ∀ k, v.ownBlock = some k → B ≤ k := fun k hk => (h.lt k hk).1
theorem own_mono {w : World} {B B' : Nat} {e : TypeId} {size : Nat} {v : Value} {n : Nat} {xs : List Value} (h : w.ownsRow B e size v n xs) (hB : B' ≤ B) : w.ownsRow B' e size v n xs := by
  refine ⟨h.1, ?_⟩
  rcases h.2 with h2 | ⟨g, cap, cur, hv, hg, r⟩
  · exact .inl h2
  · exact .inr ⟨g, cap, cur, hv, by omega, r⟩
/-- a row of the call's own behind steps that leave its block alone -/
theorem own_below {w w' : World} {B : Nat} {e : TypeId} {size : Nat} {v : Value} {n : Nat} {xs : List Value} (h : w.ownsRow B e size v n xs) {C : Nat} (hb : Below C w w') (hC : w.heap.size ≤ C) : w'.ownsRow B e size v n xs := by
  refine ⟨h.1, ?_⟩
  rcases h.2 with h2 | ⟨g, cap, cur, hv, hg, hh, r⟩
  · exact .inl h2
  · have := (h.lt g (by rw [hv]; rfl)).2
    exact .inr ⟨g, cap, cur, hv, hg, (hb.block g (by omega)).trans hh, r⟩

/-! ## bytes to a string -/
theorem run_sl_string {P : Program} (w : World) (src dst e : TypeId) (hs : P.underlying src = some (.slice e)) (he : P.underlying e = some (.int .u8)) (hd : P.underlying dst = some .string)
    (A : Option Addr) (n c : Nat) (l : List UInt8) (h : Sl w 1 A n c (bvs l)) : (convert src dst (.slice A n c)).run P w = .ok (.string ⟨l.toArray⟩) w := by
  have hlen := h.blen
  rcases A with _ | ad
  · have hn : n = 0 := by
      rcases Nat.eq_zero_or_pos n with h0 | h0
      · exact h0
      · obtain ⟨_, _, e, _⟩ := h.at_ h0
        cases e
    subst hn
    have : l = [] := List.eq_nil_of_length_eq_zero hlen
    subst this
    exact run_convert_bytes_nil w src e hs he 0 c dst hd
  · rcases Nat.eq_zero_or_pos n with h0 | h0
    · subst h0
      have : l = [] := List.eq_nil_of_length_eq_zero hlen
      subst this
      have hl : (loadCells ad 0).run P w = .ok (([] : List Int).map (Value.int .u8)).toArray w := by
        have := run_loadCells_list (P := P) w ad [] (fun j v hj => by simp at hj)
        simpa using this
      rw [run_convert_bytes_string w src dst e _ 0 c hs he hd, run_bytesToString w ad 0 c [] hl, foldl_push_bytes]
      rfl
    · obtain ⟨b, o, e1, _, hc⟩ := h.at_ h0
      injection e1 with e1
      subst e1
      have := run_convert_bytes_arg w src e hs he b o n c (l.map fun x => (x.toNat : Int)) (by simpa using hlen) (fun i hi => by
        have hx : l[i]? = some (l[i]'(by omega)) := List.getElem?_eq_getElem (by omega)
        have h2 := hc i _ (bvs_get hx)
        rw [h2]
        simp [bv, List.getD, hx]) dst hd
      rw [this]
      unfold strOfNums
      congr 4
      rw [List.map_map]
      conv => rhs; rw [← List.map_id l]
      apply List.map_congr_left
      intro x _
      simp
theorem wpList_sl_string {P : Program} {w : World} {ops : Array Oper} {rest : List Oper} {o : Oper} {a : Act} {Q : Exit → Act → World → Prop} (hgd : o.guard = none) (src dst e : TypeId) (x : Operand)
    (ho : o.op = .convert src dst x) (hs : P.underlying src = some (.slice e)) (he : P.underlying e = some (.int .u8)) (hd : P.underlying dst = some .string)
    {A : Option Addr} {n c : Nat} {l : List UInt8} (hx : a.eval x = .slice A n c) (h : Sl w 1 A n c (bvs l))
    (k : wpList P ops Q rest (a.put o.dst (.string ⟨l.toArray⟩)) w) : wpList P ops Q (o :: rest) a w := by
  refine wpList_plain hgd fun K hK => ?_
  unfold Oper.wp execOp
  simp only [ho, hx, Sem.run_bind, run_sl_string w src dst e hs he hd A n c l h, Result.andThen_ok, Sem.run_pure]
  exact hK _ _ k

/-! ## one more append law: the source reads as a list, nil let in -/
theorem run_append_sl {P : Program} (w : World) (base : Nat) (t ty e : TypeId) (i : TypeInfo) (z : Value) (size bytes : Nat) (ht : P.underlying t = some (.slice e)) (hi : P.info? e = some i) (hz : i.zero = some z)
    (hsize : i.size = size) (hby : i.bytes = bytes) (hzs : z.cells.size = size) (hsz : 0 < size)
    (v : Value) (n : Nat) (xs : List Value) (hown : w.ownsRow base e size v n xs)
    (A : Option Addr) (m c : Nat) (news : List Value) (hr : Sl w size A m c news) (h1 : ∀ u ∈ news, u.oneCell' = true)
    (h63 : n + m ≤ maxLen) (hbytes : (n + m) * bytes ≤ 140737488355328) (hbase : base ≤ w.heap.size) :
    ∃ v' w', (Builtin.append_ #[t, t] ty #[v, .slice A m c]).run P w = .ok v' w' ∧ w'.ownsRow base e size v' (n + m) (xs ++ news) ∧ w.grownBy w' v.ownBlock ∧
      (v'.ownBlock = v.ownBlock ∨ v'.ownBlock = some w.heap.size) := by
  rcases A with _ | ad
  · have hm : m = 0 := by
      rcases Nat.eq_zero_or_pos m with h0 | h0
      · exact h0
      · obtain ⟨_, _, e, _⟩ := hr.at_ h0
        cases e
    subst hm
    have hn : news = [] := List.eq_nil_of_length_eq_zero (by have := hr.len; omega)
    subst hn
    refine ⟨v, w, ?_, by simpa using hown, World.grownBy.refl w _, .inl rfl⟩
    rcases hown.2 with ⟨rfl, rfl⟩ | ⟨g, cap, cur, rfl, _, _, hnc, _⟩
    · simp [Builtin.append_, run_underlying ht, sizeOf, typeInfo, hi, Builtin.lenOf, Builtin.firstCells]
    · simp [Builtin.append_, run_underlying ht, sizeOf, typeInfo, hi, Builtin.lenOf, Builtin.firstCells, hnc, storeCells]
  · have hcells : ∀ j u, news[j]? = some u → w.cell? (ad.add j) = some u := by
      intro j u hu
      rcases Nat.eq_zero_or_pos m with h0 | h0
      · subst h0
        have hn : news = [] := List.eq_nil_of_length_eq_zero (by have := hr.len; omega)
        subst hn
        simp at hu
      · obtain ⟨b, o, h, _, hc⟩ := hr.at_ h0
        injection h with h
        subst h
        rw [← hc j u hu]
        congr 1
        unfold Addr.add
        split <;> simp_all
    obtain ⟨v', w', hrun, h2, h3, _, h5⟩ := run_append_own_at (P := P) w base t ty e i z size bytes ht hi hz hsize hby hzs hsz v n xs hown ad m c news hr.len hcells h1 h63 hbytes hbase
    exact ⟨v', w', hrun, h2, h3, h5⟩

/-- AT THE OPERATION -/
theorem wpList_append_sl {P : Program} {w : World} {ops : Array Oper} {rest : List Oper} {o : Oper} {a : Act} {Q : Exit → Act → World → Prop} (hgd : o.guard = none) (s x : Operand) (t : TypeId)
    (ho : o.op = .call { callee := .builtin .append, args := #[s, x], argTypes := #[t, t] })
    (base : Nat) (e : TypeId) (z : Value) (size bytes : Nat) (ht : P.underlying t = some (.slice e)) (hinfo : (P.info? e).map (fun i => (i.zero, i.size, i.bytes)) = some (some z, size, bytes))
    (hzs : z.cells.size = size) (hsz : 0 < size)
    {v : Value} {n : Nat} {xs : List Value} (hs : a.eval s = v) (hown : w.ownsRow base e size v n xs)
    {A : Option Addr} {m c : Nat} {news : List Value} (hx : a.eval x = .slice A m c) (hr : Sl w size A m c news) (h1 : ∀ u ∈ news, u.oneCell' = true)
    (h63 : n + m ≤ maxLen) (hbytes : (n + m) * bytes ≤ 140737488355328) (hbase : base ≤ w.heap.size)
    (h : ∀ v' w', w'.ownsRow base e size v' (n + m) (xs ++ news) → w.grownBy w' v.ownBlock → (v'.ownBlock = v.ownBlock ∨ v'.ownBlock = some w.heap.size) → wpList P ops Q rest (a.put o.dst v') w') :
    wpList P ops Q (o :: rest) a w := by
  obtain ⟨i, hi, hz, hsize, hby⟩ := info_parts hinfo
  refine wpList_plain hgd fun K hK => ?_
  obtain ⟨v', w', hr', h2, h3, h5⟩ := run_append_sl (P := P) w base t o.type e i z size bytes ht hi hz hsize hby hzs hsz v n xs hown A m c news hr h1 h63 hbytes hbase
  unfold Oper.wp execOp
  simp only [ho, resolve, invoke, builtin, Sem.run_bind, Sem.run_pure, Result.andThen_ok, List.map_toArray, List.map_cons, List.map_nil, hs, hx, hr']
  exact hK _ _ (h v' w' h2 h3 h5)

/-- new cells at the end of the heap read as a slice -/
theorem Sl.fresh {w : World} (cs : Array Value) (t : TypeId) (fr : Nat × Nat) (size n c : Nat) (hl : cs.size = n * size) (hnc : n ≤ c) (hc : c ≤ maxLen) : Sl (w.alloc (.cells cs t fr)) size (some ⟨w.heap.size, 0, none⟩) n c cs.toList :=
  ⟨by simpa using hl, hnc, hc, fun _ => ⟨w.heap.size, 0, rfl, by simp, fun j u hu => by
    have hh : (w.alloc (.cells cs t fr)).heap[w.heap.size]? = some (.cells cs t fr) := by
      show (w.heap.push _)[w.heap.size]? = _
      simp
    simp only [World.cell?, hh]
    simpa using hu⟩⟩

end Go.Proofs.YtelckbphbkebkaaGreatDoor
