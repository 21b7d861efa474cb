/-
  Each operation: what the evaluator's act says of it, the machine does. Part 3: conversions, parts of aggregates, indexes, places, loads from protected places.
-/
import Derived.Test.YtllpobcecingiaaGreatDoorPo2
set_option linter.unusedVariables false
set_option linter.unusedSimpArgs false
namespace Go.Proofs.YtllpobcecingiaaGreatDoor
open Go.RowKit

structure TypesOK (P : Program) (t : TypeId) : Prop where
  ok : typeOK P t = true
theorem TypesOK.sl {P : Program} {t : TypeId} (h : TypesOK P t) (e : TypeId) (he : P.underlying t = some (.slice e)) : (P.info? e).isSome = true := by
  have := h.ok
  simp only [typeOK, he] at this
  obtain ⟨d, hd⟩ := Option.isSome_iff_exists.1 this
  exact und_isSome hd
theorem TypesOK.ar {P : Program} {t : TypeId} (h : TypesOK P t) (n : Nat) (e : TypeId) (he : P.underlying t = some (.array n e)) : (P.info? e).isSome = true := by
  have := h.ok
  simp only [typeOK, he] at this
  obtain ⟨d, hd⟩ := Option.isSome_iff_exists.1 this
  exact und_isSome hd
theorem TypesOK.ar_un {P : Program} {t : TypeId} (h : TypesOK P t) (n : Nat) (e : TypeId) (he : P.underlying t = some (.array n e)) : ∃ d, P.underlying e = some d := by
  have := h.ok
  simp only [typeOK, he] at this
  exact Option.isSome_iff_exists.1 this
theorem TypesOK.st_un {P : Program} {t : TypeId} (h : TypesOK P t) (fs : Array Field) (he : P.underlying t = some (.struct fs)) (f : Field) (hf : f ∈ fs) : ∃ d, P.underlying f.type = some d := by
  have := h.ok
  simp only [typeOK, he] at this
  rw [Array.all_eq_true_iff_forall_mem] at this
  exact Option.isSome_iff_exists.1 (this f hf)
theorem TypesOK.st {P : Program} {t : TypeId} (h : TypesOK P t) (fs : Array Field) (he : P.underlying t = some (.struct fs)) (f : Field) (hf : f ∈ fs) : (P.info? f.type).isSome = true := by
  obtain ⟨d, hd⟩ := h.st_un fs he f hf
  exact und_isSome hd
theorem TypesOK.un {P : Program} {t : TypeId} (h : TypesOK P t) : ∃ d, P.underlying t = some d := by
  have := h.ok
  unfold typeOK at this
  cases hd : P.underlying t with
  | none => rw [hd] at this; cases this
  | some d => exact ⟨d, rfl⟩

section
variable {en : Env} {NG : Nat} {W : World → Prop} {st : St} {o : Oper}

theorem pbytes_ok {M : Mem} : ∀ {cells : List PV} {vs : List Value} {l : List UInt8}, pbytes cells = some l → RelL M cells vs → ∃ ns : List Int, vs = ns.map (Value.int .u8) ∧ l = ns.map fun n => UInt8.ofNat n.toNat
  | [], vs, l, h, hr => by
    simp only [pbytes, Option.some.injEq] at h
    simp only [RelL] at hr
    subst h; subst hr
    exact ⟨[], rfl, rfl⟩
  | x :: xs, vs, l, h, hr => by
    simp only [pbytes] at h
    obtain ⟨n, h1, h⟩ := bind_some_inv h
    obtain ⟨l', h2, h⟩ := bind_some_inv h
    injection h with h
    subst h
    simp only [RelL] at hr
    obtain ⟨u, us, rfl, _, h3, h4⟩ := hr
    obtain ⟨ns, rfl, rfl⟩ := pbytes_ok h2 h4
    cases x <;> simp only [PV.asInt, reduceCtorEq] at h1
    obtain ⟨rfl, h1⟩ := ite_inv h1
    injection h1 with h1
    subst h1
    exact ⟨_ :: ns, by rw [show u = .int .u8 _ from h3]; rfl, rfl⟩

theorem addr_add' (b o j : Nat) : (⟨b, o, none⟩ : Addr).add j = ⟨b, o + j, none⟩ := addr_add b o j

/-- bytes to a string -/
theorem run_bytes_string {P : Program} {M : Mem} {nl : Option Bool} {n : Nat} {cells : List PV} {l : List UInt8} {A : Option Addr} {c : Nat} (h : pbytes cells = some l) (hr : RelD M (.sl nl 1 n cells) (.slice A n c)) :
    (Conv.bytesToString (.slice A n c)).run P M.w = .ok (.string ⟨l.toArray⟩) M.w := by
  simp only [RelD] at hr
  obtain ⟨A', c', vs, he, h1, h2, h3, h4, h5, h6, h7⟩ := hr
  injection he with e1 e2 e3
  subst e1; subst e3
  obtain ⟨ns, rfl, rfl⟩ := pbytes_ok h h6
  have hlen : ns.length = n := by have := h6.length; simp at this; omega
  cases A with
  | none =>
    have : c = 0 := h4 rfl
    have : n = 0 := by omega
    subst this
    have : ns = [] := List.eq_nil_of_length_eq_zero hlen
    subst this
    rfl
  | some ad =>
    have hl : (loadCells ad n).run P M.w = .ok (ns.map (Value.int .u8)).toArray M.w := by
      rcases h7 with h7 | ⟨b, o, e, h7⟩
      · have : ns = [] := by simpa using h7
        subst this
        simp at hlen
        subst hlen
        rfl
      · injection e with e
        subst e
        have := run_loadCells_list (P := P) M.w ⟨b, o, none⟩ (ns.map (Value.int .u8)) (fun j v hj => by rw [addr_add]; exact (h7 j v hj).1)
        simpa [hlen] using this
    rw [run_bytesToString M.w ad n c ns hl, foldl_push_bytes]
    congr 2
    apply ByteArray.ext
    simp

theorem bvs_rel (M : Mem) : ∀ s : List UInt8, RelL M (s.map bytePV) (s.map fun b => .int .u8 b.toNat)
  | [] => rfl
  | b :: s => ⟨_, _, rfl, rfl, rfl, bvs_rel M s⟩

/-- a new block of cells that stay -/
def Mem.lay (M : Mem) (w' : World) (g n : Nat) : Mem := ⟨w', fun b => if b = g then n else M.U b⟩
theorem Move.lay {M : Mem} {w' : World} (hb : Below M.w.heap.size M.w w') {g : Nat} (hg : M.w.heap.size ≤ g) (n : Nat) : Move M (M.lay w' g n) none :=
  Move.mk0 hb fun b hlt => by simp only [Mem.lay]; rw [if_neg (by omega)]

theorem below_alloc {M : Mem} {w1 : World} (hb : Below M.w.heap.size M.w w1) (x : Obj) : Below M.w.heap.size M.w (w1.alloc x) := hb.alloc hb.size x
theorem cells_new {M : Mem} {w1 : World} {arr : Array Value} {e : TypeId} {fr : Nat × Nat} {vs : List Value} (harr : ∀ (j : Nat) (u : Value), vs[j]? = some u → arr[j]? = some u) : CellsAt (M.lay (w1.alloc (.cells arr e fr)) w1.heap.size vs.length) w1.heap.size 0 vs := by
  intro j u hu
  have hlt : j < vs.length := (List.getElem?_eq_some_iff.1 hu).1
  refine ⟨?_, by simp [Mem.lay]; exact hlt⟩
  show (w1.alloc _).cell? _ = _
  rw [cell_of_row _ _ _ arr e fr (heap_alloc_new w1 _), Nat.zero_add]
  exact harr j u hu
/-- a new block that reads as a slice -/
theorem rel_new {M : Mem} {w1 : World} (hb : Below M.w.heap.size M.w w1) {arr : Array Value} {e : TypeId} {fr : Nat × Nat} {sz n cap : Nat} {cells : List PV} {vs : List Value} (hr : RelL M cells vs) (hlen : cells.length = n * sz) (hnc : n ≤ cap) (hcm : cap ≤ maxLen)
    (harr : ∀ (j : Nat) (u : Value), vs[j]? = some u → arr[j]? = some u) : RelD (M.lay (w1.alloc (.cells arr e fr)) w1.heap.size vs.length) (.sl (some false) sz n cells) (.slice (some ⟨w1.heap.size, 0, none⟩) n cap) := by
  have hm : M.le (M.lay (w1.alloc (.cells arr e fr)) w1.heap.size vs.length) := (Move.lay (below_alloc hb _) hb.size _).le
  simp only [RelD]
  exact ⟨_, _, vs, rfl, hnc, hcm, by simp, by simp, hlen, hr.mono' hm, .inr ⟨_, 0, rfl, cells_new harr⟩⟩

theorem run_string_bytes {P : Program} {M : Mem} {s d e : TypeId} (l : List UInt8) (hs : P.underlying s = some .string) (hd : P.underlying d = some (.slice e)) (he : P.underlying e = some (.int .u8)) (hl : l.length ≤ maxLen) :
    ∃ v M', (convert s d (.string ⟨l.toArray⟩)).run P M.w = .ok v M'.w ∧ Move M M' none ∧ RelD M' (.sl (some false) 1 l.length (l.map bytePV)) v := by
  have hr := run_bytes_of_string (P := P) M.w s d e ⟨l.toArray⟩ hs hd he
  have hz : (⟨l.toArray⟩ : ByteArray).size = l.length := by simp [ByteArray.size]
  rw [hz] at hr
  have hb : Below M.w.heap.size M.w M.w.drew := (Below.refl _ _).drew
  exact ⟨_, M.lay _ M.w.drew.heap.size (l.map fun b => Value.int .u8 b.toNat).length, hr, Move.lay (below_alloc hb _) (Nat.le_refl _) _,
    rel_new hb (bvs_rel M l) (by simp) (grownCap_ge _ _ _ _) (grownCap_le_maxLen _ _ _ _ hl) (fun j u hu => by
      have hlt : j < l.length := by have := (List.getElem?_eq_some_iff.1 hu).1; simpa using this
      simp only [bytesRow]
      rw [Array.getElem?_append_left (by simpa using hlt)]
      simpa using hu)⟩

theorem sim_convert {s d : TypeId} {x : Operand} (ho : o.op = .convert s d x) {act : PAct} (h : presolve en st o some = some act) : Sim en NG W st o act := by
  simp only [presolve, ho] at h
  rw [pconv_nat] at h
  obtain ⟨v, hv, h⟩ := bind_some_inv h
  injection h with h
  subst h
  unfold pconv at hv
  split at hv
  · rename_i k0 k k' n h1 h2 hx
    injection hv with hv
    subst hv
    refine sim_same fun M0 a M β κ hI hG _ => ?_
    have hx' := (hI.ev hG s x).1
    rw [hx] at hx'
    have hx' := rel_int hx'
    exact ⟨.int k (k.wrap n), by simp [execOp, ho, hx', convert, run_und h1, run_und h2, Conv.intToInt], rfl, .inl rfl⟩
  · rename_i s' h1 h2 hx
    injection hv with hv
    subst hv
    refine sim_same fun M0 a M β κ hI hG _ => ?_
    have hx' := (hI.ev hG s x).1
    rw [hx] at hx'
    have hx'' := rel_str hx'
    exact ⟨_, by simp [execOp, ho, hx'', convert, run_und h1, run_und h2], rfl, .inl rfl⟩
  · rename_i e s' h1 h2 hx
    split at hv
    · rename_i he
      obtain ⟨hsz, hv⟩ := ite_inv hv
      obtain ⟨hl, hv⟩ := bif_inv hv
      injection hv with hv
      subst hv
      refine sim_val fun M0 a M β κ hI hG _ => ?_
      have hx' := (hI.ev hG s x).1
      rw [hx] at hx'
      have hx'' := rel_str hx'
      obtain ⟨v, M', k1, k2, k3⟩ := run_string_bytes (P := en.P) (M := M) s' h1 h2 he (by have := of_decide_eq_true hl; exact this)
      exact ⟨v, M', by simp [execOp, ho, hx'', k1], k2, RelS.of_data k3, .inl rfl⟩
    · cases hv
  · rename_i e nl sz n cells h1 h2 hx
    split at hv
    · rename_i he
      obtain ⟨hsz, hv⟩ := ite_inv hv
      subst hsz
      obtain ⟨l, hl, hv⟩ := bind_some_inv hv
      injection hv with hv
      subst hv
      refine sim_same fun M0 a M β κ hI hG _ => ?_
      have hx' := (hI.ev hG s x).1
      rw [hx] at hx'
      have hx2 : RelD M (.sl nl 1 n cells) (a.eval x) := hx'
      have hx3 := hx2
      simp only [RelD] at hx3
      obtain ⟨A, c, _, hAc, _⟩ := hx3
      rw [hAc] at hx2
      have := run_bytes_string (P := en.P) hl hx2
      exact ⟨_, by simp [execOp, ho, hAc, convert, run_und h1, run_und h2, run_und he, this], rfl, .inl rfl⟩
    · cases hv
  · cases hv
/-! ### parts of aggregates -/
theorem und_of_info {P : Program} {t : TypeId} (h : (P.info? t).isSome = true) (hn : ∀ n u s z b p a f zz c m, P.info? t = some ⟨.named n u, s, z, b, p, a, f, zz, c, m⟩ → (P.info? u).isSome = true) : ∃ d, P.underlying t = some d := by
  obtain ⟨i, hi⟩ := Option.isSome_iff_exists.1 h
  unfold Program.underlying
  obtain ⟨d, s, z, b, p, a, f, zz, c, m⟩ := i
  cases d with
  | named n u =>
    have := hn _ _ _ _ _ _ _ _ _ _ _ hi
    obtain ⟨j, hj⟩ := Option.isSome_iff_exists.1 this
    exact ⟨j.desc, by rw [hi]; simp [hj]⟩
  | _ => exact ⟨_, by rw [hi]⟩
end

end Go.Proofs.YtllpobcecingiaaGreatDoor
