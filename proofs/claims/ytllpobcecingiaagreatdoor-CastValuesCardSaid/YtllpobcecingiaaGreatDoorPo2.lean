/-
  Each operation: what the evaluator's act says of it, the machine does. Part 2: operators, conversions, slices, fields, indexes.
-/
import Derived.Test.YtllpobcecingiaaGreatDoorPg
import Derived.Test.YtllpobcecingiaaGreatDoorPn
set_option linter.unusedVariables false
set_option linter.unusedSimpArgs false
namespace Go.Proofs.YtllpobcecingiaaGreatDoor
open Go.RowKit

theorem binOp_eq_nil {P : Program} {w : World} {t : TypeId} {a c : Value} {b : Bool} (h : (Op.equal t a c).run P w = .ok b w) (h1 : ∀ k n, a ≠ .int k n) (h2 : ∀ s, a ≠ .string s) (h3 : ∀ k n, a ≠ .float k n) (h4 : ∀ k n m, a ≠ .complex k n m) :
    (binOp .eql t a c).run P w = .ok (.bool b) w ∧ (binOp .neq t a c).run P w = .ok (.bool (!b)) w := by
  cases a <;> first
    | exact (h1 _ _ rfl).elim
    | exact (h2 _ rfl).elim
    | exact (h3 _ _ rfl).elim
    | exact (h4 _ _ _ rfl).elim
    | (constructor <;> simp [binOp, h])

theorem pbin_ok {P : Program} {w : World} {M : Mem} {β : Nat → Option Nat} {op : BinOp} {t : TypeId} {ox oy : Operand} {X Y v : PV} {a b : Value} (h : pbin P op t ox oy X Y some = some v) (hx : RelS M β X a) (hy : RelS M β Y b) (hc : ∀ c, oy = .const c → b = c) :
    ∃ u, (do eqGuard op t ox oy a b; binOp op t a b : Sem Value).run P w = .ok u w ∧ RelS M β v u := by
  unfold pbin at h
  split at h
  · rename_i kx a' ky b'
    obtain rfl := rel_int hx
    obtain rfl := rel_int hy
    have hg : (eqGuard op t ox oy (.int kx a') (.int ky b')).run P w = .ok () w := eqGuard_other (by simp) (by simp)
    split at h
    · obtain ⟨hb, h⟩ := bif_inv' h
      injection h with h
      subst h
      have hb' : ¬ b' < 0 := by simpa using hb
      exact ⟨_, by simp [hg, binOp, Op.shift, hb'], rfl⟩
    · obtain ⟨hb, h⟩ := bif_inv' h
      injection h with h
      subst h
      have hb' : ¬ b' < 0 := by simpa using hb
      exact ⟨_, by simp [hg, binOp, Op.shift, hb'], rfl⟩
    · rename_i hs hr
      obtain ⟨hk, h'⟩ := ite_inv h
      clear h
      subst hk
      obtain ⟨u, h1, h2⟩ := pint_ok (P := P) (w := w) h' t hs hr
      exact ⟨u, by simp [hg, h1], h2 M β⟩
  · rename_i a' b'
    obtain rfl := rel_str hx
    obtain rfl := rel_str hy
    have hg : (eqGuard op t ox oy (.string ⟨a'.toArray⟩) (.string ⟨b'.toArray⟩)).run P w = .ok () w := eqGuard_other (by simp) (by simp)
    obtain ⟨u, h1, h2⟩ := pstr_ok (P := P) (w := w) h t
    exact ⟨u, by simp [hg, h1], h2 M β⟩
  · rename_i a' b'
    obtain rfl := rel_bool hx
    obtain rfl := rel_bool hy
    have hg : (eqGuard op t ox oy (.bool a') (.bool b')).run P w = .ok () w := eqGuard_other (by simp) (by simp)
    obtain ⟨ht, h⟩ := ite_inv h
    have ht := isBoolT_spec ht
    obtain ⟨d, hd⟩ := equal_in t
    have he : (Op.equal t (.bool a') (.bool b')).run P w = .ok (a' == b') w := by rw [hd]; simp [Op.equalIn, run_und ht]
    have := binOp_eq_nil he (by simp) (by simp) (by simp) (by simp)
    split at h
    · injection h with h; subst h; exact ⟨_, by simp only [Sem.run_bind, hg, Result.andThen_ok]; exact this.1, rfl⟩
    · injection h with h; subst h; exact ⟨_, by simp only [Sem.run_bind, hg, Result.andThen_ok]; exact this.2, rfl⟩
    · cases h
  · rename_i xs ys
    split at h
    · cases h
    · rename_i hgd
      have hgd : P.eqGuardType P.depth t = false := by simpa using hgd
      have hx' : RelD M (.agg xs) a := hx
      have hy' : RelD M (.agg ys) b := hy
      have key : ∀ bb, eqP P 20 t (.agg xs) (.agg ys) = some bb → (eqGuard op t ox oy a b).run P w = .ok () w ∧ (binOp .eql t a b).run P w = .ok (.bool bb) w ∧ (binOp .neq t a b).run P w = .ok (.bool (!bb)) w := by
        intro bb hbb
        have he := eqP_ok 9980 20 t _ _ bb a b hbb hx' hy' w
        simp only [RelD] at hx' hy'
        obtain ⟨us, rfl, _⟩ := hx'
        obtain ⟨vs, rfl, _⟩ := hy'
        have := binOp_eq_nil (P := P) (w := w) (t := t) (a := .agg us.toArray) (c := .agg vs.toArray) (b := bb) he (by simp) (by simp) (by simp) (by simp)
        exact ⟨eqGuard_agg hgd, this.1, this.2⟩
      split at h
      · obtain ⟨bb, hbb, h⟩ := bind_some_inv h
        injection h with h; subst h
        obtain ⟨k0, k1, k2⟩ := key bb hbb
        exact ⟨_, by simp only [Sem.run_bind, k0, Result.andThen_ok]; exact k1, rfl⟩
      · obtain ⟨bb, hbb, h⟩ := bind_some_inv h
        injection h with h; subst h
        obtain ⟨k0, k1, k2⟩ := key bb hbb
        exact ⟨_, by simp only [Sem.run_bind, k0, Result.andThen_ok]; exact k2, rfl⟩
      · cases h
  · split at h
    · rename_i c
      have hbc := hc c rfl
      subst hbc
      have key : ∀ bb, nilCmp P t X b = some bb → (eqGuard op t ox (.const b) a b).run P w = .ok () w ∧ (binOp .eql t a b).run P w = .ok (.bool bb) w ∧ (binOp .neq t a b).run P w = .ok (.bool (!bb)) w := by
        intro bb hbb
        obtain ⟨h1, h2, h3, h4, h5, h6, h7⟩ := nil_ok (w := w) hbb hx
        obtain ⟨k1, k2⟩ := binOp_eq_nil h1 h4 h5 h6 h7
        exact ⟨eqGuard_other (fun _ _ => ⟨b, rfl⟩) (fun xs _ e _ => h3 xs e), k1, k2⟩
      split at h
      · obtain ⟨bb, hbb, h⟩ := bind_some_inv h
        injection h with h; subst h
        obtain ⟨k0, k1, k2⟩ := key bb hbb
        exact ⟨_, by simp only [Sem.run_bind, k0, Result.andThen_ok]; exact k1, rfl⟩
      · obtain ⟨bb, hbb, h⟩ := bind_some_inv h
        injection h with h; subst h
        obtain ⟨k0, k1, k2⟩ := key bb hbb
        exact ⟨_, by simp only [Sem.run_bind, k0, Result.andThen_ok]; exact k2, rfl⟩
      · cases h
    · cases h

section
variable {en : Env} {NG : Nat} {W : World → Prop} {st : St} {o : Oper}

theorem sim_binOp {op : BinOp} {t : TypeId} {x y : Operand} {yt : TypeId} (ho : o.op = .binOp op t x y yt) {act : PAct} (h : presolve en st o some = some act) : Sim en NG W st o act := by
  simp only [presolve, ho] at h
  rw [pbin_nat] at h
  obtain ⟨v, hv, h⟩ := bind_some_inv h
  injection h with h
  subst h
  refine sim_same fun M0 a M β κ hI hG _ => ?_
  obtain ⟨u, h1, h2⟩ := pbin_ok (w := M.w) hv (hI.ev hG t x).1 (hI.ev hG t y).1 (fun c hc => by subst hc; rfl)
  refine ⟨u, ?_, h2, .inl rfl⟩
  simp only [execOp, ho]
  rw [Sem.run_bind, h1]
  rfl

theorem pun_ok {P : Program} {w : World} {M : Mem} {β : Nat → Option Nat} {op : UnOp} {X v : PV} {a : Value} (h : pun op X some = some v) (hx : RelS M β X a) : ∃ u, (Op.unary op a).run P w = .ok u w ∧ RelS M β v u := by
  unfold pun at h
  split at h <;> simp only [Option.some.injEq, reduceCtorEq] at h <;> subst h
  · obtain rfl := rel_int hx
    exact ⟨_, by simp [Op.unary, Op.intArith], rfl⟩
  · obtain rfl := rel_int hx
    exact ⟨_, by simp [Op.unary, Op.intBits], rfl⟩
  · obtain rfl := rel_bool hx
    exact ⟨_, by simp [Op.unary], rfl⟩
theorem sim_unOp {op : UnOp} {t : TypeId} {x : Operand} (ho : o.op = .unOp op t x) {act : PAct} (h : presolve en st o some = some act) : Sim en NG W st o act := by
  simp only [presolve, ho] at h
  rw [pun_nat] at h
  obtain ⟨v, hv, h⟩ := bind_some_inv h
  injection h with h
  subst h
  refine sim_same fun M0 a M β κ hI hG _ => ?_
  obtain ⟨u, h1, h2⟩ := pun_ok (P := en.P) (w := M.w) hv (hI.ev hG t x).1
  exact ⟨u, by simp [execOp, ho, h1], h2, .inl rfl⟩

/-! ### slices, fields, indexes -/
theorem pbound_ok {P : Program} {w : World} {X : PV} {m k : Nat} {a : Value} {M : Mem} {β : Nat → Option Nat} (h : pbound X m some = some k) (hx : RelS M β X a) (y : Nat) (hy : m ≤ y) (code : BoundsCode) : (Instr.sliceBound a y code).run P w = .ok k w ∧ k ≤ m := by
  unfold pbound at h
  split at h
  · obtain rfl := rel_int hx
    rename_i kk i
    obtain ⟨hb, h⟩ := bif_inv h
    injection h with h
    simp at hb
    subst h
    refine ⟨?_, by omega⟩
    have h1 : 0 ≤ i ∧ i ≤ (y : Int) := by omega
    simp [Instr.sliceBound, asIntOf, h1]
  · cases h

end

theorem sb_none {P : Program} {w : World} {lo' hi' : Option Value} {b : Bool} {n c l h : Nat} (hhi : ∀ v, hi' = some v → ∀ code, (Instr.sliceBound v c code).run P w = .ok h w) (hhi0 : hi' = none → h = n)
    (hlo : ∀ v, lo' = some v → ∀ code, (Instr.sliceBound v h code).run P w = .ok l w) (hlo0 : lo' = none → l = 0) : (Instr.sliceBounds b n c lo' hi' none).run P w = .ok (l, h, c) w := by
  cases lo' with
  | none =>
    cases hi' with
    | none => simp [Instr.sliceBounds, hhi0 rfl, hlo0 rfl]
    | some v => simp [Instr.sliceBounds, hhi v rfl, hlo0 rfl]
  | some u =>
    cases hi' with
    | none => have := hhi0 rfl; subst this; simp [Instr.sliceBounds, hlo u rfl]
    | some v => simp [Instr.sliceBounds, hhi v rfl, hlo u rfl]
theorem sb_some {P : Program} {w : World} {lo' : Option Value} {v x : Value} {b : Bool} {n c l h m : Nat} (hmx : ∀ code, (Instr.sliceBound x c code).run P w = .ok m w) (hhi : ∀ code, (Instr.sliceBound v m code).run P w = .ok h w)
    (hlo : ∀ v, lo' = some v → ∀ code, (Instr.sliceBound v h code).run P w = .ok l w) (hlo0 : lo' = none → l = 0) : (Instr.sliceBounds b n c lo' (some v) (some x)).run P w = .ok (l, h, m) w := by
  cases lo' with
  | none => simp [Instr.sliceBounds, hmx, hhi, hlo0 rfl]
  | some u => simp [Instr.sliceBounds, hmx, hhi, hlo u rfl]

section
variable {en : Env} {NG : Nat} {W : World → Prop} {st : St} {o : Oper}
/-- an operand's bound -/
theorem op_bound {M0 : Mem} {a : Act} {M : Mem} {β κ : Nat → Option Nat} (hI : Inv NG M0 st a M β κ) (hG : GOK en M0) {y : Option Operand} {d m k c : Nat} (hmc : m ≤ c)
    (h : pboundO (y.map fun y => (ev en st 0 y).1) d m some = some k) : (∀ v, (y.map a.eval) = some v → ∀ code, (Instr.sliceBound v c code).run en.P M.w = .ok k M.w) ∧ ((y.map a.eval) = none → k = d) ∧ (k ≤ m ∨ k = d) := by
  cases y with
  | none =>
    simp only [Option.map_none, pboundO, Option.some.injEq] at h
    exact ⟨by simp, fun _ => h.symm, .inr h.symm⟩
  | some y =>
    simp only [Option.map_some, pboundO] at h
    have := fun code => pbound_ok (P := en.P) (w := M.w) h (hI.ev hG 0 y).1 c hmc code
    refine ⟨fun v hv code => ?_, by simp, .inl (this .index).2⟩
    simp only [Option.map_some, Option.some.injEq] at hv
    rw [← hv]
    exact (this code).1

theorem str_extract (s : List UInt8) (l h : Nat) : (⟨s.toArray⟩ : ByteArray).extract l h = ⟨((s.take h).drop l).toArray⟩ := by
  rw [ByteArray.extract_mk, List.drop_take]

theorem szOf_run {P : Program} {e : TypeId} {w : World} {n : Nat} (h : szOf P e = n) (hp : 0 < n) : (sizeOf e).run P w = .ok n w := by
  unfold szOf at h
  cases hi : P.info? e with
  | none => rw [hi] at h; simp at h; omega
  | some i => rw [hi] at h; simp at h; simp [sizeOf, typeInfo, hi, h]
theorem addr_add (b o k : Nat) : (⟨b, o, none⟩ : Addr).add k = ⟨b, o + k, none⟩ := by
  unfold Addr.add
  split
  · rename_i h; subst h; rfl
  · rfl

/-- a piece of a slice -/
theorem rel_piece {M : Mem} {nl : Option Bool} {sz n : Nat} {cells : List PV} {A : Option Addr} {c l h m : Nat} (hr : RelD M (.sl nl sz n cells) (.slice A n c)) (hlh : l ≤ h) (hhn : h ≤ n) (hhm : h ≤ m) (hmc : m ≤ c) :
    RelD M (.sl nl sz (h - l) ((cells.take (h * sz)).drop (l * sz))) (.slice (if m = l then A else A.map (·.add (l * sz))) (h - l) (m - l)) := by
  simp only [RelD] at hr ⊢
  obtain ⟨A', c', vs, he, h1, h2, h3, h4, h5, h6, h7⟩ := hr
  injection he with e1 e2 e3
  subst e1; subst e3
  have hle : h * sz ≤ cells.length := by rw [h5]; exact Nat.mul_le_mul_right _ hhn
  have hll : l * sz ≤ h * sz := Nat.mul_le_mul_right _ hlh
  refine ⟨_, _, (vs.take (h * sz)).drop (l * sz), rfl, by omega, by omega, ?_, ?_, ?_, (h6.take _).drop _, ?_⟩
  · intro b hb
    rw [← h3 b hb]
    split
    · rfl
    · cases A <;> rfl
  · intro hn
    split at hn
    · omega
    · have : A = none := by cases A <;> simp_all
      have := h4 this
      omega
  · rw [List.length_drop, List.length_take, Nat.min_eq_left hle, ← Nat.sub_mul]
  · rcases h7 with h7 | ⟨b, o, e, h7⟩
    · exact .inl (by rw [h7]; simp)
    · by_cases hml : m = l
      · left
        have hl : h = l := by omega
        rw [hl]
        simp
      · right
        refine ⟨b, o + l * sz, ?_, (h7.take _).drop _⟩
        rw [if_neg hml, e]
        simp only [Option.map_some, addr_add]

theorem sim_slice {t : TypeId} {x : Operand} {lo hi mx : Option Operand} (ho : o.op = .slice t x lo hi mx) (hinf : ∀ e, en.P.underlying t = some (.slice e) → (en.P.info? e).isSome = true) {act : PAct} (h : presolve en st o some = some act) : Sim en NG W st o act := by
  simp only [presolve, ho] at h
  rw [pslice_nat] at h
  obtain ⟨v, hv, h⟩ := bind_some_inv h
  injection h with h
  subst h
  refine sim_same fun M0 a M β κ hI hG _ => ?_
  have hx := (hI.ev hG t x).1
  unfold pslice at hv
  split at hv
  · rename_i s ht hs
    rw [hs] at hx
    have hx := rel_str hx
    cases mx with
    | some m => simp at hv
    | none =>
      simp only [Option.map_none] at hv
      rw [pboundO_nat] at hv
      obtain ⟨hh, k1, hv⟩ := bind_some_inv hv
      rw [pboundO_nat] at hv
      obtain ⟨ll, k2, hv⟩ := bind_some_inv hv
      injection hv with hv
      subst hv
      obtain ⟨a1, a2, a3⟩ := op_bound hI hG (Nat.le_refl _) k1
      obtain ⟨b1, b2, _⟩ := op_bound hI hG (Nat.le_refl _) k2
      have hb := sb_none (b := false) (n := s.length) a1 a2 b1 b2
      refine ⟨.string ((⟨s.toArray⟩ : ByteArray).extract ll hh), ?_, ?_, .inl rfl⟩
      · have e : (⟨s.toArray⟩ : ByteArray).size = s.length := by simp [ByteArray.size]
        simp [execOp, ho, hx, Instr.sliceAt, Instr.slice, run_und ht, e, hb]
      · show RelD M (.str _) _
        simp only [RelD, str_extract]
  · rename_i e nl sz n cells ht hs
    rw [hs] at hx
    obtain ⟨A, c, hAc⟩ : ∃ A c, a.eval x = .slice A n c := by
      have hx' : RelD M (.sl nl sz n cells) (a.eval x) := hx
      simp only [RelD] at hx'
      obtain ⟨A, c, _, e, _⟩ := hx'
      exact ⟨A, c, e⟩
    have hx' : RelD M (.sl nl sz n cells) (.slice A n c) := by rw [← hAc]; exact hx
    have hnc : n ≤ c := by
      simp only [RelD] at hx'
      obtain ⟨A', c', vs, he, h1, _⟩ := hx'
      injection he with _ _ e3
      omega
    obtain ⟨hsz, hv⟩ := ite_inv hv
    obtain ⟨i, hi'⟩ := Option.isSome_iff_exists.1 (hinf e ht)
    have hsize := fun w => (sizeOf_run (w := w) hi').trans (by rw [hsz])
    cases mx with
    | none =>
      simp only [Option.map_none] at hv
      rw [pboundO_nat] at hv
      obtain ⟨hh, k1, hv⟩ := bind_some_inv hv
      rw [pboundO_nat] at hv
      obtain ⟨ll, k2, hv⟩ := bind_some_inv hv
      injection hv with hv
      subst hv
      obtain ⟨a1, a2, a3⟩ := op_bound hI hG hnc k1
      obtain ⟨b1, b2, b3⟩ := op_bound hI hG (Nat.le_refl _) k2
      have hb := sb_none (b := true) (n := n) a1 a2 b1 b2
      have hhn : hh ≤ n := by omega
      refine ⟨.slice (if c = ll then A else A.map (·.add (ll * sz))) (hh - ll) (c - ll), ?_, RelS.of_data (rel_piece hx' (by omega) hhn (by omega) (Nat.le_refl _)), .inl rfl⟩
      simp [execOp, ho, hAc, Instr.sliceAt, Instr.slice, run_und ht, hb, hsize]
    | some m =>
      simp only [Option.map_some] at hv
      rw [pbound_nat] at hv
      obtain ⟨mm, k0, hv⟩ := bind_some_inv hv
      rw [pboundO_nat] at hv
      obtain ⟨hh, k1, hv⟩ := bind_some_inv hv
      rw [pboundO_nat] at hv
      obtain ⟨ll, k2, hv⟩ := bind_some_inv hv
      injection hv with hv
      subst hv
      have c1 := fun code => pbound_ok (P := en.P) (w := M.w) k0 (hI.ev hG 0 m).1 c hnc code
      cases hi with
      | none => simp [pboundO, pbound] at k1
      | some hi =>
        obtain ⟨a1, a2, a3⟩ := op_bound (y := some hi) hI hG (Nat.le_refl _) k1
        obtain ⟨b1, b2, b3⟩ := op_bound hI hG (Nat.le_refl _) k2
        have hmn := (c1 .index).2
        have hb := sb_some (b := true) (n := n) (fun cd => (c1 cd).1) (a1 (a.eval hi) rfl) b1 b2
        have hhm : hh ≤ mm := by omega
        refine ⟨.slice (if mm = ll then A else A.map (·.add (ll * sz))) (hh - ll) (mm - ll), ?_, RelS.of_data (rel_piece hx' (by omega) (by omega) hhm (by omega)), ?_⟩
        · simp [execOp, ho, hAc, Instr.sliceAt, Instr.slice, run_und ht, hb, hsize]
        · by_cases e : hh = mm
          · subst e
            exact .inr ⟨_, _, _, _, rfl, .inl ⟨(if hh = ll then A else A.map (·.add (ll * sz))), hh - ll, rfl⟩⟩
          · left; simp [e]
  · cases hv
end

end Go.Proofs.YtllpobcecingiaaGreatDoor
