/-
  slices.Delete in place (walked; printed by wip/gen/rb.py).
-/
import Derived.Test.YtmacjkiamejcnaaSl
import Derived.Deep.LoopGhost
import Derived.Deep.RegionLaw
import Derived.Lib.SliceRun
import Derived.Shelf.RegionOpenPlain
set_option linter.unusedVariables false
set_option linter.unusedSimpArgs false
set_option maxRecDepth 1000000
namespace Go.Proofs.Ytmacjkiamejcnaa
open Go.RowKit Go.Lib

set_option maxHeartbeats 4000000 in
theorem delete_s (z : Value) (hz : Try.t9.zero = some z) (blk off cap i j : Nat) (cs : List Value) (w : World) (hH : ∀ t u, cs[t]? = some u → w.cell? ⟨blk, off + t, none⟩ = some u) (hF : ∀ t, w.frozen? ⟨blk, off + t, none⟩ = false) (h1 : ∀ u ∈ cs, u.oneCell' = true) (hcap : cs.length ≤ cap) (hm : cap ≤ 9223372036854775807) (hij : i < j) (hj : j ≤ cs.length) :
    Calls Try.prog 87 #[.slice (some ⟨blk, off, none⟩) cs.length cap, .int .i64 i, .int .i64 j] w fun e w' => e = .returned (.slice (some ⟨blk, off, none⟩) (i + (cs.length - j)) cap) ∧ w' = (w.drew.setCells blk (off + i * 1) (cs.drop j)).setCells blk (off + (i + (cs.length - j))) (List.replicate (cs.length - (i + (cs.length - j))) z) := by
  have t22 := Try.underlying22
  have mixed := Go.Proofs.Ytmacjkiamejcnaa.mixed
  obtain ⟨i0, hi0, hz1⟩ : ∃ i0, Try.prog.info? 9 = some i0 ∧ i0.size = 1 := ⟨Try.t9, by kernel_rfl, by kernel_rfl⟩
  obtain ⟨v3, v3c, v3o⟩ : (∀ w, (zeroValue 9).run Try.prog w = .ok z w) ∧ z.cells = #[z] ∧ z.oneCell' = true := ⟨by
    have : z = (.string ByteArray.empty) := by
      have h : Try.t9.zero = some (.string ByteArray.empty) := by kernel_rfl
      rw [h] at hz; injection hz with hz; exact hz.symm
    subst this
    exact Try.zeroValue9, by
    have h : Try.t9.zero = some (.string ByteArray.empty) := by kernel_rfl
    rw [h] at hz; injection hz with hz; subst hz; exact ⟨rfl, rfl⟩⟩
  obtain ⟨n, hn⟩ : ∃ n, cs.length = n := ⟨_, rfl⟩
  rw [hn] at hcap hj ⊢
  have hlt : i < j := hij
  obtain ⟨news, hnews⟩ : ∃ news, news = cs.drop j := ⟨_, rfl⟩
  have hlen : news.length = n - j := by rw [hnews]; simp [hn]
  have hget : ∀ t, t < n - j → news[t]? = cs[j + t]? := by
    intro t ht
    rw [hnews, List.getElem?_drop]
  rw [← hnews]
  obtain ⟨A, hA, hsrc⟩ : ∃ A : Addr, (if cap = j then some (⟨blk, off, none⟩ : Addr) else some ⟨blk, off + j, none⟩) = some A ∧ Hid (∀ t u, news[t]? = some u → w.drew.cell? (A.add t) = some u) := by
    by_cases h : cap = j
    · refine ⟨⟨blk, off, none⟩, by simp [h], fun t u hu => ?_⟩
      have h0 : news.length = 0 := by rw [hlen]; omega
      rw [List.length_eq_zero_iff.1 h0] at hu
      simp at hu
    · refine ⟨⟨blk, off + j, none⟩, by simp [h], fun t u hu => ?_⟩
      have ht : t < n - j := by
        have := (List.getElem?_eq_some_iff.1 hu).1
        rwa [hlen] at this
      rw [hget t ht] at hu
      rw [Addr.add_lit, show off + j + t = off + (j + t) by omega]
      exact hH (j + t) u hu
  have hS : ∀ t, t < n → (w.cell? ⟨blk, off + t, none⟩).isSome = true := fun t ht => by
    rw [hH t _ (List.getElem?_eq_getElem (by omega))]; rfl
  have s1 : Hid (news.length = (n - j) * 1) := by rw [Nat.mul_one]; exact hlen
  have s2 : Hid (∀ u ∈ news, u.oneCell' = true) := fun u hu => h1 u (List.mem_of_mem_drop (hnews ▸ hu))
  have s3 : Hid (∀ t, t < news.length → (w.drew.cell? ⟨blk, off + i * 1 + t, none⟩).isSome = true ∧ w.drew.frozen? ⟨blk, off + i * 1 + t, none⟩ = false) := by
    intro t ht
    rw [hlen] at ht
    rw [Nat.mul_one, Nat.add_assoc]
    exact ⟨hS (i + t) (by omega), hF (i + t)⟩
  obtain ⟨W1, hW1⟩ : ∃ W1, W1 = w.drew.setCells blk (off + i * 1) news := ⟨_, rfl⟩
  have hS1 : ∀ t, t < n → (W1.cell? ⟨blk, off + t, none⟩).isSome = true := fun t ht => by
    rw [hW1]
    by_cases ho : t < i ∨ i + news.length ≤ t
    · rw [World.cell?_setCells_out blk _ _ _ _ (fun _ _ => by show off + t < off + i * 1 ∨ off + i * 1 + news.length ≤ off + t; omega)]
      exact hS t ht
    · obtain ⟨q, rfl⟩ : ∃ q, t = i + q := ⟨t - i, by omega⟩
      have hq : q < news.length := by omega
      have := World.cell?_setCells_in blk news (off + i * 1) w.drew (fun x hx => (s3 x hx).1) q hq
      rw [show off + (i + q) = off + i * 1 + q by omega, this]; rfl
  have hF1 : ∀ t, W1.frozen? ⟨blk, off + t, none⟩ = false := fun t => by rw [hW1, World.frozen?_setCells]; exact hF t
  have hcl : ∀ ty, (Builtin.clear_ #[22] ty #[.slice (some ⟨blk, off + (i + (n - j)), none⟩) (n - (i + (n - j))) (cap - (i + (n - j)))]).run Try.prog W1 = .ok (.tuple #[]) (W1.setCells blk (off + (i + (n - j))) (List.replicate (n - (i + (n - j))) z)) :=
    fun ty => Lib.run_clear_slice W1 _ _ ty _ t22 v3 v3c v3o blk (off + (i + (n - j))) _ _ (by omega) (fun t ht => by rw [show off + (i + (n - j)) + t = off + (i + (n - j) + t) by omega]; exact hS1 _ (by omega)) (fun t ht => by rw [show off + (i + (n - j)) + t = off + (i + (n - j) + t) by omega]; exact hF1 _)
  have hW : Hid (W1 = w.drew.setCells blk (off + i * 1) news) := hW1
  rw [← hW1]
  have hic : i ≤ cap := by omega
  have hjc : j ≤ cap := by omega
  clear hW1 hH hget hnews hlen hS hS1 hF hF1 hn h1 hz v3 v3c v3o
  go_enter Try.func87, Try.ntmps87
  go_wp2_with fail
  go_region_law_o (refine step_append_room rfl (.tmp 22) (.tmp 25) 22 rfl 9 i0 1 t22 hi0 hz1 blk off i cap (by simp [Act.eval, Act.put]) A (n - j) (cap - j) news (by simp [Act.eval, Act.put]) s1.out hsrc.out s2.out (by omega) s3.out ?_; rw [← hW.out])
  go_wp2
  go_ret
  exact ⟨rfl, rfl⟩
def p_delete_s : CFn := ⟨fun sz n cells xs kk => match xs with | [.int .i64 i, .int .i64 j] => bif decide (sz = 1) && (decide (cells.length = n) && (decide (0 ≤ i) && (decide (i < j) && decide (j ≤ n)))) then kk (i.toNat + (n - j.toNat)) (cells.take i.toNat ++ cells.drop j.toNat) else none | _ => none⟩
theorem cok_delete_s {NG : Nat} {W : World → Prop} : COK NG W 87 p_delete_s where
  nat := by
    intro R sz n cells xs kk
    simp only [p_delete_s]
    split
    · rename_i i j
      rcases (decide (sz = 1) && (decide (cells.length = n) && (decide (0 ≤ i) && (decide (i < j) && decide (j ≤ n))))) with _ | _ <;> rfl
    · rfl
  call := by
    intro M b c e arr sz n cells xs vs n' cells' hW hng hG hrow hr hU hNG hnc hcm hsz hrT h
    simp only [p_delete_s] at h
    split at h
    · rename_i i j
      rcases hb : (decide (sz = 1) && (decide (cells.length = n) && (decide (0 ≤ i) && (decide (i < j) && decide (j ≤ n))))) with _ | _ <;> rw [hb] at h
      · cases h
      simp only [cond_true, Option.some.injEq, Prod.mk.injEq] at h
      obtain ⟨rfl, rfl⟩ := h
      simp only [Bool.and_eq_true, decide_eq_true_eq] at hb
      obtain ⟨b1, b2, b3, b4, b5⟩ := hb
      obtain ⟨u1, u2, rfl, g1, g2⟩ := relT2 hrT
      simp only [RelD] at g1 g2
      subst g1 g2
      obtain ⟨i, rfl⟩ : ∃ m : Nat, i = (m : Int) := ⟨i.toNat, by omega⟩
      obtain ⟨j, rfl⟩ : ∃ m : Nat, j = (m : Int) := ⟨j.toNat, by omega⟩
      have hl : arr.length = n := by rw [← hr.length, b2]
      have hij : i < j := by omega
      have hj : j ≤ n := by omega
      subst b1
      simp only [Int.toNat_natCast]
      have key := delete_s (.string ByteArray.empty) (by kernel_rfl) b 0 c i j arr M.w (fun t u hu => by rw [Nat.zero_add]; exact hrow.cell hu) (fun t => rowP_fz hrow _) hr.one (by omega) (by unfold maxLen at hcm; omega) hij (by omega)
      rw [hl] at key
      refine .inr ⟨?_, key.mono ?_⟩
      · show (callFunc _ _).run Try.prog M.w = _
        simp [callFunc, Try.func87]
        rw [if_neg (by decide), if_neg (by decide)]
      · rintro e' w' ⟨rfl, rfl⟩
        have hU' : Upd b M.w ((M.w.drew.setCells b (0 + i * 1) (arr.drop j)).setCells b (0 + (i + (n - j))) (List.replicate (n - (i + (n - j))) (.string ByteArray.empty))) := ((Upd.refl b M.w).drew.step _ _).step _ _
        have hm := hU'.move hU
        exact ⟨_, rfl, M.U, hm, b, c, e, arr.take i ++ arr.drop j, rfl, .inl rfl, del_row hrow hl hij hj _, ((hr.take i).append (hr.drop j)).mono hm.le, hU, by omega, hcm, hU'.sized hsz⟩
    · cases h

set_option maxHeartbeats 4000000 in
theorem delete_i (z : Value) (hz : Try.t3.zero = some z) (blk off cap i j : Nat) (cs : List Value) (w : World) (hH : ∀ t u, cs[t]? = some u → w.cell? ⟨blk, off + t, none⟩ = some u) (hF : ∀ t, w.frozen? ⟨blk, off + t, none⟩ = false) (h1 : ∀ u ∈ cs, u.oneCell' = true) (hcap : cs.length ≤ cap) (hm : cap ≤ 9223372036854775807) (hij : i < j) (hj : j ≤ cs.length) :
    Calls Try.prog 88 #[.slice (some ⟨blk, off, none⟩) cs.length cap, .int .i64 i, .int .i64 j] w fun e w' => e = .returned (.slice (some ⟨blk, off, none⟩) (i + (cs.length - j)) cap) ∧ w' = (w.drew.setCells blk (off + i * 1) (cs.drop j)).setCells blk (off + (i + (cs.length - j))) (List.replicate (cs.length - (i + (cs.length - j))) z) := by
  have t22 := Try.underlying50
  have mixed := Go.Proofs.Ytmacjkiamejcnaa.mixed
  obtain ⟨i0, hi0, hz1⟩ : ∃ i0, Try.prog.info? 3 = some i0 ∧ i0.size = 1 := ⟨Try.t3, by kernel_rfl, by kernel_rfl⟩
  obtain ⟨v3, v3c, v3o⟩ : (∀ w, (zeroValue 3).run Try.prog w = .ok z w) ∧ z.cells = #[z] ∧ z.oneCell' = true := ⟨by
    have : z = (.int .i64 0) := by
      have h : Try.t3.zero = some (.int .i64 0) := by kernel_rfl
      rw [h] at hz; injection hz with hz; exact hz.symm
    subst this
    exact Try.zeroValue3, by
    have h : Try.t3.zero = some (.int .i64 0) := by kernel_rfl
    rw [h] at hz; injection hz with hz; subst hz; exact ⟨rfl, rfl⟩⟩
  obtain ⟨n, hn⟩ : ∃ n, cs.length = n := ⟨_, rfl⟩
  rw [hn] at hcap hj ⊢
  have hlt : i < j := hij
  obtain ⟨news, hnews⟩ : ∃ news, news = cs.drop j := ⟨_, rfl⟩
  have hlen : news.length = n - j := by rw [hnews]; simp [hn]
  have hget : ∀ t, t < n - j → news[t]? = cs[j + t]? := by
    intro t ht
    rw [hnews, List.getElem?_drop]
  rw [← hnews]
  obtain ⟨A, hA, hsrc⟩ : ∃ A : Addr, (if cap = j then some (⟨blk, off, none⟩ : Addr) else some ⟨blk, off + j, none⟩) = some A ∧ Hid (∀ t u, news[t]? = some u → w.drew.cell? (A.add t) = some u) := by
    by_cases h : cap = j
    · refine ⟨⟨blk, off, none⟩, by simp [h], fun t u hu => ?_⟩
      have h0 : news.length = 0 := by rw [hlen]; omega
      rw [List.length_eq_zero_iff.1 h0] at hu
      simp at hu
    · refine ⟨⟨blk, off + j, none⟩, by simp [h], fun t u hu => ?_⟩
      have ht : t < n - j := by
        have := (List.getElem?_eq_some_iff.1 hu).1
        rwa [hlen] at this
      rw [hget t ht] at hu
      rw [Addr.add_lit, show off + j + t = off + (j + t) by omega]
      exact hH (j + t) u hu
  have hS : ∀ t, t < n → (w.cell? ⟨blk, off + t, none⟩).isSome = true := fun t ht => by
    rw [hH t _ (List.getElem?_eq_getElem (by omega))]; rfl
  have s1 : Hid (news.length = (n - j) * 1) := by rw [Nat.mul_one]; exact hlen
  have s2 : Hid (∀ u ∈ news, u.oneCell' = true) := fun u hu => h1 u (List.mem_of_mem_drop (hnews ▸ hu))
  have s3 : Hid (∀ t, t < news.length → (w.drew.cell? ⟨blk, off + i * 1 + t, none⟩).isSome = true ∧ w.drew.frozen? ⟨blk, off + i * 1 + t, none⟩ = false) := by
    intro t ht
    rw [hlen] at ht
    rw [Nat.mul_one, Nat.add_assoc]
    exact ⟨hS (i + t) (by omega), hF (i + t)⟩
  obtain ⟨W1, hW1⟩ : ∃ W1, W1 = w.drew.setCells blk (off + i * 1) news := ⟨_, rfl⟩
  have hS1 : ∀ t, t < n → (W1.cell? ⟨blk, off + t, none⟩).isSome = true := fun t ht => by
    rw [hW1]
    by_cases ho : t < i ∨ i + news.length ≤ t
    · rw [World.cell?_setCells_out blk _ _ _ _ (fun _ _ => by show off + t < off + i * 1 ∨ off + i * 1 + news.length ≤ off + t; omega)]
      exact hS t ht
    · obtain ⟨q, rfl⟩ : ∃ q, t = i + q := ⟨t - i, by omega⟩
      have hq : q < news.length := by omega
      have := World.cell?_setCells_in blk news (off + i * 1) w.drew (fun x hx => (s3 x hx).1) q hq
      rw [show off + (i + q) = off + i * 1 + q by omega, this]; rfl
  have hF1 : ∀ t, W1.frozen? ⟨blk, off + t, none⟩ = false := fun t => by rw [hW1, World.frozen?_setCells]; exact hF t
  have hcl : ∀ ty, (Builtin.clear_ #[50] ty #[.slice (some ⟨blk, off + (i + (n - j)), none⟩) (n - (i + (n - j))) (cap - (i + (n - j)))]).run Try.prog W1 = .ok (.tuple #[]) (W1.setCells blk (off + (i + (n - j))) (List.replicate (n - (i + (n - j))) z)) :=
    fun ty => Lib.run_clear_slice W1 _ _ ty _ t22 v3 v3c v3o blk (off + (i + (n - j))) _ _ (by omega) (fun t ht => by rw [show off + (i + (n - j)) + t = off + (i + (n - j) + t) by omega]; exact hS1 _ (by omega)) (fun t ht => by rw [show off + (i + (n - j)) + t = off + (i + (n - j) + t) by omega]; exact hF1 _)
  have hW : Hid (W1 = w.drew.setCells blk (off + i * 1) news) := hW1
  rw [← hW1]
  have hic : i ≤ cap := by omega
  have hjc : j ≤ cap := by omega
  clear hW1 hH hget hnews hlen hS hS1 hF hF1 hn h1 hz v3 v3c v3o
  go_enter Try.func88, Try.ntmps88
  go_wp2_with fail
  go_region_law_o (refine step_append_room rfl (.tmp 22) (.tmp 25) 50 rfl 3 i0 1 t22 hi0 hz1 blk off i cap (by simp [Act.eval, Act.put]) A (n - j) (cap - j) news (by simp [Act.eval, Act.put]) s1.out hsrc.out s2.out (by omega) s3.out ?_; rw [← hW.out])
  go_wp2
  go_ret
  exact ⟨rfl, rfl⟩
def p_delete_i : CFn := ⟨fun sz n cells xs kk => match xs with | [.int .i64 i, .int .i64 j] => bif decide (sz = 1) && (decide (cells.length = n) && (decide (0 ≤ i) && (decide (i < j) && decide (j ≤ n)))) then kk (i.toNat + (n - j.toNat)) (cells.take i.toNat ++ cells.drop j.toNat) else none | _ => none⟩
theorem cok_delete_i {NG : Nat} {W : World → Prop} : COK NG W 88 p_delete_i where
  nat := by
    intro R sz n cells xs kk
    simp only [p_delete_i]
    split
    · rename_i i j
      rcases (decide (sz = 1) && (decide (cells.length = n) && (decide (0 ≤ i) && (decide (i < j) && decide (j ≤ n))))) with _ | _ <;> rfl
    · rfl
  call := by
    intro M b c e arr sz n cells xs vs n' cells' hW hng hG hrow hr hU hNG hnc hcm hsz hrT h
    simp only [p_delete_i] at h
    split at h
    · rename_i i j
      rcases hb : (decide (sz = 1) && (decide (cells.length = n) && (decide (0 ≤ i) && (decide (i < j) && decide (j ≤ n))))) with _ | _ <;> rw [hb] at h
      · cases h
      simp only [cond_true, Option.some.injEq, Prod.mk.injEq] at h
      obtain ⟨rfl, rfl⟩ := h
      simp only [Bool.and_eq_true, decide_eq_true_eq] at hb
      obtain ⟨b1, b2, b3, b4, b5⟩ := hb
      obtain ⟨u1, u2, rfl, g1, g2⟩ := relT2 hrT
      simp only [RelD] at g1 g2
      subst g1 g2
      obtain ⟨i, rfl⟩ : ∃ m : Nat, i = (m : Int) := ⟨i.toNat, by omega⟩
      obtain ⟨j, rfl⟩ : ∃ m : Nat, j = (m : Int) := ⟨j.toNat, by omega⟩
      have hl : arr.length = n := by rw [← hr.length, b2]
      have hij : i < j := by omega
      have hj : j ≤ n := by omega
      subst b1
      simp only [Int.toNat_natCast]
      have key := delete_i (.int .i64 0) (by kernel_rfl) b 0 c i j arr M.w (fun t u hu => by rw [Nat.zero_add]; exact hrow.cell hu) (fun t => rowP_fz hrow _) hr.one (by omega) (by unfold maxLen at hcm; omega) hij (by omega)
      rw [hl] at key
      refine .inr ⟨?_, key.mono ?_⟩
      · show (callFunc _ _).run Try.prog M.w = _
        simp [callFunc, Try.func88]
        rw [if_neg (by decide), if_neg (by decide)]
      · rintro e' w' ⟨rfl, rfl⟩
        have hU' : Upd b M.w ((M.w.drew.setCells b (0 + i * 1) (arr.drop j)).setCells b (0 + (i + (n - j))) (List.replicate (n - (i + (n - j))) (.int .i64 0))) := ((Upd.refl b M.w).drew.step _ _).step _ _
        have hm := hU'.move hU
        exact ⟨_, rfl, M.U, hm, b, c, e, arr.take i ++ arr.drop j, rfl, .inl rfl, del_row hrow hl hij hj _, ((hr.take i).append (hr.drop j)).mono hm.le, hU, by omega, hcm, hU'.sized hsz⟩
    · cases h

set_option maxHeartbeats 4000000 in
theorem delete_n (z : Value) (hz : Try.t93.zero = some z) (blk off cap i j : Nat) (cs : List Value) (w : World) (hH : ∀ t u, cs[t]? = some u → w.cell? ⟨blk, off + t, none⟩ = some u) (hF : ∀ t, w.frozen? ⟨blk, off + t, none⟩ = false) (h1 : ∀ u ∈ cs, u.oneCell' = true) (hcap : cs.length ≤ cap) (hm : cap ≤ 9223372036854775807) (hij : i < j) (hj : j ≤ cs.length) :
    Calls Try.prog 89 #[.slice (some ⟨blk, off, none⟩) cs.length cap, .int .i64 i, .int .i64 j] w fun e w' => e = .returned (.slice (some ⟨blk, off, none⟩) (i + (cs.length - j)) cap) ∧ w' = (w.drew.setCells blk (off + i * 1) (cs.drop j)).setCells blk (off + (i + (cs.length - j))) (List.replicate (cs.length - (i + (cs.length - j))) z) := by
  have t22 := Try.underlying99
  have mixed := Go.Proofs.Ytmacjkiamejcnaa.mixed
  obtain ⟨i0, hi0, hz1⟩ : ∃ i0, Try.prog.info? 93 = some i0 ∧ i0.size = 1 := ⟨Try.t93, by kernel_rfl, by kernel_rfl⟩
  obtain ⟨v3, v3c, v3o⟩ : (∀ w, (zeroValue 93).run Try.prog w = .ok z w) ∧ z.cells = #[z] ∧ z.oneCell' = true := ⟨by
    have : z = (.pointer none) := by
      have h : Try.t93.zero = some (.pointer none) := by kernel_rfl
      rw [h] at hz; injection hz with hz; exact hz.symm
    subst this
    exact Try.zeroValue93, by
    have h : Try.t93.zero = some (.pointer none) := by kernel_rfl
    rw [h] at hz; injection hz with hz; subst hz; exact ⟨rfl, rfl⟩⟩
  obtain ⟨n, hn⟩ : ∃ n, cs.length = n := ⟨_, rfl⟩
  rw [hn] at hcap hj ⊢
  have hlt : i < j := hij
  obtain ⟨news, hnews⟩ : ∃ news, news = cs.drop j := ⟨_, rfl⟩
  have hlen : news.length = n - j := by rw [hnews]; simp [hn]
  have hget : ∀ t, t < n - j → news[t]? = cs[j + t]? := by
    intro t ht
    rw [hnews, List.getElem?_drop]
  rw [← hnews]
  obtain ⟨A, hA, hsrc⟩ : ∃ A : Addr, (if cap = j then some (⟨blk, off, none⟩ : Addr) else some ⟨blk, off + j, none⟩) = some A ∧ Hid (∀ t u, news[t]? = some u → w.drew.cell? (A.add t) = some u) := by
    by_cases h : cap = j
    · refine ⟨⟨blk, off, none⟩, by simp [h], fun t u hu => ?_⟩
      have h0 : news.length = 0 := by rw [hlen]; omega
      rw [List.length_eq_zero_iff.1 h0] at hu
      simp at hu
    · refine ⟨⟨blk, off + j, none⟩, by simp [h], fun t u hu => ?_⟩
      have ht : t < n - j := by
        have := (List.getElem?_eq_some_iff.1 hu).1
        rwa [hlen] at this
      rw [hget t ht] at hu
      rw [Addr.add_lit, show off + j + t = off + (j + t) by omega]
      exact hH (j + t) u hu
  have hS : ∀ t, t < n → (w.cell? ⟨blk, off + t, none⟩).isSome = true := fun t ht => by
    rw [hH t _ (List.getElem?_eq_getElem (by omega))]; rfl
  have s1 : Hid (news.length = (n - j) * 1) := by rw [Nat.mul_one]; exact hlen
  have s2 : Hid (∀ u ∈ news, u.oneCell' = true) := fun u hu => h1 u (List.mem_of_mem_drop (hnews ▸ hu))
  have s3 : Hid (∀ t, t < news.length → (w.drew.cell? ⟨blk, off + i * 1 + t, none⟩).isSome = true ∧ w.drew.frozen? ⟨blk, off + i * 1 + t, none⟩ = false) := by
    intro t ht
    rw [hlen] at ht
    rw [Nat.mul_one, Nat.add_assoc]
    exact ⟨hS (i + t) (by omega), hF (i + t)⟩
  obtain ⟨W1, hW1⟩ : ∃ W1, W1 = w.drew.setCells blk (off + i * 1) news := ⟨_, rfl⟩
  have hS1 : ∀ t, t < n → (W1.cell? ⟨blk, off + t, none⟩).isSome = true := fun t ht => by
    rw [hW1]
    by_cases ho : t < i ∨ i + news.length ≤ t
    · rw [World.cell?_setCells_out blk _ _ _ _ (fun _ _ => by show off + t < off + i * 1 ∨ off + i * 1 + news.length ≤ off + t; omega)]
      exact hS t ht
    · obtain ⟨q, rfl⟩ : ∃ q, t = i + q := ⟨t - i, by omega⟩
      have hq : q < news.length := by omega
      have := World.cell?_setCells_in blk news (off + i * 1) w.drew (fun x hx => (s3 x hx).1) q hq
      rw [show off + (i + q) = off + i * 1 + q by omega, this]; rfl
  have hF1 : ∀ t, W1.frozen? ⟨blk, off + t, none⟩ = false := fun t => by rw [hW1, World.frozen?_setCells]; exact hF t
  have hcl : ∀ ty, (Builtin.clear_ #[99] ty #[.slice (some ⟨blk, off + (i + (n - j)), none⟩) (n - (i + (n - j))) (cap - (i + (n - j)))]).run Try.prog W1 = .ok (.tuple #[]) (W1.setCells blk (off + (i + (n - j))) (List.replicate (n - (i + (n - j))) z)) :=
    fun ty => Lib.run_clear_slice W1 _ _ ty _ t22 v3 v3c v3o blk (off + (i + (n - j))) _ _ (by omega) (fun t ht => by rw [show off + (i + (n - j)) + t = off + (i + (n - j) + t) by omega]; exact hS1 _ (by omega)) (fun t ht => by rw [show off + (i + (n - j)) + t = off + (i + (n - j) + t) by omega]; exact hF1 _)
  have hW : Hid (W1 = w.drew.setCells blk (off + i * 1) news) := hW1
  rw [← hW1]
  have hic : i ≤ cap := by omega
  have hjc : j ≤ cap := by omega
  clear hW1 hH hget hnews hlen hS hS1 hF hF1 hn h1 hz v3 v3c v3o
  go_enter Try.func89, Try.ntmps89
  go_wp2_with fail
  go_region_law_o (refine step_append_room rfl (.tmp 22) (.tmp 25) 99 rfl 93 i0 1 t22 hi0 hz1 blk off i cap (by simp [Act.eval, Act.put]) A (n - j) (cap - j) news (by simp [Act.eval, Act.put]) s1.out hsrc.out s2.out (by omega) s3.out ?_; rw [← hW.out])
  go_wp2
  go_ret
  exact ⟨rfl, rfl⟩
def p_delete_n : CFn := ⟨fun sz n cells xs kk => match xs with | [.int .i64 i, .int .i64 j] => bif decide (sz = 1) && (decide (cells.length = n) && (decide (0 ≤ i) && (decide (i < j) && decide (j ≤ n)))) then kk (i.toNat + (n - j.toNat)) (cells.take i.toNat ++ cells.drop j.toNat) else none | _ => none⟩
theorem cok_delete_n {NG : Nat} {W : World → Prop} : COK NG W 89 p_delete_n where
  nat := by
    intro R sz n cells xs kk
    simp only [p_delete_n]
    split
    · rename_i i j
      rcases (decide (sz = 1) && (decide (cells.length = n) && (decide (0 ≤ i) && (decide (i < j) && decide (j ≤ n))))) with _ | _ <;> rfl
    · rfl
  call := by
    intro M b c e arr sz n cells xs vs n' cells' hW hng hG hrow hr hU hNG hnc hcm hsz hrT h
    simp only [p_delete_n] at h
    split at h
    · rename_i i j
      rcases hb : (decide (sz = 1) && (decide (cells.length = n) && (decide (0 ≤ i) && (decide (i < j) && decide (j ≤ n))))) with _ | _ <;> rw [hb] at h
      · cases h
      simp only [cond_true, Option.some.injEq, Prod.mk.injEq] at h
      obtain ⟨rfl, rfl⟩ := h
      simp only [Bool.and_eq_true, decide_eq_true_eq] at hb
      obtain ⟨b1, b2, b3, b4, b5⟩ := hb
      obtain ⟨u1, u2, rfl, g1, g2⟩ := relT2 hrT
      simp only [RelD] at g1 g2
      subst g1 g2
      obtain ⟨i, rfl⟩ : ∃ m : Nat, i = (m : Int) := ⟨i.toNat, by omega⟩
      obtain ⟨j, rfl⟩ : ∃ m : Nat, j = (m : Int) := ⟨j.toNat, by omega⟩
      have hl : arr.length = n := by rw [← hr.length, b2]
      have hij : i < j := by omega
      have hj : j ≤ n := by omega
      subst b1
      simp only [Int.toNat_natCast]
      have key := delete_n (.pointer none) (by kernel_rfl) b 0 c i j arr M.w (fun t u hu => by rw [Nat.zero_add]; exact hrow.cell hu) (fun t => rowP_fz hrow _) hr.one (by omega) (by unfold maxLen at hcm; omega) hij (by omega)
      rw [hl] at key
      refine .inr ⟨?_, key.mono ?_⟩
      · show (callFunc _ _).run Try.prog M.w = _
        simp [callFunc, Try.func89]
        rw [if_neg (by decide), if_neg (by decide)]
      · rintro e' w' ⟨rfl, rfl⟩
        have hU' : Upd b M.w ((M.w.drew.setCells b (0 + i * 1) (arr.drop j)).setCells b (0 + (i + (n - j))) (List.replicate (n - (i + (n - j))) (.pointer none))) := ((Upd.refl b M.w).drew.step _ _).step _ _
        have hm := hU'.move hU
        exact ⟨_, rfl, M.U, hm, b, c, e, arr.take i ++ arr.drop j, rfl, .inl rfl, del_row hrow hl hij hj _, ((hr.take i).append (hr.drop j)).mono hm.le, hU, by omega, hcm, hU'.sized hsz⟩
    · cases h
end Go.Proofs.Ytmacjkiamejcnaa
