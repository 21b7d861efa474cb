/-
  put and remove of a tree's nodes: their contracts.
-/
import Derived.Test.YtmacjkiamejcnaaTv
set_option linter.unusedVariables false
set_option linter.unusedSimpArgs false
set_option maxRecDepth 100000
namespace Go.Proofs.Ytmacjkiamejcnaa
open Go.RowKit
def gPl (cs : List PV) (s : Ky) : Option (Int × Bool) := match cs with
  | [.sl kn 1 kl kc, .sl vn 1 vl vc, .sl (some ni) 1 il ic, .int .i64 c] => bif kc.all isStr && (decide (kc.length = kl) && (decide (0 < kl) && decide (kl ≤ 1000000))) then some (((placeI kc s : Nat) : Int), decide (placeI kc s < kl) && strAt kc (placeI kc s) == s) else none
  | _ => none
def gKd (cs : List PV) (s : Ky) : Option Int := match cs with
  | .sl _ 1 n keys :: _ => bif keys.all isStr && (decide (keys.length = n) && (decide (0 < n) && decide (n ≤ 1000000))) then some ((kidI keys s - 1 : Nat) : Int) else none
  | _ => none
theorem ok_placeT : FOK NGt Wt 73 (tPlace gPl) := by
  refine fok_weaken ok_place ?_ rfl ?_
  · intro R xs k
    simp only [tPlace]
    split
    · rw [obind_assoc]; rfl
    · rfl
  · intro xs r' h
    simp only [tPlace] at h
    split at h
    · obtain ⟨n, hn, h⟩ := bind_some_inv h
      injection h with h
      subst h
      unfold gPl at hn
      split at hn
      · obtain ⟨hb, hn⟩ := bif_inv hn
        injection hn with hn
        subst hn
        exact ⟨_, cond_t hb, Wk.refl _⟩
      · cases hn
    · cases h
theorem ok_kidT : FOK NGt Wt 74 (tKid gKd) := by
  refine fok_weaken ok_kid ?_ rfl ?_
  · intro R xs k
    simp only [tKid]
    split
    · rw [obind_assoc]; rfl
    · rfl
  · intro xs r' h
    simp only [tKid] at h
    split at h
    · obtain ⟨n, hn, h⟩ := bind_some_inv h
      injection h with h
      subst h
      unfold gKd at hn
      split at hn
      · obtain ⟨hb, hn⟩ := bif_inv hn
        injection hn with hn
        subst hn
        exact ⟨_, cond_t hb, Wk.refl _⟩
      · cases hn
    · cases h
theorem gPl_enc {l : List (Ky × PV)} (hs : Srt l) (h0 : 0 < l.length) (h1 : l.length ≤ 1000) (s : Ky) {cs : List PV} (h : enc 0 (ofL0 l) = .eptr cs) : gPl cs s = some ((plN (l.map (·.1)) s : Int), hasK s l) := by
  rw [enc_zero] at h
  injection h with h
  subst h
  have e : (l.map fun p => PV.str p.1) = (l.map (·.1)).map PV.str := by rw [List.map_map]; rfl
  unfold gPl
  have hsp := (leaf_split hs s).2.2.2
  simp only [e, strs_all, List.length_map, decide_eq_true h0, decide_eq_true (show l.length ≤ 1000000 by omega), placeI_eq hs.keys, Bool.true_and, cond_true, decide_true, hsp]
  congr 2
  by_cases hlt : plN (l.map (·.1)) s < l.length
  · rw [strAt_str (by rw [List.length_map]; exact hlt), List.getD_eq_getElem?_getD, List.getElem?_eq_getElem (by rw [List.length_map]; exact hlt)]
    rfl
  · rw [decide_eq_false hlt]; rfl
/-- the kids' least keys rise -/
theorem lks_srt {d : Nat} : ∀ {ks : List (TrD PV d)}, (∀ k ∈ ks, okD 4 d k) → Srt (ks.flatMap (cD d)) → SrtK (ks.map (lkD d))
  | [], _, _ => List.Pairwise.nil
  | k :: ks, h, hs => by
    rw [List.flatMap_cons] at hs
    have ih := lks_srt (ks := ks) (fun x hx => h x (List.mem_cons_of_mem _ hx)) hs.right
    refine List.pairwise_cons.2 ⟨?_, ih⟩
    intro a ha
    obtain ⟨x, hx, rfl⟩ := List.mem_map.1 ha
    have hk4 := h k List.mem_cons_self
    have hx4 := h x (List.mem_cons_of_mem _ hx)
    obtain ⟨p, hp, hpk⟩ := hdK_mem (hk4.nonempty (by omega))
    obtain ⟨q, hq, hqk⟩ := hdK_mem (hx4.nonempty (by omega))
    rw [lk_hd hk4 (by omega), lk_hd hx4 (by omega), ← hpk, ← hqk]
    exact hs.cross hp (List.mem_flatMap.2 ⟨x, hx, hq⟩)
theorem gKd_enc {d : Nat} {ks : List (TrD PV d)} (h4 : ∀ k ∈ ks, okD 4 d k) (hs : Srt (ks.flatMap (cD d))) (h0 : 0 < ks.length) (h1 : ks.length ≤ 1000) (s : Ky) {cs : List PV} (h : enc (d + 1) (ofL ks) = .eptr cs) : gKd cs s = some (kidN ks s : Int) := by
  rw [enc_succ] at h
  injection h with h
  subst h
  have e : (ks.map fun k => PV.str (lkD d k)) = (ks.map (lkD d)).map PV.str := by rw [List.map_map]; rfl
  unfold gKd kidN
  simp only [e, strs_all, List.length_map, decide_eq_true h0, decide_eq_true (show ks.length ≤ 1000000 by omega), kidI_eq (lks_srt h4 hs), Bool.true_and, cond_true, decide_true]
/-! ## put -/
theorem tPut_nat (g : List PV → Ky → PV → Option (Nat × List PV × Bool)) : (tPut g).nat := by
  intro R xs k
  simp only [tPut]
  split
  · rw [obind_assoc]; rfl
  · rfl
theorem fok_none {NG : Nat} {W : World → Prop} {f : FuncId} {p : PFn} (hn : p.nat) (h : ∀ xs r, p.F xs (R := PV) some ≠ some r) : FOK NG W f p where
  nat := hn
  call := by
    intro M xs vs r _ _ _ _ hF
    exact absurd hF (h xs r)
def gdP (d : Nat) (t : TrD PV d) : Bool := okB 1 d t && (srtB (cD d t) && decide ((cD d t).length ≤ 50000))
def gPu (d : Nat) (cs : List PV) (s : Ky) (v : PV) : Option (Nat × List PV × Bool) := (dec d (.eptr cs)).bind fun t => bif gdP d t then some ((encs d (putD d t s v).1).1, (encs d (putD d t s v).1).2, (putD d t s v).2) else none
theorem okl_pu {gs : List PV → Option (Nat × List PV)} {gu : List PV → Ky → PV → Option (Nat × List PV × Bool)} (hs : FOK NGt Wt 84 (tSplit gs)) (hu : FOK NGt Wt 68 (tPut gu)) : AllOK NGt Wt (lPu gPl gKd gs gu) :=
  allOK_cons ok_leaf (allOK_cons ok_placeT (allOK_cons ok_kidT (allOK_cons ok_lf (allOK_cons ok_ab (allOK_cons hs (allOK_cons hu allOK_nil))))))
theorem okN_p : AllN NGt Wt lnP := allN_cons nok_clone_s (allN_cons nok_clone_i (allN_cons nok_clone_n allN_nil))
theorem okC_p : AllC NGt Wt lcP := allC_cons cok_insert_s (allC_cons cok_insert_i (allC_cons cok_replace (allC_cons cok_delete_s (allC_cons cok_delete_i (allC_cons cok_delete_n allC_nil)))))
theorem clG_t {R : Type} {n : Nat} (h0 : 0 < n) (h1 : n ≤ 1000) (k : Option R) : clG n k = k := cond_t (by rw [decide_eq_true h0, decide_eq_true (by omega)]; rfl)
theorem frC_t {n : Nat} {c : List PV} (h : c.length = n) (k : PV → Option PV) : frC n c k = k (.sl (some false) 1 n c) := by
  unfold frC
  rw [cond_t (decide_eq_true (by omega)), List.drop_zero, List.take_of_length_le (by omega)]
theorem puSt_t {v1 i : Nat} {vc : List PV} {v : PV} (h : vc.length = v1) (hi : i < v1) (k : List PV → Option PV) : puSt v1 vc (i : Int) v k = k (vc.take i ++ [v] ++ vc.drop (i + 1)) := by
  unfold puSt
  rw [cond_t (by rw [decide_eq_true (by omega), decide_eq_true (by omega)]; rfl), Int.toNat_natCast, cond_t (decide_eq_true (by omega)), Nat.mul_one, Nat.zero_add]
theorem insert_s_F {R : Type} {n i m : Nat} {c vs : List PV} {nl : Option Bool} (hl : c.length = n) (hi : i ≤ n) (hm : 0 < m) (hb : n + m ≤ 1000000) (K : Nat → List PV → Option R) :
    p_insert_s.F 1 n c [.int .i64 (i : Int), .sl nl 1 m vs] K = K (n + m) (c.take i ++ vs ++ c.drop i) := by
  show (bif decide ((1 : Nat) = 1) && (decide (c.length = n) && (decide (0 ≤ (i : Int)) && (decide ((i : Int) ≤ (n : Int)) && (decide (0 < m) && decide (n + m ≤ 1000000))))) then _ else none) = _
  rw [decide_eq_true rfl, decide_eq_true hl, decide_eq_true (show (0 : Int) ≤ (i : Int) by omega), decide_eq_true (show (i : Int) ≤ (n : Int) by omega), decide_eq_true hm, decide_eq_true hb]
  rfl
theorem insert_i_F {R : Type} {n i m : Nat} {c vs : List PV} {nl : Option Bool} (hl : c.length = n) (hi : i ≤ n) (hm : 0 < m) (hb : n + m ≤ 1000000) (K : Nat → List PV → Option R) :
    p_insert_i.F 1 n c [.int .i64 (i : Int), .sl nl 1 m vs] K = K (n + m) (c.take i ++ vs ++ c.drop i) := by
  show (bif decide ((1 : Nat) = 1) && (decide (c.length = n) && (decide (0 ≤ (i : Int)) && (decide ((i : Int) ≤ (n : Int)) && (decide (0 < m) && decide (n + m ≤ 1000000))))) then _ else none) = _
  rw [decide_eq_true rfl, decide_eq_true hl, decide_eq_true (show (0 : Int) ≤ (i : Int) by omega), decide_eq_true (show (i : Int) ≤ (n : Int) by omega), decide_eq_true hm, decide_eq_true hb]
  rfl
theorem pu_eq0 (gu : List PV → Ky → PV → Option (Nat × List PV × Bool)) (l : List (Ky × PV)) (hv : ∀ p ∈ l, vok p.2 = true) (h0 : 1 ≤ l.length) (h8 : l.length ≤ 8) (hs : Srt l) (s : Ky) (v : Int) :
    prun (enPu gPl gKd (gS 0) gu) hPu 0 false Try.f68 [enc 0 (ofL0 l), .str s, .int .i64 v] =
      some (.tuple [.sl (some false) 1 (encs 0 (putD 0 (ofL0 l) s (.int .i64 v)).1).1 (encs 0 (putD 0 (ofL0 l) s (.int .i64 v)).1).2, .bool (putD 0 (ofL0 l) s (.int .i64 v)).2]) := by
  have e1 : enc 0 (ofL0 l) = ndV none l.length (l.map fun p => .str p.1) none l.length (l.map (·.2)) true 0 [] (l.length : Int) := rfl
  have fin : ∀ (b : Bool), insK s (.int .i64 v) l ≠ [] → (insK s (.int .i64 v) l).length ≤ 16 → ((tSplit (gS 0)).F [enc 0 (ofL0 (insK s (.int .i64 v) l))] fun q => some (PV.tuple [q, .bool b])) = some (PV.tuple [.sl (some false) 1 (encs 0 (putD 0 (ofL0 l) s (.int .i64 v)).1).1 (encs 0 (putD 0 (ofL0 l) s (.int .i64 v)).1).2, .bool b]) := by
    intro b hne h16
    rw [tSplit_enc ?_ ?_]
    · rfl
    · unfold gdS
      have s0 : szD 0 (ofL0 (insK s (.int .i64 v) l)) = (insK s (.int .i64 v) l).length := rfl
      have c0 : (cD 0 (ofL0 (insK s (.int .i64 v) l))).length = (insK s (.int .i64 v) l).length := rfl
      have := List.length_pos_iff.2 hne
      rw [s0, c0, decide_eq_true (by omega), decide_eq_true (by omega), decide_eq_true (by omega)]
      rfl
    · intro p hp
      have key : ∀ (l : List (Ky × PV)), (∀ p ∈ l, vok p.2 = true) → ∀ p ∈ insK s (.int .i64 v) l, vok p.2 = true := by
        intro l
        induction l with
        | nil => intro _ p hp; simp [insK] at hp; subst hp; rfl
        | cons a r ih =>
          intro hl p hp
          simp only [insK] at hp
          split at hp
          · rcases List.mem_cons.1 hp with rfl | hp
            · rfl
            · exact hl p (List.mem_cons_of_mem _ hp)
          · split at hp
            · rcases List.mem_cons.1 hp with rfl | hp
              · rfl
              · exact hl p hp
            · rcases List.mem_cons.1 hp with rfl | hp
              · exact hl _ List.mem_cons_self
              · exact ih (fun q hq => hl q (List.mem_cons_of_mem _ hq)) p hp
      exact key l hv p hp
  obtain ⟨p1, p2, p3, _⟩ := leaf_split hs s
  have hpl := plN_le s (l.map (·.1))
  rw [List.length_map] at hpl
  rw [e1, pu_raw0, gPl_enc hs (by omega) (by omega) s (enc_zero l), Option.bind_some, clG_t (by omega) (by omega), clG_t (by omega) (by omega)]
  have hput : (putD 0 (ofL0 l) s (.int .i64 v)).2 = !hasK s l := rfl
  rw [hput]
  rcases hh : hasK s l with _ | _
  · simp only [cond_false]
    have hi := ins_mid (v := .int .i64 v) [] p1 (p3 hh)
    rw [List.append_nil, List.take_append_drop] at hi
    have hi : insK s (.int .i64 v) l = l.take (plN (l.map (·.1)) s) ++ [(s, .int .i64 v)] ++ l.drop (plN (l.map (·.1)) s) := hi
    rw [insert_s_F (by rw [List.length_map]) hpl (by omega) (by omega), endC_eq (by simp; omega), insert_i_F (by rw [List.length_map]) hpl (by omega) (by omega), endC_eq (by simp; omega), lf_F]
    have e2 : PV.eptr [.sl none 1 (l.length + 1) ((l.map fun p => PV.str p.1).take (plN (l.map (·.1)) s) ++ [.str s] ++ (l.map fun p => PV.str p.1).drop (plN (l.map (·.1)) s)), .sl none 1 (l.length + 1) ((l.map (·.2)).take (plN (l.map (·.1)) s) ++ [.int .i64 v] ++ (l.map (·.2)).drop (plN (l.map (·.1)) s)), .sl (some true) 1 0 [], .int .i64 ((l.length + 1 : Nat) : Int)] = enc 0 (ofL0 (insK s (.int .i64 v) l)) := by
      have hlen : (insK s (.int .i64 v) l).length = l.length + 1 := by rw [ins_len hs, hh]; rfl
      rw [enc_zero, hlen, hi]
      simp only [List.map_append, List.map_take, List.map_drop, List.map_cons, List.map_nil]
    rw [e2, fin]
    · rw [hi]; simp
    · rw [ins_len hs, hh]; simp; omega
  · simp only [cond_true]
    obtain ⟨w, q1, q2⟩ := p2 hh
    have hlt := (List.getElem?_eq_some_iff.1 q1).1
    have hsp := take_get_drop q1
    have hi : insK s (.int .i64 v) l = l.take (plN (l.map (·.1)) s) ++ [(s, .int .i64 v)] ++ l.drop (plN (l.map (·.1)) s + 1) := by
      conv => lhs; rw [hsp]
      rw [ins_mid _ p1 q2]
      simp [insK]
    rw [puSt_t (by rw [List.length_map]) hlt, frC_t (by rw [List.length_map]), frC_t (by simp; omega), lf_F]
    have e2 : PV.eptr [.sl none 1 l.length (l.map fun p => PV.str p.1), .sl none 1 l.length ((l.map (·.2)).take (plN (l.map (·.1)) s) ++ [.int .i64 v] ++ (l.map (·.2)).drop (plN (l.map (·.1)) s + 1)), .sl (some true) 1 0 [], .int .i64 ((l.length : Nat) : Int)] = enc 0 (ofL0 (insK s (.int .i64 v) l)) := by
      have hlen : (insK s (.int .i64 v) l).length = l.length := by rw [ins_len hs, hh]; rfl
      have hk : (l.map fun p => PV.str p.1) = ((insK s (.int .i64 v) l).map fun p => PV.str p.1) := by
        rw [hi]
        conv => lhs; rw [hsp]
        simp
      rw [enc_zero, hlen, ← hk, hi]
      simp only [List.map_append, List.map_take, List.map_drop, List.map_cons, List.map_nil]
    rw [e2, fin]
    · rw [hi]; simp
    · rw [ins_len hs, hh]; simp; omega
theorem vok_mem {d : Nat} {ks : List (TrD PV d)} {k : TrD PV d} (hv : ∀ p ∈ cD (d + 1) (ofL ks), vok p.2 = true) (hk : k ∈ ks) : ∀ p ∈ cD d k, vok p.2 = true := fun p hp => hv p (List.mem_flatMap.2 ⟨k, hk, hp⟩)
theorem vok_ins {s : Ky} {v : PV} (hv0 : vok v = true) {l : List (Ky × PV)} (hl : ∀ p ∈ l, vok p.2 = true) : ∀ p ∈ insK s v l, vok p.2 = true := by
  induction l with
  | nil => intro p hp; simp [insK] at hp; subst hp; exact hv0
  | cons a r ih =>
    intro p hp
    simp only [insK] at hp
    split at hp
    · rcases List.mem_cons.1 hp with rfl | hp
      · exact hv0
      · exact hl p (List.mem_cons_of_mem _ hp)
    · split at hp
      · rcases List.mem_cons.1 hp with rfl | hp
        · exact hv0
        · exact hl p hp
      · rcases List.mem_cons.1 hp with rfl | hp
        · exact hl _ List.mem_cons_self
        · exact ih (fun q hq => hl q (List.mem_cons_of_mem _ hq)) p hp
theorem putD_succ {β : Type} {d : Nat} (t : TrD β (d + 1)) {k : Ky} {v : β} {x : TrD β d} (h : (asL t)[kidN (asL t) k]? = some x) : putD (d + 1) t k v = (splitL ((asL t).take (kidN (asL t) k) ++ (putD d x k v).1 ++ (asL t).drop (kidN (asL t) k + 1)), (putD d x k v).2) := by
  simp only [putD]
  rw [h]
  rfl
theorem pu_eqS {d : Nat} (ks : List (TrD PV d)) (hv : ∀ p ∈ cD (d + 1) (ofL ks), vok p.2 = true) (hg : gdP (d + 1) (ofL ks) = true) (s : Ky) (v : Int) :
    prun (enPu gPl gKd (gS (d + 1)) (gPu d)) hPu 0 false Try.f68 [enc (d + 1) (ofL ks), .str s, .int .i64 v] =
      some (PV.tuple [.sl (some false) 1 (encs (d + 1) (putD (d + 1) (ofL ks) s (.int .i64 v)).1).1 (encs (d + 1) (putD (d + 1) (ofL ks) s (.int .i64 v)).1).2, .bool (putD (d + 1) (ofL ks) s (.int .i64 v)).2]) := by
  have e1 : enc (d + 1) (ofL ks) = ndV none ks.length (ks.map fun k => .str (lkD d k)) (some true) 0 [] false ks.length (ks.map (enc d)) ((ks.flatMap (cD d)).length : Int) := rfl
  unfold gdP at hg
  simp only [Bool.and_eq_true, decide_eq_true_eq] at hg
  obtain ⟨g1, g2, g3⟩ := hg
  have hok := (okB_iff 1 (d + 1) (ofL ks)).1 g1
  have h4 : ∀ k ∈ ks, okD 4 d k := hok.2
  have h0 : 1 ≤ ks.length := hok.1.1
  have h8 : ks.length ≤ 8 := hok.1.2
  have hs : Srt (ks.flatMap (cD d)) := (srtB_iff _).1 g2
  have g3 : (ks.flatMap (cD d)).length ≤ 50000 := g3
  obtain ⟨k, hk, hA, hB⟩ := kid_split (x := s) h4 (by omega) hs
  have hkm := List.mem_of_getElem? hk
  have hlt := (List.getElem?_eq_some_iff.1 hk).1
  obtain ⟨es, ee, q⟩ := kidAt_enc (R := PV) hk
  have hfl := flat_split hk
  have hsk : Srt (cD d k) := by
    have := hs
    rw [hfl, List.append_assoc] at this
    exact this.right.left
  have hgk : gdP d k = true := by
    unfold gdP
    rw [(okB_iff 1 d k).2 ((h4 k hkm).weaken (by omega)), (srtB_iff _).2 hsk, decide_eq_true (by have := len_mem_flat hkm; omega)]
    rfl
  have hgu : gPu d es s (.int .i64 v) = some ((encs d (putD d k s (.int .i64 v)).1).1, (encs d (putD d k s (.int .i64 v)).1).2, (putD d k s (.int .i64 v)).2) := by
    unfold gPu
    rw [← ee, dec_enc (vok_mem hv hkm), Option.bind_some, hgk, cond_true]
  obtain ⟨r1, r2, r3, r4⟩ := put_spec (k := s) (v := .int .i64 v) (h4 k hkm) (by omega) hsk
  have hl1 : (encs d (putD d k s (.int .i64 v)).1).1 = (putD d k s (.int .i64 v)).1.length := rfl
  have hl2 : (encs d (putD d k s (.int .i64 v)).1).2 = (putD d k s (.int .i64 v)).1.map (enc d) := rfl
  have hnk : ∀ x ∈ ks.take (kidN ks s) ++ (putD d k s (.int .i64 v)).1 ++ ks.drop (kidN ks s + 1), okD 4 d x := by
    intro x hx
    rcases List.mem_append.1 hx with hx | hx
    · rcases List.mem_append.1 hx with hx | hx
      · exact h4 x (List.mem_of_mem_take hx)
      · exact r4 x hx
    · exact h4 x (List.mem_of_mem_drop hx)
  have hflat : (ks.take (kidN ks s) ++ (putD d k s (.int .i64 v)).1 ++ ks.drop (kidN ks s + 1)).flatMap (cD d) = insK s (.int .i64 v) (ks.flatMap (cD d)) := by
    rw [List.flatMap_append, List.flatMap_append, r1, hfl, ins_mid _ hA hB]
  have hlen : (ks.take (kidN ks s) ++ (putD d k s (.int .i64 v)).1 ++ ks.drop (kidN ks s + 1)).length = kidN ks s + (putD d k s (.int .i64 v)).1.length + (ks.length - (kidN ks s + 1)) := by
    simp only [List.length_append, List.length_take, List.length_drop]
    omega
  have hcl : (insK s (.int .i64 v) (ks.flatMap (cD d))).length ≤ 50001 := by rw [ins_len hs]; split <;> omega
  rw [e1, pu_rawS, gKd_enc h4 hs (by omega) (by omega) s (enc_succ ks), Option.bind_some, q, hgu, Option.bind_some, clG_t (by omega) (by omega), wrapI_of (by omega) (by omega), show (kidN ks s : Int) + 1 = ((kidN ks s + 1 : Nat) : Int) by omega,
    replace_F (by rw [List.length_map]) (by omega) (by omega) (by rw [hl1]; omega) (by rw [hl1]; omega), endC_eq (by rw [hl1, hl2]; simp; omega), hl1, hl2, ← List.map_take, ← List.map_drop, ← List.map_append, ← List.map_append, ← hlen, ab_enc hnk (by omega) (by rw [hflat]; omega), tSplit_enc ?_ ?_]
  · have e : putD (d + 1) (ofL ks) s (.int .i64 v) = (splitL (ks.take (kidN ks s) ++ (putD d k s (.int .i64 v)).1 ++ ks.drop (kidN ks s + 1)), (putD d k s (.int .i64 v)).2) := putD_succ (ofL ks) hk
    rw [e]
    rfl
  · have sz : ∀ m : List (TrD PV d), szD (d + 1) (ofL m) = m.length := fun m => rfl
    have kb : ∀ m : List (TrD PV d), kidsB (d + 1) (ofL m) = m.all (okB 4 d) := fun m => rfl
    have c : ∀ m : List (TrD PV d), cD (d + 1) (ofL m) = m.flatMap (cD d) := fun m => rfl
    unfold gdS
    rw [sz, kb, c, hflat, decide_eq_true (by omega), decide_eq_true (by omega), decide_eq_true (by omega), List.all_eq_true.2 fun x hx => (okB_iff 4 d x).2 (hnk x hx)]
    rfl
  · have c : ∀ m : List (TrD PV d), cD (d + 1) (ofL m) = m.flatMap (cD d) := fun m => rfl
    rw [c, hflat]
    exact vok_ins rfl hv
theorem ok_put : ∀ d, FOK NGt Wt 68 (tPut (gPu d))
  | 0 => by
    have hnone : FOK NGt Wt 68 (tPut fun _ _ _ => none) := fok_none (tPut_nat _) (by
      intro xs r h
      simp only [tPut] at h
      split at h
      · cases h
      · cases h)
    refine fokW wokt (okl_pu (ok_spl 0) hnone) allH_nil allI_nil okN_p okC_p [93] Try.func68 rfl (by decide) (tPut_nat _) rfl (h := hPu) 0 ?_
    intro xs r' h
    simp only [tPut] at h
    split at h
    · rename_i cs s v
      obtain ⟨r, hr, h⟩ := bind_some_inv h
      injection h with h
      subst h
      unfold gPu at hr
      obtain ⟨t, ht, hr⟩ := bind_some_inv hr
      obtain ⟨hg, hr⟩ := bif_inv hr
      injection hr with hr
      subst hr
      obtain ⟨e, hv⟩ := dec_inv ht
      unfold gdP at hg
      simp only [Bool.and_eq_true, decide_eq_true_eq] at hg
      obtain ⟨g1, g2, g3⟩ := hg
      have hok := (okB_iff 1 0 t).1 g1
      rw [e]
      exact ⟨_, pu_eq0 _ t hv hok.1 hok.2 ((srtB_iff _).1 g2) s v, Wk.refl _⟩
    · cases h
  | d + 1 => by
    refine fokW wokt (okl_pu (ok_spl (d + 1)) (ok_put d)) allH_nil allI_nil okN_p okC_p [93] Try.func68 rfl (by decide) (tPut_nat _) rfl (h := hPu) 0 ?_
    intro xs r' h
    simp only [tPut] at h
    split at h
    · rename_i cs s v
      obtain ⟨r, hr, h⟩ := bind_some_inv h
      injection h with h
      subst h
      unfold gPu at hr
      obtain ⟨t, ht, hr⟩ := bind_some_inv hr
      obtain ⟨hg, hr⟩ := bif_inv hr
      injection hr with hr
      subst hr
      obtain ⟨e, hv⟩ := dec_inv ht
      rw [e]
      exact ⟨_, pu_eqS t hv hg s v, Wk.refl _⟩
    · cases h
/-! ## remove -/
theorem tRem_nat (g : List PV → Ky → Option (Bool × List PV)) : (tRem g).nat := by
  intro R xs k
  simp only [tRem]
  split
  · rw [obind_assoc]
    congr 1
    funext r
    cases r.1 <;> rfl
  · rfl
def ptrC : PV → List PV
  | .eptr cs => cs
  | _ => []
theorem ptrC_enc (d : Nat) (t : TrD PV d) : PV.eptr (ptrC (enc d t)) = enc d t := by
  obtain ⟨cs, e⟩ := enc_ptr d t
  rw [e]; rfl
/-- a tree that may lose a key -/
def gdR (d : Nat) (t : TrD PV d) (s : Ky) : Bool := okB (min 2 (d + 1)) d t && (srtB (cD d t) && (hasK s (cD d t) && decide ((cD d t).length ≤ 50000)))
def gRm (d : Nat) (cs : List PV) (s : Ky) : Option (Bool × List PV) := (dec d (.eptr cs)).bind fun t => bif gdR d t s then some (decide (szD d (remD d t s) = 0), ptrC (enc d (remD d t s))) else none
theorem okl_rm {gm : Nat → List PV → Int → Option (Nat × List PV)} {gr : List PV → Ky → Option (Bool × List PV)} (hm : FOK NGt Wt 90 (tMend gm)) (hr : FOK NGt Wt 70 (tRem gr)) : AllOK NGt Wt (lRm gPl gKd gm gr) :=
  allOK_cons ok_leaf (allOK_cons ok_placeT (allOK_cons ok_kidT (allOK_cons ok_lf (allOK_cons ok_ab (allOK_cons hm (allOK_cons hr allOK_nil))))))
theorem delete_s_F {R : Type} {n i : Nat} {c : List PV} (hl : c.length = n) (hi : i < n) (K : Nat → List PV → Option R) :
    p_delete_s.F 1 n c [.int .i64 (i : Int), .int .i64 ((i + 1 : Nat) : Int)] K = K (i + (n - (i + 1))) (c.take i ++ c.drop (i + 1)) := by
  show (bif decide ((1 : Nat) = 1) && (decide (c.length = n) && (decide (0 ≤ (i : Int)) && (decide ((i : Int) < ((i + 1 : Nat) : Int)) && decide (((i + 1 : Nat) : Int) ≤ (n : Int))))) then _ else none) = _
  rw [decide_eq_true rfl, decide_eq_true hl, decide_eq_true (show (0 : Int) ≤ (i : Int) by omega), decide_eq_true (show (i : Int) < ((i + 1 : Nat) : Int) by omega), decide_eq_true (show ((i + 1 : Nat) : Int) ≤ (n : Int) by omega)]
  rfl
theorem delete_i_F {R : Type} {n i : Nat} {c : List PV} (hl : c.length = n) (hi : i < n) (K : Nat → List PV → Option R) :
    p_delete_i.F 1 n c [.int .i64 (i : Int), .int .i64 ((i + 1 : Nat) : Int)] K = K (i + (n - (i + 1))) (c.take i ++ c.drop (i + 1)) := by
  show (bif decide ((1 : Nat) = 1) && (decide (c.length = n) && (decide (0 ≤ (i : Int)) && (decide ((i : Int) < ((i + 1 : Nat) : Int)) && decide (((i + 1 : Nat) : Int) ≤ (n : Int))))) then _ else none) = _
  rw [decide_eq_true rfl, decide_eq_true hl, decide_eq_true (show (0 : Int) ≤ (i : Int) by omega), decide_eq_true (show (i : Int) < ((i + 1 : Nat) : Int) by omega), decide_eq_true (show ((i + 1 : Nat) : Int) ≤ (n : Int) by omega)]
  rfl
theorem rm_eq0 (gm : Nat → List PV → Int → Option (Nat × List PV)) (gr : List PV → Ky → Option (Bool × List PV)) (l : List (Ky × PV)) (h0 : 1 ≤ l.length) (h8 : l.length ≤ 8) (hs : Srt l) (s : Ky) (hh : hasK s l = true) :
    prun (enRm gPl gKd gm gr) hRm 0 false Try.f70 [enc 0 (ofL0 l), .str s] = bif decide (szD 0 (remD 0 (ofL0 l) s) = 0) then some .nilptr else some (enc 0 (remD 0 (ofL0 l) s)) := by
  have e1 : enc 0 (ofL0 l) = ndV none l.length (l.map fun p => .str p.1) none l.length (l.map (·.2)) true 0 [] (l.length : Int) := rfl
  obtain ⟨p1, p2, p3, _⟩ := leaf_split hs s
  obtain ⟨w, q1, q2⟩ := p2 hh
  have hlt := (List.getElem?_eq_some_iff.1 q1).1
  have hd : remD 0 (ofL0 l) s = ofL0 (delK s l) := rfl
  have hdk : delK s l = l.take (plN (l.map (·.1)) s) ++ l.drop (plN (l.map (·.1)) s + 1) := by
    conv => lhs; rw [take_get_drop q1]
    rw [del_mid _ p1 q2]
    simp [delK]
  have hlen : (delK s l).length = plN (l.map (·.1)) s + (l.length - (plN (l.map (·.1)) s + 1)) := by rw [hdk]; simp; omega
  have hsz : szD 0 (ofL0 (delK s l)) = (delK s l).length := rfl
  rw [e1, rm_raw0, gPl_enc hs (by omega) (by omega) s (enc_zero l), Option.bind_some, clG_t (by omega) (by omega), clG_t (by omega) (by omega), wrapI_of (by omega) (by omega), show (plN (l.map (·.1)) s : Int) + 1 = ((plN (l.map (·.1)) s + 1 : Nat) : Int) by omega,
    delete_s_F (by rw [List.length_map]) hlt, endC_eq (by simp; omega), delete_i_F (by rw [List.length_map]) hlt, endC_eq (by simp; omega), lf_F, ← hlen, hd, hsz, enc_zero]
  have e2 : (l.map fun p => PV.str p.1).take (plN (l.map (·.1)) s) ++ (l.map fun p => PV.str p.1).drop (plN (l.map (·.1)) s + 1) = (delK s l).map fun p => PV.str p.1 := by
    rw [hdk]; simp only [List.map_append, List.map_take, List.map_drop]
  have e3 : (l.map (·.2)).take (plN (l.map (·.1)) s) ++ (l.map (·.2)).drop (plN (l.map (·.1)) s + 1) = (delK s l).map (·.2) := by
    rw [hdk]; simp only [List.map_append, List.map_take, List.map_drop]
  rw [e2, e3]
  by_cases hz : (delK s l).length = 0
  · rw [cond_t (by rw [hz]; rfl), cond_t (decide_eq_true hz)]
  · rw [cond_f (by rw [beq_eq_false_iff_ne]; omega), cond_f (decide_eq_false hz)]
theorem remD_succ {β : Type} {d : Nat} (t : TrD β (d + 1)) {k : Ky} {x : TrD β d} (h : (asL t)[kidN (asL t) k]? = some x) : asL (remD (d + 1) t k) = mendD ((asL t).set (kidN (asL t) k) (remD d x k)) (kidN (asL t) k) := by
  simp only [remD]
  rw [h]
theorem set_split {α : Type} {l : List α} {i : Nat} (h : i < l.length) (y : α) : l.take i ++ [y] ++ l.drop (i + 1) = l.set i y := by
  rw [List.append_assoc, List.singleton_append]
  exact (List.set_eq_take_append_cons_drop .. ▸ by rw [if_pos h])
theorem rm_eqS {d : Nat} (ks : List (TrD PV d)) (hv : ∀ p ∈ cD (d + 1) (ofL ks), vok p.2 = true) (s : Ky) (hg : gdR (d + 1) (ofL ks) s = true) :
    prun (enRm gPl gKd (gM d) (gRm d)) hRm 0 false Try.f70 [enc (d + 1) (ofL ks), .str s] = some (enc (d + 1) (remD (d + 1) (ofL ks) s)) := by
  have e1 : enc (d + 1) (ofL ks) = ndV none ks.length (ks.map fun k => .str (lkD d k)) (some true) 0 [] false ks.length (ks.map (enc d)) ((ks.flatMap (cD d)).length : Int) := rfl
  unfold gdR at hg
  simp only [Bool.and_eq_true, decide_eq_true_eq] at hg
  obtain ⟨g1, g2, g3, g5⟩ := hg
  have hok := (okB_iff _ (d + 1) (ofL ks)).1 g1
  rw [show min 2 (d + 1 + 1) = 2 by omega] at hok
  have h4 : ∀ k ∈ ks, okD 4 d k := hok.2
  have h0 : 2 ≤ ks.length := hok.1.1
  have h8 : ks.length ≤ 8 := hok.1.2
  have hs : Srt (ks.flatMap (cD d)) := (srtB_iff _).1 g2
  have g3 : hasK s (ks.flatMap (cD d)) = true := g3
  have g5 : (ks.flatMap (cD d)).length ≤ 50000 := g5
  obtain ⟨k, hk, hA, hB⟩ := kid_split (x := s) h4 (by omega) hs
  have hkm := List.mem_of_getElem? hk
  have hlt := (List.getElem?_eq_some_iff.1 hk).1
  obtain ⟨es, ee⟩ := enc_ptr d k
  have hfl := flat_split hk
  have hsk : Srt (cD d k) := by
    have := hs
    rw [hfl, List.append_assoc] at this
    exact this.right.left
  have hhk : hasK s (cD d k) = true := by rw [hfl, has_mid _ hA hB] at g3; exact g3
  have hgk : gdR d k s = true := by
    unfold gdR
    rw [(okB_iff _ d k).2 ((h4 k hkm).weaken (by omega)), (srtB_iff _).2 hsk, hhk, decide_eq_true (by have := len_mem_flat hkm; omega)]
    rfl
  obtain ⟨r1, r2⟩ := rem_spec (k := s) (h4 k hkm) (by omega) (by omega) hsk
  have hsz3 := r2.sz
  have hgr : gRm d es s = some (false, ptrC (enc d (remD d k s))) := by
    unfold gRm
    rw [← ee, dec_enc (vok_mem hv hkm), Option.bind_some, hgk, cond_true, decide_eq_false (by omega)]
  have hset : (ks.set (kidN ks s) (remD d k s))[kidN ks s]? = some (remD d k s) := by rw [List.getElem?_set_self hlt]
  have hoth : ∀ j x, j ≠ kidN ks s → (ks.set (kidN ks s) (remD d k s))[j]? = some x → okD 4 d x := fun j y hj hy => by
    rw [List.getElem?_set_ne (Ne.symm hj)] at hy
    exact h4 y (List.mem_of_getElem? hy)
  obtain ⟨m1, m2, m3, m4⟩ := mend_spec hset r2 hoth (by rw [List.length_set]; omega)
  have hflat : (ks.set (kidN ks s) (remD d k s)).flatMap (cD d) = delK s (ks.flatMap (cD d)) := by
    rw [flat_split hset, hfl, del_mid _ hA hB, r1, List.take_set_of_le (Nat.le_refl _), List.drop_set_of_lt (Nat.lt_succ_self _)]
  have hcl : (delK s (ks.flatMap (cD d))).length ≤ 50000 := by rw [del_len hs]; omega
  have hall : ∀ x ∈ ks.set (kidN ks s) (remD d k s), okD 3 d x := fun x hx => by
    obtain ⟨j, hj, rfl⟩ := List.getElem_of_mem hx
    by_cases e : j = kidN ks s
    · subst e
      rw [List.getElem_set_self]
      exact r2
    · exact (hoth j _ e (List.getElem?_eq_getElem hj)).weaken (by omega)
  have hvd : ∀ x ∈ ks.set (kidN ks s) (remD d k s), ∀ p ∈ cD d x, vok p.2 = true := fun x hx p hp => by
    have : p ∈ (ks.set (kidN ks s) (remD d k s)).flatMap (cD d) := List.mem_flatMap.2 ⟨x, hx, hp⟩
    rw [hflat] at this
    exact hv p (List.mem_filter.1 this).1
  have hkids : ∀ {m : Nat} {x : TrD PV d}, okD m d x → kidsB d x = true := by
    intro m x hx
    cases d with
    | zero => rfl
    | succ d => exact List.all_eq_true.2 fun y hy => (okB_iff 4 d y).2 (hx.2 y hy)
  have hgm : gM d (ks.set (kidN ks s) (remD d k s)).length ((ks.set (kidN ks s) (remD d k s)).map (enc d)) (kidN ks s : Int) = some (encs d (mendD (ks.set (kidN ks s) (remD d k s)) (kidN ks s))) := by
    unfold gM
    have hgd : gdM d (ks.set (kidN ks s) (remD d k s)) (kidN ks s : Int) = true := by
      unfold gdM
      rw [List.length_set, hflat, decide_eq_true (by omega), decide_eq_true (by omega), decide_eq_true (by omega), decide_eq_true (by omega), List.all_eq_true.2 fun x hx => ?_]
      · rfl
      · have := (hall x hx).sz
        rw [decide_eq_true (by omega), decide_eq_true (by omega), hkids (hall x hx)]
        rfl
    rw [mapO_map fun x hx => dec_enc (hvd x hx), Option.bind_some, hgd, decide_eq_true rfl, Int.toNat_natCast]
    rfl
  have hat : ((ks.map (enc d)).drop (0 + kidN ks s * 1)).head? = some (enc d k) := by
    rw [Nat.zero_add, Nat.mul_one, List.head?_drop, List.getElem?_map, hk]
    rfl
  have hmap : (ks.map (enc d)).take (kidN ks s) ++ [enc d (remD d k s)] ++ (ks.map (enc d)).drop (kidN ks s + 1) = (ks.set (kidN ks s) (remD d k s)).map (enc d) := by
    rw [set_split (by rw [List.length_map]; exact hlt), List.map_set]
  have fin : ((tMend (gM d)).F [.sl (some false) 1 (ks.set (kidN ks s) (remD d k s)).length ((ks.set (kidN ks s) (remD d k s)).map (enc d)), .int .i64 (kidN ks s : Int)] fun z => p_ab.F [z] some) = some (enc (d + 1) (remD (d + 1) (ofL ks) s)) := by
    show ((gM d _ _ _).bind _) = _
    rw [hgm, Option.bind_some]
    have he : remD (d + 1) (ofL ks) s = ofL (mendD (ks.set (kidN ks s) (remD d k s)) (kidN ks s)) := remD_succ (ofL ks) hk
    rw [he]
    exact ab_enc m2 (by rw [List.length_set] at m4; omega) (by rw [m1, hflat]; omega) some
  rw [e1, rm_rawS, gKd_enc h4 hs (by omega) (by omega) s (enc_succ ks), Option.bind_some, clG_t (by omega) (by omega), cond_t (by rw [decide_eq_true (by omega), decide_eq_true (by omega)]; rfl), Int.toNat_natCast, hat, Option.bind_some, ee]
  simp only [PV.asE, Option.bind_some]
  rw [hgr, Option.bind_some, cond_false, ptrC_enc, puSt_t (by rw [List.length_map]) hlt, hmap, show ks.length = (ks.set (kidN ks s) (remD d k s)).length from (List.length_set ..).symm, frC_t (by rw [List.length_map]), fin]
theorem ok_rem : ∀ d, FOK NGt Wt 70 (tRem (gRm d))
  | 0 => by
    have hnone : FOK NGt Wt 70 (tRem fun _ _ => none) := fok_none (tRem_nat _) (by
      intro xs r h
      simp only [tRem] at h
      split at h
      · cases h
      · cases h)
    refine fokW wokt (okl_rm (ok_mend 0) hnone) allH_nil allI_nil okN_p okC_p [93] Try.func70 rfl (by decide) (tRem_nat _) rfl (h := hRm) 0 ?_
    intro xs r' h
    simp only [tRem] at h
    split at h
    · rename_i cs s
      obtain ⟨r, hr, h⟩ := bind_some_inv h
      unfold gRm at hr
      obtain ⟨t, ht, hr⟩ := bind_some_inv hr
      obtain ⟨hg, hr⟩ := bif_inv hr
      injection hr with hr
      subst hr
      obtain ⟨e, hv⟩ := dec_inv ht
      unfold gdR at hg
      simp only [Bool.and_eq_true, decide_eq_true_eq] at hg
      obtain ⟨g1, g2, g3, _⟩ := hg
      have hok := (okB_iff _ 0 t).1 g1
      rw [e]
      refine ⟨r', ?_, Wk.refl _⟩
      refine (rm_eq0 (gM 0) _ t hok.1 hok.2 ((srtB_iff _).1 g2) s g3).trans ?_
      rw [← h, ptrC_enc]
      rfl
    · cases h
  | d + 1 => by
    refine fokW wokt (okl_rm (ok_mend d) (ok_rem d)) allH_nil allI_nil okN_p okC_p [93] Try.func70 rfl (by decide) (tRem_nat _) rfl (h := hRm) 0 ?_
    intro xs r' h
    simp only [tRem] at h
    split at h
    · rename_i cs s
      obtain ⟨r, hr, h⟩ := bind_some_inv h
      unfold gRm at hr
      obtain ⟨t, ht, hr⟩ := bind_some_inv hr
      obtain ⟨hg, hr⟩ := bif_inv hr
      injection hr with hr
      subst hr
      obtain ⟨e, hv⟩ := dec_inv ht
      have hg' := hg
      unfold gdR at hg'
      simp only [Bool.and_eq_true, decide_eq_true_eq] at hg'
      have hok := (okB_iff _ (d + 1) t).1 hg'.1
      have hsp := (rem_spec (k := s) hok (by omega) (by omega) ((srtB_iff _).1 hg'.2.1)).2.sz
      rw [e]
      refine ⟨r', ?_, Wk.refl _⟩
      have hne : decide (szD (d + 1) (remD (d + 1) t s) = 0) = false := decide_eq_false (by omega)
      rw [hne, cond_false, ptrC_enc] at h
      exact (rm_eqS t hv s hg).trans h
    · cases h
end Go.Proofs.Ytmacjkiamejcnaa
