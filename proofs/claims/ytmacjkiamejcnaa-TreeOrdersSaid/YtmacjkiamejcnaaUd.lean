/-
  The functions that From and Back return; find, Get, Delete, Levels: their contracts.
-/
import Derived.Test.YtmacjkiamejcnaaUc
set_option linter.unusedVariables false
set_option linter.unusedSimpArgs false
set_option maxRecDepth 100000
namespace Go.Proofs.Ytmacjkiamejcnaa
open Go.RowKit
/-! ## the functions that From and Back return -/
noncomputable def enFr (gf gb : List PV → Ky → Option (List (Ky × PV))) : Env := enR (enA [] [] [(61, tWalk gf), (76, tWalk gb)] [] []) [93]
section
variable {R : Type} (gf gb : List PV → Ky → Option (List (Ky × PV))) (y : YFn) (kk : List (List PV) → Out → PV → Option R)
noncomputable def frEnd (f : Func) (bx : List (Option (List TV))) (o : Out) : Option R := pfinH (enFr gf gb) 3 f (frF 20 [] bx o) fun bs' o v => if bs'.length = 3 then kk bs' o v else none
theorem from1_raw1 (cs : List PV) (q : Ky) (o : Out) :
    prunI (enFr gf gb) h0 0 Try.f60 [[.ptr 2 0], [.str q], [.eptr cs]] o [.yld, .ptr 0 0, .ptr 1 0] y kk =
      viaB true 20 3 (bxS 20 q (.eptr cs)) o [.eptr cs, .str q, .yld] (fun bs o _ G => callW gf cs q y bs o G) fun bx o b => frEnd gf gb kk Try.f60 bx o := by kernel_rfl
theorem from1_raw0 (q : Ky) (o : Out) :
    prunI (enFr gf gb) h0 0 Try.f60 [[.ptr 2 0], [.str q], [.nilptr]] o [.yld, .ptr 0 0, .ptr 1 0] y kk = kk [[.ptr 2 0], [.str q], [.nilptr]] o (.tuple []) := by kernel_rfl
theorem from1_rawN (q : Ky) (o : Out) :
    prunI (enFr gf gb) h0 0 Try.f60 [[.nilptr], [.str q]] o [.yld, .ptr 0 0, .ptr 1 0] y kk = kk [[.nilptr], [.str q]] o (.tuple []) := by kernel_rfl
theorem back1_raw1 (cs : List PV) (q : Ky) (o : Out) :
    prunI (enFr gf gb) h0 0 Try.f75 [[.ptr 2 0], [.str q], [.eptr cs]] o [.yld, .ptr 0 0, .ptr 1 0] y kk =
      viaB true 20 3 (bxS 20 q (.eptr cs)) o [.eptr cs, .str q, .yld] (fun bs o _ G => callW gb cs q y bs o G) fun bx o b => frEnd gf gb kk Try.f75 bx o := by kernel_rfl
theorem back1_raw0 (q : Ky) (o : Out) :
    prunI (enFr gf gb) h0 0 Try.f75 [[.ptr 2 0], [.str q], [.nilptr]] o [.yld, .ptr 0 0, .ptr 1 0] y kk = kk [[.ptr 2 0], [.str q], [.nilptr]] o (.tuple []) := by kernel_rfl
theorem back1_rawN (q : Ky) (o : Out) :
    prunI (enFr gf gb) h0 0 Try.f75 [[.nilptr], [.str q]] o [.yld, .ptr 0 0, .ptr 1 0] y kk = kk [[.nilptr], [.str q]] o (.tuple []) := by kernel_rfl
theorem frEnd_f0 (q : Ky) (o : Out) : frEnd gf gb kk Try.f60 (bxS 20 q .nilptr) o = kk [[.ptr 2 0], [.str q], [.nilptr]] o (.tuple []) := by kernel_rfl
theorem frEnd_f1 (q : Ky) (cs : List PV) (o : Out) : frEnd gf gb kk Try.f60 (bxS 20 q (.eptr cs)) o = kk [[.ptr 2 0], [.str q], [.eptr cs]] o (.tuple []) := by kernel_rfl
theorem frEnd_b0 (q : Ky) (o : Out) : frEnd gf gb kk Try.f75 (bxS 20 q .nilptr) o = kk [[.ptr 2 0], [.str q], [.nilptr]] o (.tuple []) := by kernel_rfl
theorem frEnd_b1 (q : Ky) (cs : List PV) (o : Out) : frEnd gf gb kk Try.f75 (bxS 20 q (.eptr cs)) o = kk [[.ptr 2 0], [.str q], [.eptr cs]] o (.tuple []) := by kernel_rfl
end
def iWalk (g : List PV → Ky → Option (List (Ky × PV))) : IFn := ⟨fun bs o xs y k => match bs, xs with
  | [[.ptr 2 0], [.str q], [.eptr cs]], [.yld, .ptr 0 0, .ptr 1 0] => callW g cs q y [[.ptr 2 0], [.str q], [.eptr cs]] o fun bs o b => k bs o (.tuple [])
  | [[.ptr 2 0], [.str q], [.nilptr]], [.yld, .ptr 0 0, .ptr 1 0] => k [[.ptr 2 0], [.str q], [.nilptr]] o (.tuple [])
  | [[.nilptr], [.str q]], [.yld, .ptr 0 0, .ptr 1 0] => k [[.nilptr], [.str q]] o (.tuple [])
  | _, _ => none⟩
theorem iWalk_nat (g : List PV → Ky → Option (List (Ky × PV))) : (iWalk g).nat := by
  intro R bs o xs y k
  simp only [iWalk]
  split
  · unfold callW
    rw [bif_bind, obind_assoc]
    congr 2
    funext l
    exact walkY_nat y l _ o (fun bs o b => some (bs, o, PV.tuple [])) (fun r => k r.1 r.2.1 r.2.2)
  all_goals rfl
theorem callW_inv {R : Type} {g : List PV → Ky → Option (List (Ky × PV))} {cs : List PV} {s : Ky} {y : YFn} {bs : List (List PV)} {o : Out} {k : List (List PV) → Out → Bool → Option R} {r : R} (h : callW g cs s y bs o k = some r) :
    ∃ bs' o' b, shpB bs' = true ∧ (∀ (S : Type) (G : List (List PV) → Out → Bool → Option S), callW g cs s y bs o G = G bs' o' b) ∧ k bs' o' b = some r := by
  unfold callW at h
  obtain ⟨hs, h⟩ := bif_inv h
  obtain ⟨l, hl, h⟩ := bind_some_inv h
  obtain ⟨bs', o', b, h1, h2, h3⟩ := walkY_inv hs h
  exact ⟨bs', o', b, h1, fun S G => by unfold callW; rw [hs, cond_true, hl, Option.bind_some, h2], h3⟩
theorem ok_enFr {gf gb : List PV → Ky → Option (List (Ky × PV))} (hf : IOK NGt Wt 61 (tWalk gf)) (hb : IOK NGt Wt 76 (tWalk gb)) : EnvOK (enFr gf gb) NGt Wt :=
  env_okR (env_okA wokt allOK_nil allH_nil (allI_cons hf (allI_cons hb allI_nil)) allN_nil allC_nil) _
theorem ok_from1 {gf gb : List PV → Ky → Option (List (Ky × PV))} (hf : IOK NGt Wt 61 (tWalk gf)) (hb : IOK NGt Wt 76 (tWalk gb)) : IOK NGt Wt 60 (iWalk gf) := by
  refine InOK.of_run (en := enFr gf gb) (en' := en []) (ok_enFr hf hb) rfl rfl Try.func60 rfl (by decide) (iWalk_nat _) (h := h0) ?_
  intro bs o xs y r hy h
  simp only [iWalk] at h
  split at h
  · rename_i q cs
    obtain ⟨bs', o', b, h1, h2, h3⟩ := callW_inv h
    obtain ⟨q', r', rfl, hr', e⟩ := via_ok (R := List (List PV) × Out × PV) (.inr (.inr rfl)) (.inr ⟨cs, rfl⟩) (q := q) (o := o) (ob := true) (xs := [.eptr cs, .str q, .yld]) (xs' := [.eptr cs, .str q, .yld]) rfl (call := fun bs o _ G => callW gf cs q y bs o G) h1 (fun G => h2 _ G)
    refine ⟨0, (from1_raw1 gf gb y _ cs q o).trans ?_⟩
    rw [e]
    rcases hr' with rfl | ⟨c', rfl⟩
    · exact (frEnd_f0 ..).trans h3
    · exact (frEnd_f1 ..).trans h3
  · exact ⟨0, (from1_raw0 gf gb y _ _ o).trans h⟩
  · exact ⟨0, (from1_rawN gf gb y _ _ o).trans h⟩
  · cases h
theorem ok_back1 {gf gb : List PV → Ky → Option (List (Ky × PV))} (hf : IOK NGt Wt 61 (tWalk gf)) (hb : IOK NGt Wt 76 (tWalk gb)) : IOK NGt Wt 75 (iWalk gb) := by
  refine InOK.of_run (en := enFr gf gb) (en' := en []) (ok_enFr hf hb) rfl rfl Try.func75 rfl (by decide) (iWalk_nat _) (h := h0) ?_
  intro bs o xs y r hy h
  simp only [iWalk] at h
  split at h
  · rename_i q cs
    obtain ⟨bs', o', b, h1, h2, h3⟩ := callW_inv h
    obtain ⟨q', r', rfl, hr', e⟩ := via_ok (R := List (List PV) × Out × PV) (.inr (.inr rfl)) (.inr ⟨cs, rfl⟩) (q := q) (o := o) (ob := true) (xs := [.eptr cs, .str q, .yld]) (xs' := [.eptr cs, .str q, .yld]) rfl (call := fun bs o _ G => callW gb cs q y bs o G) h1 (fun G => h2 _ G)
    refine ⟨0, (back1_raw1 gf gb y _ cs q o).trans ?_⟩
    rw [e]
    rcases hr' with rfl | ⟨c', rfl⟩
    · exact (frEnd_b0 ..).trans h3
    · exact (frEnd_b1 ..).trans h3
  · exact ⟨0, (back1_raw0 gf gb y _ _ o).trans h⟩
  · exact ⟨0, (back1_rawN gf gb y _ _ o).trans h⟩
  · cases h
def gFoA (cs : List PV) (s : Ky) : Option (List (Ky × PV)) := gFo (depF 30 (.eptr cs)) cs s
def gBaA (cs : List PV) (s : Ky) : Option (List (Ky × PV)) := gBa (depF 30 (.eptr cs)) cs s
theorem iok_fam {NG : Nat} {W : World → Prop} {f : FuncId} {q : Nat → IFn} {p : IFn} (hq : ∀ d, IOK NG W f (q d)) (hn : p.nat) (h : ∀ bs o xs y r, p.F bs o xs y (R := List (List PV) × Out × PV) (fun b o v => some (b, o, v)) = some r → ∃ d, (q d).F bs o xs y (R := List (List PV) × Out × PV) (fun b o v => some (b, o, v)) = some r) : IOK NG W f p where
  nat := hn
  call := by
    intro X y bs o xs vs bs' o' r f0 a1 a2 a3 a4 a5 a6 a7 a8 a9 a10 a11 hF
    obtain ⟨d, hd⟩ := h bs o xs y (bs', o', r) hF
    exact (hq d).call X y bs o xs vs bs' o' r f0 a1 a2 a3 a4 a5 a6 a7 a8 a9 a10 a11 hd
theorem ok_forthA : IOK NGt Wt 61 (tWalk gFoA) := iok_fam ok_forth (tWalk_nat _) (by
  intro bs o xs y r h
  simp only [tWalk] at h
  split at h
  · rename_i cs s; exact ⟨depF 30 (.eptr cs), h⟩
  · cases h)
theorem ok_backA : IOK NGt Wt 76 (tWalk gBaA) := iok_fam ok_backW (tWalk_nat _) (by
  intro bs o xs y r h
  simp only [tWalk] at h
  split at h
  · rename_i cs s; exact ⟨depF 30 (.eptr cs), h⟩
  · cases h)
theorem okFrom1 : IOK NGt Wt 60 (iWalk gFoA) := ok_from1 ok_forthA ok_backA
theorem okBack1 : IOK NGt Wt 75 (iWalk gBaA) := ok_back1 ok_forthA ok_backA
theorem gdP_root {d : Nat} {t : TrD PV d} (h1 : okD (min 2 (d + 1)) d t) (h2 : Srt (cD d t)) (hl : (cD d t).length ≤ 50000) : gdP d t = true := by
  unfold gdP
  rw [(okB_iff 1 d t).2 (okD_root h1), (srtB_iff _).2 h2, decide_eq_true hl]
  rfl
theorem RootIs.isR {x : PV} {l : List (Ky × PV)} (h : RootIs x l) : IsR x := by
  rcases h with ⟨rfl, rfl⟩ | ⟨d, t, rfl, _⟩
  · exact .inl rfl
  · exact .inr (enc_ptr d t)
theorem from_walk {R : Type} {x : PV} {l : List (Ky × PV)} (h : RootIs x l) (hl : l.length ≤ 50000) (s : Ky) (o : Out) (y : YFn) (k : List (List PV) → Out → PV → Option R) :
    (iWalk gFoA).F [[.ptr 2 0], [.str s], [x]] o [.yld, .ptr 0 0, .ptr 1 0] y k = walkY y (fromK s l) [[.ptr 2 0], [.str s], [x]] o fun bs o b => k bs o (.tuple []) := by
  rcases h with ⟨rfl, rfl⟩ | ⟨d, t, rfl, h1, h2, rfl, hv⟩
  · rfl
  · obtain ⟨cs, e⟩ := enc_ptr d t
    have hd := dep_lt (okD_root h1) (by omega) (by omega)
    have hdep := depF_enc (okD_root h1) (by omega) hd
    rw [e]
    show callW gFoA cs s y [[.ptr 2 0], [.str s], [.eptr cs]] o (fun bs o b => k bs o (.tuple [])) = _
    unfold callW gFoA
    rw [← e, hdep]
    unfold gFo
    rw [← e, dec_enc hv, Option.bind_some, gdP_root h1 h2 hl, cond_true, Option.bind_some, e]
    rfl
theorem back_walk {R : Type} {x : PV} {l : List (Ky × PV)} (h : RootIs x l) (hl : l.length ≤ 50000) (s : Ky) (o : Out) (y : YFn) (k : List (List PV) → Out → PV → Option R) :
    (iWalk gBaA).F [[.ptr 2 0], [.str s], [x]] o [.yld, .ptr 0 0, .ptr 1 0] y k = walkY y (backK s l) [[.ptr 2 0], [.str s], [x]] o fun bs o b => k bs o (.tuple []) := by
  rcases h with ⟨rfl, rfl⟩ | ⟨d, t, rfl, h1, h2, rfl, hv⟩
  · rfl
  · obtain ⟨cs, e⟩ := enc_ptr d t
    have hd := dep_lt (okD_root h1) (by omega) (by omega)
    have hdep := depF_enc (okD_root h1) (by omega) hd
    rw [e]
    show callW gBaA cs s y [[.ptr 2 0], [.str s], [.eptr cs]] o (fun bs o b => k bs o (.tuple [])) = _
    unfold callW gBaA
    rw [← e, hdep]
    unfold gBa
    rw [← e, dec_enc hv, Option.bind_some, gdP_root h1 h2 hl, cond_true, Option.bind_some, e]
    rfl
end Go.Proofs.Ytmacjkiamejcnaa
