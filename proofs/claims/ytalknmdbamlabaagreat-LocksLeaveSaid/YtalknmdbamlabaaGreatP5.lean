/- The tree: New, Get, Put. Conditions: none. -/
import Derived.Test.YtalknmdbamlabaaGreatP4
namespace Go.Proofs.YtalknmdbamlabaaGreat.Q
open Go
open SL (bk bkn mp old exS puS emS stS)
theorem rise_split (k : ByteArray) : ∀ {l : List It}, RiseI l →
    ((∃ A w B, l = A ++ (k, w) :: B ∧ (∀ y ∈ A, bl y.1 k = true) ∧ ∀ y ∈ B, bl k y.1 = true) ∨ (∃ A B, l = A ++ B ∧ (∀ y ∈ A, bl y.1 k = true) ∧ ∀ y ∈ B, bl k y.1 = true))
  | [], _ => .inr ⟨[], [], rfl, by simp, by simp⟩
  | x :: l, h => by
    obtain ⟨h1, h2⟩ := RiseI_cons.1 h
    rcases bl_tri x.1 k with hx | hx | hx
    · rcases rise_split k h2 with ⟨A, w, B, rfl, hA, hB⟩ | ⟨A, B, rfl, hA, hB⟩
      · exact .inl ⟨x :: A, w, B, rfl, fun y hy => (List.mem_cons.1 hy).elim (fun e => e ▸ hx) (hA y), hB⟩
      · exact .inr ⟨x :: A, B, rfl, fun y hy => (List.mem_cons.1 hy).elim (fun e => e ▸ hx) (hA y), hB⟩
    · subst hx
      exact .inl ⟨[], x.2, l, rfl, by simp, h1⟩
    · exact .inr ⟨[], x :: l, rfl, by simp, fun y hy => (List.mem_cons.1 hy).elim (fun e => e ▸ hx) fun hy => bl_trans hx (h1 y hy)⟩
theorem ins_length {k : ByteArray} {v : List Value} {l : List It} (h : RiseI l) : (ins k v l).length = if (val k l).isSome then l.length else l.length + 1 := by
  rcases rise_split k h with ⟨A, w, B, rfl, hA, hB⟩ | ⟨A, B, rfl, hA, hB⟩
  · rw [ins_at hA hB, look_at hA hB]; simp
  · rw [ins_new hA hB, look_new hA hB]; simp; omega
theorem val_ins {k j : ByteArray} {v : List Value} {l : List It} (h : RiseI l) : val j (ins k v l) = if j = k then some v else val j l := by
  rcases rise_split k h with ⟨A, w, B, rfl, hA, hB⟩ | ⟨A, B, rfl, hA, hB⟩
  · rw [ins_at hA hB]
    split
    · subst j; exact look_at hA hB
    · rename_i hj
      rw [look_app, look_app]
      simp [val, Ne.symm hj]
  · rw [ins_new hA hB]
    split
    · subst j; exact look_at hA hB
    · rename_i hj
      rw [look_app, look_app]
      simp [val, Ne.symm hj]
def rmn : Nat → Nat
  | 0 => 0
  | _ + 1 => 1
theorem rmn_le (d : Nat) : rmn d ≤ 2 := by cases d <;> simp [rmn]
/-- a tree of these keys and values. -/
def treeR (t : Nat) (kvs : List It) : SL := exS fun pd : Nat × Nat => puS (RiseI kvs) (sep [bk t [pt pd.1 0, vi (IntKind.i64.wrap kvs.length)], ndR pd.2 (rmn pd.2) pd.1 kvs])
theorem Hs.tree {h : Hp} {t : Nat} {kvs : List It} {rs : List SL} : Hs h (treeR t kvs :: rs) ↔ ∃ p d, RiseI kvs ∧ Hs h (bk t [pt p 0, vi (IntKind.i64.wrap kvs.length)] :: ndR d (rmn d) p kvs :: rs) := by
  constructor
  · intro H
    obtain ⟨⟨p, d⟩, H⟩ := Hs.ex.1 H
    obtain ⟨h1, H⟩ := Hs.pu.1 H
    exact ⟨p, d, h1, Hs.join.1 H⟩
  · rintro ⟨p, d, h1, H⟩
    exact Hs.ex.2 ⟨(p, d), Hs.pu.2 ⟨h1, Hs.join.2 H⟩⟩
theorem ndR_nil {h : Hp} {p : Nat} {rs : List SL} (H : Hs h (bk p [nilS, nilS] :: rs)) : Hs h (ndR 0 0 p [] :: rs) := by
  refine Hs.nd.2 ⟨nilS, nilS, [], [], Nat.le_refl _, by simp, ⟨rfl, rfl⟩, ?_⟩
  refine Hs.perm (rs := emS :: vec 1 nilS [] :: vec 5 nilS [] :: bk p [nilS, nilS] :: rs) (Hs.em.2 (Hs.vec0 (Hs.vec0 H))) ?_
  show List.Perm _ (bk p [nilS, nilS] :: vec 5 nilS [] :: vec 1 nilS [] :: emS :: rs)
  repeat (first | with_reducible exact List.Perm.refl _ | with_reducible refine pm0 ?_ | with_reducible refine pm1 ?_ | with_reducible refine pm2 ?_ | with_reducible refine pm3 ?_ | with_reducible refine pm4 ?_ | with_reducible refine pm5 ?_ | with_reducible refine pm6 ?_ | with_reducible refine pm7 ?_ | with_reducible refine pm8 ?_ | with_reducible refine pm9 ?_ | with_reducible refine pm10 ?_ | with_reducible refine pm11 ?_ | with_reducible refine pm12 ?_ | with_reducible refine pm13 ?_)
theorem s102 {h : Hp} {rs : List SL} (H : Hs h rs) : FnW Tryz.prog 102 #[] (fun v h' => ∃ t, v = pt t 0 ∧ Hs h' (treeR t [] :: rs)) h := by
  refine c102 ?_
  unfold C102
  refine bd_s [nilS, nilS] rfl (bxS H fun p h H => bd_s [pt p 0, vi 0] rfl (bxS H fun t h H => ⟨t, rfl, Hs.tree.2 ⟨p, 0, List.Pairwise.nil, ?_⟩⟩))
  exact Hs.p1 (ndR_nil (Hs.p1 (H : Hs h (bk t [pt p 0, vi 0] :: bk p [nilS, nilS] :: rs))))
/-- what Get and Put give. -/
def TreeRes (t : Nat) (k : ByteArray) (kvs kvs' : List It) (rs : List SL) (r : Value) : A := fun h' =>
  It.ok (k, (val k kvs).getD zero4) ∧ r = .tuple #[.agg ((val k kvs).getD zero4).toArray, .bool (val k kvs).isSome] ∧ Hs h' (treeR t kvs' :: rs)
/-! Get -/
theorem s241 {h : Hp} {rs : List SL} {t : Nat} {kvs : List It} {k : ByteArray} (H : Hs h (treeR t kvs :: rs)) :
    FnW Tryz.prog 241 #[pt t 0, .string k] (TreeRes t k kvs kvs rs) h := by
  refine c241 ?_
  unfold C241
  obtain ⟨p, d, hr, H⟩ := Hs.tree.1 H
  refine alS H fun x h H => nc_s (fa_s (ld1S H.p1 (pt p 0) rfl ?_))
  refine ⟨fun m v h => ∃ d mn p kvs' rs', v = pt p 0 ∧ m = d ∧ RiseI kvs' ∧ val k kvs' = val k kvs ∧ Hs h (bk x zero4 :: ndR d mn p kvs' :: rs') ∧ (∀ h', Hs h' (ndR d mn p kvs' :: rs') → Hs h' (treeR t kvs :: rs)),
    ⟨d, d, rmn d, p, kvs, _, rfl, rfl, hr, rfl, H.perm (by repeat (first | with_reducible exact List.Perm.refl _ | with_reducible refine pm0 ?_ | with_reducible refine pm1 ?_ | with_reducible refine pm2 ?_ | with_reducible refine pm3 ?_ | with_reducible refine pm4 ?_ | with_reducible refine pm5 ?_ | with_reducible refine pm6 ?_ | with_reducible refine pm7 ?_ | with_reducible refine pm8 ?_ | with_reducible refine pm9 ?_ | with_reducible refine pm10 ?_ | with_reducible refine pm11 ?_ | with_reducible refine pm12 ?_ | with_reducible refine pm13 ?_)), fun h' H' => Hs.tree.2 ⟨p, d, hr, H'.p1⟩⟩, ?_⟩
  rintro m σ0 _ h ⟨d, mn, p, kvs', rs', rfl, rfl, hr', hval, H, back⟩
  obtain ⟨si, sk, its, qs, h1, h2, hs, H⟩ := Hs.nd.1 H.p1
  have hri := nfit_rise hs hr'
  have back : ∀ h', Hs h' (bk p [si, sk] :: vec 5 si (its.map It.c) :: vec 1 sk (qs.map kpt) :: kids m qs :: rs') → Hs h' (treeR t kvs :: rs) := fun h' H' => back h' (Hs.nd.2 ⟨si, sk, its, qs, h1, h2, hs, H'⟩)
  refine cl_s b326 (s326 (rs := vec 1 sk (qs.map kpt) :: kids m qs :: bk x zero4 :: rs') (H.perm (by repeat (first | with_reducible exact List.Perm.refl _ | with_reducible refine pm0 ?_ | with_reducible refine pm1 ?_ | with_reducible refine pm2 ?_ | with_reducible refine pm3 ?_ | with_reducible refine pm4 ?_ | with_reducible refine pm5 ?_ | with_reducible refine pm6 ?_ | with_reducible refine pm7 ?_ | with_reducible refine pm8 ?_ | with_reducible refine pm9 ?_ | with_reducible refine pm10 ?_ | with_reducible refine pm11 ?_ | with_reducible refine pm12 ?_ | with_reducible refine pm13 ?_))) hri (by omega)) ?_
  rintro _ h ⟨i, hp, rfl, H⟩
  obtain ⟨hlo, hil, hcase⟩ := pos_split hri hp
  refine ex_s _ rfl (ex_s _ rfl (cn_s (fun hf => ?_) fun hf => ?_))
  · have hf := of_decide_eq_true hf
    obtain ⟨w, _, e, hw, hhi⟩ := hcase.resolve_right fun hn => hn.1 hf
    obtain ⟨hi, hiw⟩ := List.getElem?_eq_some_iff.1 hw
    obtain ⟨A, B, ek, hA, hB, hfit⟩ := nfit_found hs hr' e hi hlo hhi
    have hwok : It.ok (k, w) := by rw [← hiw]; exact H.p1.itOk _ (List.getElem_mem hi)
    have hv : val k kvs = some w := by rw [← hval, ek]; exact look_at hA hB
    have him : i < (its.map It.c).length := by rw [List.length_map]; exact hi
    have hic : (its.map It.c)[i] = It.c (k, w) := by rw [List.getElem_map, hiw]
    refine nc_s (fa_s (ld1S H si rfl (ixV H.p1 i rfl him fun b hrd => fa_s ?_)))
    rw [hic] at hrd
    have hrd2 := hrd.sub 1 4 (by simp [It.c, hwok.1])
    have hw4 : ((It.c (k, w)).drop 1).take 4 = w := by simp [It.c, ← hwok.1]
    rw [hw4] at hrd2
    refine ldnR hrd2 hwok.1.symm (staS H.p4 hwok.1 rfl hwok.2 fun h H => ldaS H hwok.1 ⟨by rw [hv]; exact hwok, by rw [hv]; rfl, back h (H.drop.perm (by repeat (first | with_reducible exact List.Perm.refl _ | with_reducible refine pm0 ?_ | with_reducible refine pm1 ?_ | with_reducible refine pm2 ?_ | with_reducible refine pm3 ?_ | with_reducible refine pm4 ?_ | with_reducible refine pm5 ?_ | with_reducible refine pm6 ?_ | with_reducible refine pm7 ?_ | with_reducible refine pm8 ?_ | with_reducible refine pm9 ?_ | with_reducible refine pm10 ?_ | with_reducible refine pm11 ?_ | with_reducible refine pm12 ?_ | with_reducible refine pm13 ?_)))⟩)
  · have hf := of_decide_eq_false hf
    obtain ⟨_, hhi⟩ := hcase.resolve_left fun ⟨_, h, _⟩ => hf h
    have z4 : It.ok (k, zero4) := ⟨rfl, by simp [oneC]⟩
    refine nc_s (fa_s (ld1S H sk rfl (lnV H.p2 ?_)))
    rw [List.length_map]
    refine cn_eql (fun hq => ?_) fun hq => ?_
    · have hq0 : qs = [] := List.eq_nil_of_length_eq_zero (by omega)
      have hv : val k kvs = none := by
        cases m with
        | zero =>
          rw [← hval, hs.2]
          have := look_new (k := k) hlo hhi
          rwa [List.take_append_drop] at this
        | succ d => have := hs.1; rw [hq0] at this; simp at this
      refine ldaS H.p4 rfl (staS H.p4 rfl rfl z4.2 fun h H => ldaS H rfl ⟨by rw [hv]; exact z4, by rw [hv]; rfl, back h (H.drop.perm (by repeat (first | with_reducible exact List.Perm.refl _ | with_reducible refine pm0 ?_ | with_reducible refine pm1 ?_ | with_reducible refine pm2 ?_ | with_reducible refine pm3 ?_ | with_reducible refine pm4 ?_ | with_reducible refine pm5 ?_ | with_reducible refine pm6 ?_ | with_reducible refine pm7 ?_ | with_reducible refine pm8 ?_ | with_reducible refine pm9 ?_ | with_reducible refine pm10 ?_ | with_reducible refine pm11 ?_ | with_reducible refine pm12 ?_ | with_reducible refine pm13 ?_)))⟩)
    · cases m with
      | zero => exact absurd (by rw [hs.1]; rfl) hq
      | succ d =>
        have hl := hs.1
        obtain ⟨q, eq, hqi, ek⟩ := nfit_cut hs hil
        obtain ⟨hb1, hb2⟩ := nfit_bounds (k := k) hs hr' hil
        have hrq : RiseI q.2 := by rw [ek] at hr'; exact (RiseI_app.1 (RiseI_app.1 hr').1).2.1
        have hv : val k q.2 = val k kvs := by rw [← hval, ek]; exact (look_mid (hb1 hlo) (hb2 hhi)).symm
        have hqm : i < (qs.map kpt).length := by rw [List.length_map]; omega
        have hqe : (qs.map kpt)[i] = [pt q.1 0] := by
          rw [List.getElem_map]
          obtain ⟨h1, h2⟩ := List.getElem?_eq_some_iff.1 hqi
          rw [h2]
        refine nc_s (fa_s (ld1S H sk rfl (ixV H.p2 i rfl hqm fun b hrd => ?_)))
        rw [hqe] at hrd
        have H := H.perm (rs' := kids (d + 1) qs :: bk p [si, sk] :: vec 5 si (its.map It.c) :: vec 1 sk (qs.map kpt) :: bk x zero4 :: rs') (by repeat (first | with_reducible exact List.Perm.refl _ | with_reducible refine pm0 ?_ | with_reducible refine pm1 ?_ | with_reducible refine pm2 ?_ | with_reducible refine pm3 ?_ | with_reducible refine pm4 ?_ | with_reducible refine pm5 ?_ | with_reducible refine pm6 ?_ | with_reducible refine pm7 ?_ | with_reducible refine pm8 ?_ | with_reducible refine pm9 ?_ | with_reducible refine pm10 ?_ | with_reducible refine pm11 ?_ | with_reducible refine pm12 ?_ | with_reducible refine pm13 ?_))
        have ekids : ∀ (h : Hp) (rs : List SL), Hs h (kids (d + 1) qs :: rs) ↔ Hs h (ndR d 2 q.1 q.2 :: sep ((qs.take i).map (kf d)) :: sep ((qs.drop (i + 1)).map (kf d)) :: rs) := by
          intro h rs
          conv => lhs; rw [eq]
          simp only [kids]
          exact sep_mid
        rw [ekids] at H
        refine ld1R hrd ⟨d, Nat.lt_succ_self d, d, 2, q.1, q.2, sep ((qs.take i).map (kf d)) :: sep ((qs.drop (i + 1)).map (kf d)) :: bk p [si, sk] :: vec 5 si (its.map It.c) :: vec 1 sk (qs.map kpt) :: rs', rfl, rfl, hrq, hv, H.perm (by repeat (first | with_reducible exact List.Perm.refl _ | with_reducible refine pm0 ?_ | with_reducible refine pm1 ?_ | with_reducible refine pm2 ?_ | with_reducible refine pm3 ?_ | with_reducible refine pm4 ?_ | with_reducible refine pm5 ?_ | with_reducible refine pm6 ?_ | with_reducible refine pm7 ?_ | with_reducible refine pm8 ?_ | with_reducible refine pm9 ?_ | with_reducible refine pm10 ?_ | with_reducible refine pm11 ?_ | with_reducible refine pm12 ?_ | with_reducible refine pm13 ?_)), fun h' H' => back h' ?_⟩
        exact ((ekids h' _).2 H').perm (by repeat (first | with_reducible exact List.Perm.refl _ | with_reducible refine pm0 ?_ | with_reducible refine pm1 ?_ | with_reducible refine pm2 ?_ | with_reducible refine pm3 ?_ | with_reducible refine pm4 ?_ | with_reducible refine pm5 ?_ | with_reducible refine pm6 ?_ | with_reducible refine pm7 ?_ | with_reducible refine pm8 ?_ | with_reducible refine pm9 ?_ | with_reducible refine pm10 ?_ | with_reducible refine pm11 ?_ | with_reducible refine pm12 ?_ | with_reducible refine pm13 ?_))
/-! Put -/
def R321 (t_a0 v2 : Value) (R : Value → A) (old_21 had_22 mid_23 right_24 : Value) : A :=
 jn 0 (fun k25 =>
  be Tryz.prog 556 true mid_23 (Value.pointer none) fun v26 =>
   cn v26
   (nc mid_23 fun v27 =>
    ldn 5 v27 fun v28 =>
    nc t_a0 fun v29 =>
    fa v29 0 fun v30 =>
    ld1 v30 fun v31 =>
    an2 (bsl [Value.string { data := #[] }, Value.bool false, Value.slice none 0 0, Value.int IntKind.i64 0, Value.int IntKind.u64 0] 506 1 [(0, 5, v28)] fun v32 =>
    an2 (ld1 v30 (fun u _ => u = v31)) <|
    bsl [Value.pointer none] 399 2 [(0, 1, v31), (1, 1, right_24)] fun v33 =>
    an2 (ldn 5 v27 (fun u _ => u = v28)) <|
    bd [Value.slice none 0 0, Value.slice none 0 0] [(0, 1, v32), (1, 1, v33)] fun v34 =>
    bx 403 v34 fun v35 =>
    nc t_a0 fun v36 =>
    fa v36 0 fun v37 =>
    st 1 v37 v35 <|
    k25) (bsl [Value.pointer none] 399 2 [(0, 1, v31), (1, 1, right_24)] fun v38 =>
    an2 (ldn 5 v27 (fun u _ => u = v28)) <|
    bsl [Value.string { data := #[] }, Value.bool false, Value.slice none 0 0, Value.int IntKind.i64 0, Value.int IntKind.u64 0] 506 1 [(0, 5, v28)] fun v39 =>
    an2 (ld1 v30 (fun u _ => u = v31)) <|
    bd [Value.slice none 0 0, Value.slice none 0 0] [(0, 1, v39), (1, 1, v38)] fun v40 =>
    bx 403 v40 fun v41 =>
    nc t_a0 fun v42 =>
    fa v42 0 fun v43 =>
    st 1 v43 v41 <|
    k25))
   (k25))
  (fun _ =>
  jn 0 (fun k44 =>
   un .not had_22 fun v45 =>
    cn v45
    (nc t_a0 fun v46 =>
     fa v46 1 fun v47 =>
     ld1 v47 fun v48 =>
     bn .add v48 (Value.int IntKind.i64 1) fun v49 =>
     nc t_a0 fun v50 =>
     fa v50 1 fun v51 =>
     st 1 v51 v49 <|
     k44)
    (k44))
   (fun _ =>
   ldn 4 old_21 fun v52 =>
    st 4 v2 v52 <|
    ldn 4 v2 fun v53 => R (Value.tuple #[v53, had_22])))
def Q321 (t_a0 v2 : Value) (R : Value → A) (old_21 had_22 : Value) : A :=
 jn 0 (fun k44 =>
   un .not had_22 fun v45 =>
    cn v45
    (nc t_a0 fun v46 =>
     fa v46 1 fun v47 =>
     ld1 v47 fun v48 =>
     bn .add v48 (Value.int IntKind.i64 1) fun v49 =>
     nc t_a0 fun v50 =>
     fa v50 1 fun v51 =>
     st 1 v51 v49 <|
     k44)
    (k44))
   (fun _ =>
   ldn 4 old_21 fun v52 =>
    st 4 v2 v52 <|
    ldn 4 v2 fun v53 => R (Value.tuple #[v53, had_22]))
theorem wrap_add (a b : Int) : IntKind.i64.wrap (IntKind.i64.wrap a + b) = IntKind.i64.wrap (a + b) := by
  have e : ∀ n : Int, IntKind.i64.wrap n = if n % 18446744073709551616 ≥ 9223372036854775808 then n % 18446744073709551616 - 18446744073709551616 else n % 18446744073709551616 := by
    intro n; simp [IntKind.wrap, IntKind.bits, IntKind.signed]
  rw [e, e, e]; split <;> split <;> split <;> omega
theorem q321 {h : Hp} {rs : List SL} {t p d x old : Nat} {kvs kvs' : List It} {oc : List Value} {had : Bool} {R : Value → A} (ho : oc.length = 4) (ho1 : ∀ u ∈ oc, oneC u = true) (hr : RiseI kvs')
    (hl : kvs'.length = if had then kvs.length else kvs.length + 1) (H : Hs h (bk t [pt p 0, vi (IntKind.i64.wrap kvs.length)] :: ndR d (rmn d) p kvs' :: bk old oc :: bk x zero4 :: rs))
    (k : ∀ h', Hs h' (treeR t kvs' :: rs) → R (.tuple #[.agg oc.toArray, .bool had]) h') : Q321 (pt t 0) (pt x 0) R (pt old 0) (.bool had) h := by
  unfold Q321
  intro k44 hk
  have fin : ∀ h', Hs h' (bk t [pt p 0, vi (IntKind.i64.wrap kvs'.length)] :: ndR d (rmn d) p kvs' :: bk old oc :: bk x zero4 :: rs) → k44 h' := by
    intro h' H'
    refine hk h' fun _ => ldaS H'.p2 ho (staS H'.p3 ho rfl ho1 fun h H => ldaS H ho (k h (Hs.tree.2 ⟨p, d, hr, ?_⟩)))
    exact (H.perm (rs' := bk old oc :: bk x oc :: bk t [pt p 0, vi (IntKind.i64.wrap kvs'.length)] :: ndR d (rmn d) p kvs' :: rs) (by repeat (first | with_reducible exact List.Perm.refl _ | with_reducible refine pm0 ?_ | with_reducible refine pm1 ?_ | with_reducible refine pm2 ?_ | with_reducible refine pm3 ?_ | with_reducible refine pm4 ?_ | with_reducible refine pm5 ?_ | with_reducible refine pm6 ?_ | with_reducible refine pm7 ?_ | with_reducible refine pm8 ?_ | with_reducible refine pm9 ?_ | with_reducible refine pm10 ?_ | with_reducible refine pm11 ?_ | with_reducible refine pm12 ?_ | with_reducible refine pm13 ?_))).drop.drop
  refine un_s (.bool !had) rfl ?_
  cases had with
  | true =>
    refine cn_f (fin h ?_)
    rw [hl]; exact H
  | false =>
    refine cn_t (nc_s (fa_s (ld1S H (vi (IntKind.i64.wrap kvs.length)) rfl (bn_s (vi (IntKind.i64.wrap kvs'.length)) ?_ (nc_s (fa_s (st1S H rfl (by simp) fun h H => fin h H)))))))
    simp only [binV, intV, if_true]
    rw [wrap_add, hl]; rfl
theorem r321 {h : Hp} {rs : List SL} {t p d x old : Nat} {kvs kvs' : List It} {oc : List Value} {had : Bool} {R : Value → A} {mid right : Value} (ho : oc.length = 4) (ho1 : ∀ u ∈ oc, oneC u = true) (hr : RiseI kvs')
    (hl : kvs'.length = if had then kvs.length else kvs.length + 1)
    (H : (mid = .pointer none ∧ Hs h (bk t [pt p 0, vi (IntKind.i64.wrap kvs.length)] :: ndR d (rmn d) p kvs' :: bk old oc :: bk x zero4 :: rs)) ∨
      ∃ m q y a b, mid = pt m 0 ∧ right = pt q 0 ∧ kvs' = a ++ y :: b ∧ y.ok ∧ Hs h (bk t [pt p 0, vi (IntKind.i64.wrap kvs.length)] :: ndR d 2 p a :: ndR d 2 q b :: bk m y.c :: bk old oc :: bk x zero4 :: rs))
    (k : ∀ h', Hs h' (treeR t kvs' :: rs) → R (.tuple #[.agg oc.toArray, .bool had]) h') : R321 (pt t 0) (pt x 0) R (pt old 0) (.bool had) mid right h := by
  unfold R321
  intro k25 hk
  have fin : ∀ p d h, Hs h (bk t [pt p 0, vi (IntKind.i64.wrap kvs.length)] :: ndR d (rmn d) p kvs' :: bk old oc :: bk x zero4 :: rs) → k25 h :=
    fun p d h H => hk h fun _ => q321 ho ho1 hr hl H k
  rcases H with ⟨rfl, H⟩ | ⟨m, q, y, a, b, rfl, rfl, e, hy, H⟩
  · exact beP und556 (cn_f (fin _ _ h H))
  · obtain ⟨hy5, hy1⟩ := It.ok_c hy
    have last : ∀ h s n w, Hs h (bk n [sl s 0 1 1, sl w 0 2 2] :: bk w [pt p 0, pt q 0] :: bk s y.c :: bk t [pt n 0, vi (IntKind.i64.wrap kvs.length)] :: ndR d 2 p a :: ndR d 2 q b :: bk m y.c :: bk old oc :: bk x zero4 :: rs) → k25 h := by
      intro h s n w H
      refine fin n (d + 1) h ?_
      have H := H.perm (rs' := bk s y.c :: bk w [pt p 0, pt q 0] :: bk n [sl s 0 1 1, sl w 0 2 2] :: bk t [pt n 0, vi (IntKind.i64.wrap kvs.length)] :: ndR d 2 p a :: ndR d 2 q b :: bk m y.c :: bk old oc :: bk x zero4 :: rs) (by repeat (first | with_reducible exact List.Perm.refl _ | with_reducible refine pm0 ?_ | with_reducible refine pm1 ?_ | with_reducible refine pm2 ?_ | with_reducible refine pm3 ?_ | with_reducible refine pm4 ?_ | with_reducible refine pm5 ?_ | with_reducible refine pm6 ?_ | with_reducible refine pm7 ?_ | with_reducible refine pm8 ?_ | with_reducible refine pm9 ?_ | with_reducible refine pm10 ?_ | with_reducible refine pm11 ?_ | with_reducible refine pm12 ?_ | with_reducible refine pm13 ?_))
      have v1 : VOk 5 [y.c] 1 [] := ⟨by simpa using hy5, by simpa using hy1, by simp, by simp⟩
      have v2 : VOk 1 [[pt p 0], [pt q 0]] 2 [] := ⟨by simp, by simp [oneC], by simp, by simp⟩
      have H : Hs h (vec 5 (sl s 0 1 1) [y.c] :: _) := Hs.vec1 v1 (by simpa using H)
      have H : Hs h (vec 1 (sl w 0 2 2) [[pt p 0], [pt q 0]] :: _) := Hs.vec1 v2 (by simpa using H.p1)
      have H := H.perm (rs' := ndR d 2 p a :: ndR d 2 q b :: bk n [sl s 0 1 1, sl w 0 2 2] :: vec 5 (sl s 0 1 1) [y.c] :: vec 1 (sl w 0 2 2) [[pt p 0], [pt q 0]] :: bk t [pt n 0, vi (IntKind.i64.wrap kvs.length)] :: bk old oc :: bk x zero4 :: bk m y.c :: rs) (by repeat (first | with_reducible exact List.Perm.refl _ | with_reducible refine pm0 ?_ | with_reducible refine pm1 ?_ | with_reducible refine pm2 ?_ | with_reducible refine pm3 ?_ | with_reducible refine pm4 ?_ | with_reducible refine pm5 ?_ | with_reducible refine pm6 ?_ | with_reducible refine pm7 ?_ | with_reducible refine pm8 ?_ | with_reducible refine pm9 ?_ | with_reducible refine pm10 ?_ | with_reducible refine pm11 ?_ | with_reducible refine pm12 ?_ | with_reducible refine pm13 ?_))
      have H : Hs h (kids (d + 1) [(p, a), (q, b)] :: _) := Hs.st.2 (Hs.p1 (Hs.st.2 (Hs.p1 (Hs.em.2 H.p1))))
      have H2 : Hs h (ndR (d + 1) 1 n kvs' :: bk t [pt n 0, vi (IntKind.i64.wrap kvs.length)] :: bk old oc :: bk x zero4 :: bk m y.c :: rs) := by
        refine Hs.nd.2 ⟨sl s 0 1 1, sl w 0 2 2, [y], [(p, a), (q, b)], by simp, by simp, ⟨rfl, by rw [e]; simp [inter]⟩, ?_⟩
        show Hs h (bk n [sl s 0 1 1, sl w 0 2 2] :: vec 5 (sl s 0 1 1) [y.c] :: vec 1 (sl w 0 2 2) [[pt p 0], [pt q 0]] :: kids (d + 1) [(p, a), (q, b)] :: bk t [pt n 0, vi (IntKind.i64.wrap kvs.length)] :: bk old oc :: bk x zero4 :: bk m y.c :: rs)
        exact H.perm (by repeat (first | with_reducible exact List.Perm.refl _ | with_reducible refine pm0 ?_ | with_reducible refine pm1 ?_ | with_reducible refine pm2 ?_ | with_reducible refine pm3 ?_ | with_reducible refine pm4 ?_ | with_reducible refine pm5 ?_ | with_reducible refine pm6 ?_ | with_reducible refine pm7 ?_ | with_reducible refine pm8 ?_ | with_reducible refine pm9 ?_ | with_reducible refine pm10 ?_ | with_reducible refine pm11 ?_ | with_reducible refine pm12 ?_ | with_reducible refine pm13 ?_))
      exact (H2.perm (rs' := bk m y.c :: bk t [pt n 0, vi (IntKind.i64.wrap kvs.length)] :: ndR (d + 1) (rmn (d + 1)) n kvs' :: bk old oc :: bk x zero4 :: rs) (by
        show List.Perm _ (bk m y.c :: bk t [pt n 0, vi (IntKind.i64.wrap kvs.length)] :: ndR (d + 1) 1 n kvs' :: bk old oc :: bk x zero4 :: rs)
        repeat (first | with_reducible exact List.Perm.refl _ | with_reducible refine pm0 ?_ | with_reducible refine pm1 ?_ | with_reducible refine pm2 ?_ | with_reducible refine pm3 ?_ | with_reducible refine pm4 ?_ | with_reducible refine pm5 ?_ | with_reducible refine pm6 ?_ | with_reducible refine pm7 ?_ | with_reducible refine pm8 ?_ | with_reducible refine pm9 ?_ | with_reducible refine pm10 ?_ | with_reducible refine pm11 ?_ | with_reducible refine pm12 ?_ | with_reducible refine pm13 ?_))).drop
    refine beP und556 (cn_t (nc_s (ldaS H.p3 hy5 (nc_s (fa_s (ld1S H (pt p 0) rfl ⟨?_, ?_⟩))))))
    · refine bslS H y.c (by simp [fill2, rep, Value.cells, hy5]) fun s h H => ⟨ld1S H.p1 (pt p 0) rfl rfl, ?_⟩
      refine bslS H [pt p 0, pt q 0] (by simp [fill2, rep, Value.cells]) fun w h H => ⟨ldaS H.p5 hy5 rfl, bd_s [sl s 0 1 1, sl w 0 2 2] (by simp [fill2, Value.cells]) (bxS H fun n h H => nc_s (fa_s (st1S H.p3 rfl (by simp) fun h H => last h s n w ?_)))⟩
      have H : Hs h (bk t [pt n 0, vi (IntKind.i64.wrap kvs.length)] :: bk n [sl s 0 1 1, sl w 0 2 2] :: bk w [pt p 0, pt q 0] :: bk s y.c :: ndR d 2 p a :: ndR d 2 q b :: bk m y.c :: bk old oc :: bk x zero4 :: rs) := H
      exact H.perm (by repeat (first | with_reducible exact List.Perm.refl _ | with_reducible refine pm0 ?_ | with_reducible refine pm1 ?_ | with_reducible refine pm2 ?_ | with_reducible refine pm3 ?_ | with_reducible refine pm4 ?_ | with_reducible refine pm5 ?_ | with_reducible refine pm6 ?_ | with_reducible refine pm7 ?_ | with_reducible refine pm8 ?_ | with_reducible refine pm9 ?_ | with_reducible refine pm10 ?_ | with_reducible refine pm11 ?_ | with_reducible refine pm12 ?_ | with_reducible refine pm13 ?_))
    · refine bslS H [pt p 0, pt q 0] (by simp [fill2, rep, Value.cells]) fun w h H => ⟨ldaS H.p4 hy5 rfl, ?_⟩
      refine bslS H y.c (by simp [fill2, rep, Value.cells, hy5]) fun s h H => ⟨ld1S H.p2 (pt p 0) rfl rfl, bd_s [sl s 0 1 1, sl w 0 2 2] (by simp [fill2, Value.cells]) (bxS H fun n h H => nc_s (fa_s (st1S H.p3 rfl (by simp) fun h H => last h s n w ?_)))⟩
      have H : Hs h (bk t [pt n 0, vi (IntKind.i64.wrap kvs.length)] :: bk n [sl s 0 1 1, sl w 0 2 2] :: bk s y.c :: bk w [pt p 0, pt q 0] :: ndR d 2 p a :: ndR d 2 q b :: bk m y.c :: bk old oc :: bk x zero4 :: rs) := H
      exact H.perm (by repeat (first | with_reducible exact List.Perm.refl _ | with_reducible refine pm0 ?_ | with_reducible refine pm1 ?_ | with_reducible refine pm2 ?_ | with_reducible refine pm3 ?_ | with_reducible refine pm4 ?_ | with_reducible refine pm5 ?_ | with_reducible refine pm6 ?_ | with_reducible refine pm7 ?_ | with_reducible refine pm8 ?_ | with_reducible refine pm9 ?_ | with_reducible refine pm10 ?_ | with_reducible refine pm11 ?_ | with_reducible refine pm12 ?_ | with_reducible refine pm13 ?_))
theorem s321 {h : Hp} {rs : List SL} {t : Nat} {kvs : List It} {k : ByteArray} {v : List Value} (H : Hs h (treeR t kvs :: rs)) (hv : It.ok (k, v)) :
    FnW Tryz.prog 321 #[pt t 0, .string k, .agg v.toArray] (TreeRes t k kvs (ins k v kvs) rs) h := by
  refine c321 ?_
  unfold C321
  obtain ⟨p, d, hr, H⟩ := Hs.tree.1 H
  have hvc : (Value.agg v.toArray).cells.toList = v := by simp [Value.cells]
  have z4 : ∀ u ∈ zero4, oneC u = true := by simp [oneC]
  refine bxS H fun x1 h H => alS H fun x h H => ?_
  rw [hvc] at H
  intro k3 hk3
  have fin : ∀ h old mid right, It.ok (k, (val k kvs).getD zero4) → ((mid = .pointer none ∧ Hs h (bk t [pt p 0, vi (IntKind.i64.wrap kvs.length)] :: ndR d (rmn d) p (ins k v kvs) :: bk old ((val k kvs).getD zero4) :: bk x zero4 :: rs)) ∨
      ∃ m q y a b, mid = pt m 0 ∧ right = pt q 0 ∧ ins k v kvs = a ++ y :: b ∧ y.ok ∧ Hs h (bk t [pt p 0, vi (IntKind.i64.wrap kvs.length)] :: ndR d 2 p a :: ndR d 2 q b :: bk m y.c :: bk old ((val k kvs).getD zero4) :: bk x zero4 :: rs)) →
      k3 (pt old 0) (.bool (val k kvs).isSome) mid right h := by
    intro h old mid right hok H
    refine hk3 _ _ _ _ h fun _ => ?_
    exact r321 (R := TreeRes t k kvs (ins k v kvs) rs) hok.1 hok.2 (rise_ins hr) (ins_length hr) H fun h' H' => ⟨hok, rfl, H'⟩
  refine nc_s (fa_s (ld1S H.p2 (pt p 0) rfl (ldaS H.p1 hv.1 (bd_s (It.c (k, v)) ?_ ⟨?_, ?_⟩))))
  · simp [fill2, Value.cells, hv.1, It.c]
  · refine cl_s b386 (s386 d (rmn d) p kvs k v h (bk x zero4 :: bk x1 v :: bk t [pt p 0, vi (IntKind.i64.wrap kvs.length)] :: rs) (rmn_le d) (H.perm (by repeat (first | with_reducible exact List.Perm.refl _ | with_reducible refine pm0 ?_ | with_reducible refine pm1 ?_ | with_reducible refine pm2 ?_ | with_reducible refine pm3 ?_ | with_reducible refine pm4 ?_ | with_reducible refine pm5 ?_ | with_reducible refine pm6 ?_ | with_reducible refine pm7 ?_ | with_reducible refine pm8 ?_ | with_reducible refine pm9 ?_ | with_reducible refine pm10 ?_ | with_reducible refine pm11 ?_ | with_reducible refine pm12 ?_ | with_reducible refine pm13 ?_))) hr hv) ?_
    rintro _ h ⟨hok, ⟨rfl, H⟩ | ⟨m, q, y, a, b, rfl, e, hy, H⟩⟩
    · refine ex_s _ rfl (ex_s _ rfl (ex_s _ rfl (ex_s _ rfl (alS H fun old h H => ⟨ld1S H.p4 (pt p 0) rfl rfl, ldaS H.p3 hv.1 rfl, staS H hok.1 rfl hok.2 fun h H => fin h old _ _ hok (.inl ⟨rfl, ?_⟩)⟩))))
      exact (H.perm (rs' := bk x1 v :: bk t [pt p 0, vi (IntKind.i64.wrap kvs.length)] :: ndR d (rmn d) p (ins k v kvs) :: bk old ((val k kvs).getD zero4) :: bk x zero4 :: rs) (by repeat (first | with_reducible exact List.Perm.refl _ | with_reducible refine pm0 ?_ | with_reducible refine pm1 ?_ | with_reducible refine pm2 ?_ | with_reducible refine pm3 ?_ | with_reducible refine pm4 ?_ | with_reducible refine pm5 ?_ | with_reducible refine pm6 ?_ | with_reducible refine pm7 ?_ | with_reducible refine pm8 ?_ | with_reducible refine pm9 ?_ | with_reducible refine pm10 ?_ | with_reducible refine pm11 ?_ | with_reducible refine pm12 ?_ | with_reducible refine pm13 ?_))).drop
    · refine ex_s _ rfl (ex_s _ rfl (ex_s _ rfl (ex_s _ rfl (alS H fun old h H => ⟨ld1S H.p6 (pt p 0) rfl rfl, ldaS H.p5 hv.1 rfl, staS H hok.1 rfl hok.2 fun h H => fin h old _ _ hok (.inr ⟨m, q, y, a, b, rfl, rfl, e, hy, ?_⟩)⟩))))
      exact (H.perm (rs' := bk x1 v :: bk t [pt p 0, vi (IntKind.i64.wrap kvs.length)] :: ndR d 2 p a :: ndR d 2 q b :: bk m y.c :: bk old ((val k kvs).getD zero4) :: bk x zero4 :: rs) (by repeat (first | with_reducible exact List.Perm.refl _ | with_reducible refine pm0 ?_ | with_reducible refine pm1 ?_ | with_reducible refine pm2 ?_ | with_reducible refine pm3 ?_ | with_reducible refine pm4 ?_ | with_reducible refine pm5 ?_ | with_reducible refine pm6 ?_ | with_reducible refine pm7 ?_ | with_reducible refine pm8 ?_ | with_reducible refine pm9 ?_ | with_reducible refine pm10 ?_ | with_reducible refine pm11 ?_ | with_reducible refine pm12 ?_ | with_reducible refine pm13 ?_))).drop
  · refine alS H fun old h H => ⟨ld1S H.p3 (pt p 0) rfl rfl, ldaS H.p2 hv.1 rfl, ?_⟩
    refine cl_s b386 (s386 d (rmn d) p kvs k v h (bk old zero4 :: bk x zero4 :: bk x1 v :: bk t [pt p 0, vi (IntKind.i64.wrap kvs.length)] :: rs) (rmn_le d) (H.perm (by repeat (first | with_reducible exact List.Perm.refl _ | with_reducible refine pm0 ?_ | with_reducible refine pm1 ?_ | with_reducible refine pm2 ?_ | with_reducible refine pm3 ?_ | with_reducible refine pm4 ?_ | with_reducible refine pm5 ?_ | with_reducible refine pm6 ?_ | with_reducible refine pm7 ?_ | with_reducible refine pm8 ?_ | with_reducible refine pm9 ?_ | with_reducible refine pm10 ?_ | with_reducible refine pm11 ?_ | with_reducible refine pm12 ?_ | with_reducible refine pm13 ?_))) hr hv) ?_
    rintro _ h ⟨hok, ⟨rfl, H⟩ | ⟨m, q, y, a, b, rfl, e, hy, H⟩⟩
    · refine ex_s _ rfl (ex_s _ rfl (ex_s _ rfl (ex_s _ rfl (staS H.p1 hok.1 rfl hok.2 fun h H => fin h old _ _ hok (.inl ⟨rfl, ?_⟩)))))
      exact (H.perm (rs' := bk x1 v :: bk t [pt p 0, vi (IntKind.i64.wrap kvs.length)] :: ndR d (rmn d) p (ins k v kvs) :: bk old ((val k kvs).getD zero4) :: bk x zero4 :: rs) (by repeat (first | with_reducible exact List.Perm.refl _ | with_reducible refine pm0 ?_ | with_reducible refine pm1 ?_ | with_reducible refine pm2 ?_ | with_reducible refine pm3 ?_ | with_reducible refine pm4 ?_ | with_reducible refine pm5 ?_ | with_reducible refine pm6 ?_ | with_reducible refine pm7 ?_ | with_reducible refine pm8 ?_ | with_reducible refine pm9 ?_ | with_reducible refine pm10 ?_ | with_reducible refine pm11 ?_ | with_reducible refine pm12 ?_ | with_reducible refine pm13 ?_))).drop
    · refine ex_s _ rfl (ex_s _ rfl (ex_s _ rfl (ex_s _ rfl (staS H.p3 hok.1 rfl hok.2 fun h H => fin h old _ _ hok (.inr ⟨m, q, y, a, b, rfl, rfl, e, hy, ?_⟩)))))
      exact (H.perm (rs' := bk x1 v :: bk t [pt p 0, vi (IntKind.i64.wrap kvs.length)] :: ndR d 2 p a :: ndR d 2 q b :: bk m y.c :: bk old ((val k kvs).getD zero4) :: bk x zero4 :: rs) (by repeat (first | with_reducible exact List.Perm.refl _ | with_reducible refine pm0 ?_ | with_reducible refine pm1 ?_ | with_reducible refine pm2 ?_ | with_reducible refine pm3 ?_ | with_reducible refine pm4 ?_ | with_reducible refine pm5 ?_ | with_reducible refine pm6 ?_ | with_reducible refine pm7 ?_ | with_reducible refine pm8 ?_ | with_reducible refine pm9 ?_ | with_reducible refine pm10 ?_ | with_reducible refine pm11 ?_ | with_reducible refine pm12 ?_ | with_reducible refine pm13 ?_))).drop
end Go.Proofs.YtalknmdbamlabaaGreat.Q
