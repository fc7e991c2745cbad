/- The locks: Enter. Conditions: none. -/
import Derived.Test.YtalknmdbamlabaaGreatP15
namespace Go.Proofs.YtalknmdbamlabaaGreat.Q
open Go
open SL (bk bkn mp old it exS puS emS stS)
theorem Hs.mpNodup {κ : Type} {h : Hp} {b : Nat} {kc : κ → Value} {l : List (κ × Value)} {rs : List SL} (H : Hs h (Q.mpS b kc l :: rs)) : (l.map (·.1)).Nodup := by
  obtain ⟨bs, c, ⟨_, _, _, hk⟩, _⟩ := Hs.mpS.1 H; exact hk
def updG (k : ByteArray) (f : List Cm × List Cm → List Cm × List Cm) (G : GS) : GS := G.map fun y : ByteArray × (List Cm × List Cm) => if y.1 = k then (k, f y.2) else y
theorem gst_mid (A B : List GRow) (k : ByteArray) (x : Gt) : gst (A ++ (k, x) :: B) = gst A ++ (k, (x.ln, x.pk)) :: gst B := by simp [gst, mapV]
theorem gval_mid {A B : List GRow} {k : ByteArray} {x : Gt} (hA : ∀ y ∈ A, y.1 ≠ k) : gval k (gst (A ++ (k, x) :: B)) = some (x.ln, x.pk) := by
  have : gval k (A ++ (k, x) :: B) = some x := by
    unfold gval
    rw [List.find?_eq_some_iff_append.2 ⟨by simp, A, B, rfl, fun y hy => by simpa using hA y hy⟩]; rfl
  unfold gst
  rw [gval_mapV, this]; rfl
theorem updG_mid {A B : List GRow} {k : ByteArray} {x : Gt} {f : List Cm × List Cm → List Cm × List Cm} (hA : ∀ y ∈ A, y.1 ≠ k) (hB : ∀ y ∈ B, y.1 ≠ k) : updG k f (gst (A ++ (k, x) :: B)) = gst A ++ (k, f (x.ln, x.pk)) :: gst B := by
  have hm : ∀ (l : List GRow), (∀ y ∈ l, y.1 ≠ k) → (gst l).map (fun y : ByteArray × (List Cm × List Cm) => if y.1 = k then (k, f y.2) else y) = gst l := by
    intro l hl
    unfold gst mapV
    rw [List.map_map]
    exact List.map_congr_left fun y hy => if_neg (hl y hy)
  rw [gst_mid]
  unfold updG
  rw [List.map_append, List.map_cons, hm A hA, hm B hB, if_pos rfl]
abbrev LS := GS × List Tg
def entG (rh rc : ByteArray → Int) (t : Tg) (s : LS) (mk : Mk) : LS :=
  if ((lineOf mk.1 (addG mk.1 s.1)).any fun c => decide (c.1 = t)) || ((parkOf mk.1 (addG mk.1 s.1)).any fun c => decide (c.1 = t)) then (addG mk.1 s.1, s.2)
  else if lk (rh mk.1) (rc mk.1) mk = 0 then (updG mk.1 (fun x => (x.1 ++ [(t, mk)], x.2)) (addG mk.1 s.1), s.2)
  else if lk (rh mk.1) (rc mk.1) mk = 1 then (updG mk.1 (fun x => (x.1, x.2 ++ [(t, mk)])) (addG mk.1 s.1), s.2)
  else (addG mk.1 s.1, dm t s.2)
def G100 (l_a0 s_a1 tag_1 m_9 v12 : Value) (k6 : Cur 0) : A :=
 fa m_9 0 fun v27 =>
   ld1 v27 fun v28 =>
   ldn 3 m_9 fun v29 =>
   cl Tryz.prog 135 [s_a1, v28] fun v30 =>
   an2 (ldn 3 m_9 (fun u _ => u = v29)) <|
   cl Tryz.prog 219 [v30, v29] fun v31 =>
   jn 0 (fun k32 =>
   bn .eql v31 (Value.int IntKind.i64 0) fun v33 =>
    cn v33
    (nc v12 fun v34 =>
     fa v34 0 fun v35 =>
     ld1 v35 fun v36 =>
     ldn 4 tag_1 fun v37 =>
     ldn 3 m_9 fun v38 =>
     bd [Value.int IntKind.i64 0, Value.int IntKind.u64 0, Value.int IntKind.u64 0, Value.int IntKind.i64 0, Value.string { data := #[] }, Value.int IntKind.i64 0, Value.int IntKind.u64 0] [(0, 4, v37), (4, 3, v38)] fun v39 =>
     bsl [Value.int IntKind.i64 0, Value.int IntKind.u64 0, Value.int IntKind.u64 0, Value.int IntKind.i64 0, Value.string { data := #[] }, Value.int IntKind.i64 0, Value.int IntKind.u64 0] 229 1 [(0, 7, v39)] fun v40 =>
     an2 (ld1 v35 (fun u _ => u = v36)) <|
     apd [Value.int IntKind.i64 0, Value.int IntKind.u64 0, Value.int IntKind.u64 0, Value.int IntKind.i64 0, Value.string { data := #[] }, Value.int IntKind.i64 0, Value.int IntKind.u64 0] 64 229 v36 v40 fun v41 =>
     nc v12 fun v42 =>
     fa v42 0 fun v43 =>
     st 1 v43 v41 <|
     k32)
    (bn .eql v31 (Value.int IntKind.i64 1) fun v44 =>
     cn v44
     (nc v12 fun v45 =>
      fa v45 1 fun v46 =>
      ld1 v46 fun v47 =>
      ldn 4 tag_1 fun v48 =>
      ldn 3 m_9 fun v49 =>
      bd [Value.int IntKind.i64 0, Value.int IntKind.u64 0, Value.int IntKind.u64 0, Value.int IntKind.i64 0, Value.string { data := #[] }, Value.int IntKind.i64 0, Value.int IntKind.u64 0] [(0, 4, v48), (4, 3, v49)] fun v50 =>
      bsl [Value.int IntKind.i64 0, Value.int IntKind.u64 0, Value.int IntKind.u64 0, Value.int IntKind.i64 0, Value.string { data := #[] }, Value.int IntKind.i64 0, Value.int IntKind.u64 0] 229 1 [(0, 7, v50)] fun v51 =>
      an2 (ld1 v46 (fun u _ => u = v47)) <|
      apd [Value.int IntKind.i64 0, Value.int IntKind.u64 0, Value.int IntKind.u64 0, Value.int IntKind.i64 0, Value.string { data := #[] }, Value.int IntKind.i64 0, Value.int IntKind.u64 0] 64 229 v47 v51 fun v52 =>
      nc v12 fun v53 =>
      fa v53 1 fun v54 =>
      st 1 v54 v52 <|
      k32)
     (nc l_a0 fun v55 =>
      fa v55 1 fun v56 =>
      ld1 v56 fun v57 =>
      ldn 4 tag_1 fun v58 =>
      ru Tryz.prog (Instr.mapUpdate 208 v57 v58 (Value.int IntKind.i64 1)) fun _ =>
      k32)))
   (fun _ =>
   k6)
theorem g100 {h : Hp} {rs : List SL} {m g d so x y : Nat} {reg : Int} {rows : List (ByteArray × Rc)} {A B : List GRow} {mk : Mk} {gx : Gt} {D : List Tg} {t : Tg} {k6 : Cur 0} (hr : reg ≤ 1000) (hk : mk.1.size ≤ 1000000000)
    (hl1 : gx.ln.length ≤ 1000000) (hl2 : gx.pk.length ≤ 1000000) (hA : ∀ z ∈ A, z.1 ≠ mk.1)
    (H : Hs h (bk m [.map (some g), .map (some d)] :: mpS g Value.string (gptr (A ++ (mk.1, gx) :: B)) :: bk gx.b [gx.sl, gx.sp] :: cms gx.sl gx.ln :: cms gx.sp gx.pk :: sep (A.map gR) :: sep (B.map gR) :: mpS d tgV (dmp D) :: bk y (Mk.c mk) :: bk x (Tg.c t) :: storeR so reg rows :: rs))
    (hk6 : ∀ (h : Hp) (gx' : Gt) (D' : List Tg), gx'.b = gx.b → ((gx'.ln, gx'.pk), D') = (if lk (getRc mk.1 reg rows).home (getRc mk.1 reg rows).cnt mk = 0 then ((gx.ln ++ [(t, mk)], gx.pk), D) else if lk (getRc mk.1 reg rows).home (getRc mk.1 reg rows).cnt mk = 1 then ((gx.ln, gx.pk ++ [(t, mk)]), D) else ((gx.ln, gx.pk), dm t D)) →
      Hs h (bk m [.map (some g), .map (some d)] :: mpS g Value.string (gptr (A ++ (mk.1, gx) :: B)) :: bk gx.b [gx'.sl, gx'.sp] :: cms gx'.sl gx'.ln :: cms gx'.sp gx'.pk :: sep (A.map gR) :: sep (B.map gR) :: mpS d tgV (dmp D') :: bk y (Mk.c mk) :: bk x (Tg.c t) :: storeR so reg rows :: rs) → k6 h) :
    G100 (pt m 0) (pt so 0) (pt x 0) (pt y 0) (pt gx.b 0) k6 h := by
  unfold G100
  refine fa_s (ld1S (H.perm (rs' := bk y (Mk.c mk) :: storeR so reg rows :: bk m [.map (some g), .map (some d)] :: mpS g Value.string (gptr (A ++ (mk.1, gx) :: B)) :: bk gx.b [gx.sl, gx.sp] :: cms gx.sl gx.ln :: cms gx.sp gx.pk :: sep (A.map gR) :: sep (B.map gR) :: mpS d tgV (dmp D) :: bk x (Tg.c t) :: rs) (by repeat (first | with_reducible exact List.Perm.refl _ | with_reducible refine pm0 ?_ | with_reducible refine pm1 ?_ | with_reducible refine pm2 ?_ | with_reducible refine pm3 ?_ | with_reducible refine pm4 ?_ | with_reducible refine pm5 ?_ | with_reducible refine pm6 ?_ | with_reducible refine pm7 ?_ | with_reducible refine pm8 ?_ | with_reducible refine pm9 ?_ | with_reducible refine pm10 ?_ | with_reducible refine pm11 ?_ | with_reducible refine pm12 ?_ | with_reducible refine pm13 ?_))) (.string mk.1) rfl ?_)
  have H := H.perm (rs' := bk y (Mk.c mk) :: storeR so reg rows :: bk m [.map (some g), .map (some d)] :: mpS g Value.string (gptr (A ++ (mk.1, gx) :: B)) :: bk gx.b [gx.sl, gx.sp] :: cms gx.sl gx.ln :: cms gx.sp gx.pk :: sep (A.map gR) :: sep (B.map gR) :: mpS d tgV (dmp D) :: bk x (Tg.c t) :: rs) (by repeat (first | with_reducible exact List.Perm.refl _ | with_reducible refine pm0 ?_ | with_reducible refine pm1 ?_ | with_reducible refine pm2 ?_ | with_reducible refine pm3 ?_ | with_reducible refine pm4 ?_ | with_reducible refine pm5 ?_ | with_reducible refine pm6 ?_ | with_reducible refine pm7 ?_ | with_reducible refine pm8 ?_ | with_reducible refine pm9 ?_ | with_reducible refine pm10 ?_ | with_reducible refine pm11 ?_ | with_reducible refine pm12 ?_ | with_reducible refine pm13 ?_))
  refine ldaS H rfl (cl_s b135 (s135 hr (by omega) H.p1) ?_)
  rintro _ h ⟨sl', rfl, H⟩
  have H := H.drop.p1
  refine ⟨ldaS H rfl rfl, ?_⟩
  refine cl_s b219 (s219 (a := .bool (getRc mk.1 reg rows).has) (b := sl') (rh := (getRc mk.1 reg rows).home) (rc := (getRc mk.1 reg rows).cnt) (m := mk) H) ?_
  rintro _ h ⟨rfl, H⟩
  generalize hlk : lk (getRc mk.1 reg rows).home (getRc mk.1 reg rows).cnt mk = w at hk6
  have H := H.perm (rs' := bk gx.b [gx.sl, gx.sp] :: cms gx.sl gx.ln :: cms gx.sp gx.pk :: bk y (Mk.c mk) :: bk x (Tg.c t) :: bk m [.map (some g), .map (some d)] :: mpS d tgV (dmp D) :: mpS g Value.string (gptr (A ++ (mk.1, gx) :: B)) :: sep (A.map gR) :: sep (B.map gR) :: storeR so reg rows :: rs) (by repeat (first | with_reducible exact List.Perm.refl _ | with_reducible refine pm0 ?_ | with_reducible refine pm1 ?_ | with_reducible refine pm2 ?_ | with_reducible refine pm3 ?_ | with_reducible refine pm4 ?_ | with_reducible refine pm5 ?_ | with_reducible refine pm6 ?_ | with_reducible refine pm7 ?_ | with_reducible refine pm8 ?_ | with_reducible refine pm9 ?_ | with_reducible refine pm10 ?_ | with_reducible refine pm11 ?_ | with_reducible refine pm12 ?_ | with_reducible refine pm13 ?_))
  intro k32 hk32
  refine cn_eql (fun h0 => ?_) fun h0 => cn_eql (fun h1 => ?_) fun h1 => ?_
  · refine nc_s (fa_s (ld1S H gx.sl rfl (ldaS H.p4 rfl (ldaS H.p3 rfl (bd_s (Cm.c (t, mk)) rfl (bslS H (Cm.c (t, mk)) rfl fun z h H => ⟨ld1S H.p1 gx.sl rfl rfl, ?_⟩))))))
    have H := H.perm (rs' := cms gx.sl gx.ln :: bk z (Cm.c (t, mk)) :: bk gx.b [gx.sl, gx.sp] :: cms gx.sp gx.pk :: bk y (Mk.c mk) :: bk x (Tg.c t) :: bk m [.map (some g), .map (some d)] :: mpS d tgV (dmp D) :: mpS g Value.string (gptr (A ++ (mk.1, gx) :: B)) :: sep (A.map gR) :: sep (B.map gR) :: storeR so reg rows :: rs) (by repeat (first | with_reducible exact List.Perm.refl _ | with_reducible refine pm0 ?_ | with_reducible refine pm1 ?_ | with_reducible refine pm2 ?_ | with_reducible refine pm3 ?_ | with_reducible refine pm4 ?_ | with_reducible refine pm5 ?_ | with_reducible refine pm6 ?_ | with_reducible refine pm7 ?_ | with_reducible refine pm8 ?_ | with_reducible refine pm9 ?_ | with_reducible refine pm10 ?_ | with_reducible refine pm11 ?_ | with_reducible refine pm12 ?_ | with_reducible refine pm13 ?_))
    refine ap1 zc7 H rfl zc7_1 rfl (Cm.one _) (by simp only [List.length_map]; omega) (by simp only [List.length_map]; omega) fun s' h H => ?_
    refine nc_s (fa_s (st1S H.p1 H.vecC (by simp) fun h H => hk32 h fun _ => hk6 h ⟨gx.b, s', gx.sp, gx.ln ++ [(t, mk)], gx.pk⟩ D rfl (by rw [if_pos h0]) ?_))
    have H : Hs h (bk gx.b [s', gx.sp] :: vec 7 s' (gx.ln.map Cm.c ++ [Cm.c (t, mk)]) :: cms gx.sp gx.pk :: bk y (Mk.c mk) :: bk x (Tg.c t) :: bk m [.map (some g), .map (some d)] :: mpS d tgV (dmp D) :: mpS g Value.string (gptr (A ++ (mk.1, gx) :: B)) :: sep (A.map gR) :: sep (B.map gR) :: storeR so reg rows :: rs) := H
    show Hs h (bk m [.map (some g), .map (some d)] :: mpS g Value.string (gptr (A ++ (mk.1, gx) :: B)) :: bk gx.b [s', gx.sp] :: vec 7 s' ((gx.ln ++ [(t, mk)]).map Cm.c) :: cms gx.sp gx.pk :: sep (A.map gR) :: sep (B.map gR) :: mpS d tgV (dmp D) :: bk y (Mk.c mk) :: bk x (Tg.c t) :: storeR so reg rows :: rs)
    rw [List.map_append, List.map_singleton]
    exact H.perm (by repeat (first | with_reducible exact List.Perm.refl _ | with_reducible refine pm0 ?_ | with_reducible refine pm1 ?_ | with_reducible refine pm2 ?_ | with_reducible refine pm3 ?_ | with_reducible refine pm4 ?_ | with_reducible refine pm5 ?_ | with_reducible refine pm6 ?_ | with_reducible refine pm7 ?_ | with_reducible refine pm8 ?_ | with_reducible refine pm9 ?_ | with_reducible refine pm10 ?_ | with_reducible refine pm11 ?_ | with_reducible refine pm12 ?_ | with_reducible refine pm13 ?_))
  · refine nc_s (fa_s (ld1S H gx.sp rfl (ldaS H.p4 rfl (ldaS H.p3 rfl (bd_s (Cm.c (t, mk)) rfl (bslS H (Cm.c (t, mk)) rfl fun z h H => ⟨ld1S H.p1 gx.sp rfl rfl, ?_⟩))))))
    have H := H.perm (rs' := cms gx.sp gx.pk :: bk z (Cm.c (t, mk)) :: bk gx.b [gx.sl, gx.sp] :: cms gx.sl gx.ln :: bk y (Mk.c mk) :: bk x (Tg.c t) :: bk m [.map (some g), .map (some d)] :: mpS d tgV (dmp D) :: mpS g Value.string (gptr (A ++ (mk.1, gx) :: B)) :: sep (A.map gR) :: sep (B.map gR) :: storeR so reg rows :: rs) (by repeat (first | with_reducible exact List.Perm.refl _ | with_reducible refine pm0 ?_ | with_reducible refine pm1 ?_ | with_reducible refine pm2 ?_ | with_reducible refine pm3 ?_ | with_reducible refine pm4 ?_ | with_reducible refine pm5 ?_ | with_reducible refine pm6 ?_ | with_reducible refine pm7 ?_ | with_reducible refine pm8 ?_ | with_reducible refine pm9 ?_ | with_reducible refine pm10 ?_ | with_reducible refine pm11 ?_ | with_reducible refine pm12 ?_ | with_reducible refine pm13 ?_))
    refine ap1 zc7 H rfl zc7_1 rfl (Cm.one _) (by simp only [List.length_map]; omega) (by simp only [List.length_map]; omega) fun s' h H => ?_
    refine nc_s (fa_s (st1S H.p1 H.vecC (by simp) fun h H => hk32 h fun _ => hk6 h ⟨gx.b, gx.sl, s', gx.ln, gx.pk ++ [(t, mk)]⟩ D rfl (by rw [if_neg h0, if_pos h1]) ?_))
    have H : Hs h (bk gx.b [gx.sl, s'] :: vec 7 s' (gx.pk.map Cm.c ++ [Cm.c (t, mk)]) :: cms gx.sl gx.ln :: bk y (Mk.c mk) :: bk x (Tg.c t) :: bk m [.map (some g), .map (some d)] :: mpS d tgV (dmp D) :: mpS g Value.string (gptr (A ++ (mk.1, gx) :: B)) :: sep (A.map gR) :: sep (B.map gR) :: storeR so reg rows :: rs) := H
    show Hs h (bk m [.map (some g), .map (some d)] :: mpS g Value.string (gptr (A ++ (mk.1, gx) :: B)) :: bk gx.b [gx.sl, s'] :: cms gx.sl gx.ln :: vec 7 s' ((gx.pk ++ [(t, mk)]).map Cm.c) :: sep (A.map gR) :: sep (B.map gR) :: mpS d tgV (dmp D) :: bk y (Mk.c mk) :: bk x (Tg.c t) :: storeR so reg rows :: rs)
    rw [List.map_append, List.map_singleton]
    exact H.perm (by repeat (first | with_reducible exact List.Perm.refl _ | with_reducible refine pm0 ?_ | with_reducible refine pm1 ?_ | with_reducible refine pm2 ?_ | with_reducible refine pm3 ?_ | with_reducible refine pm4 ?_ | with_reducible refine pm5 ?_ | with_reducible refine pm6 ?_ | with_reducible refine pm7 ?_ | with_reducible refine pm8 ?_ | with_reducible refine pm9 ?_ | with_reducible refine pm10 ?_ | with_reducible refine pm11 ?_ | with_reducible refine pm12 ?_ | with_reducible refine pm13 ?_))
  · refine nc_s (fa_s (ld1S H.p5 (.map (some d)) rfl (ldaS H.p4 rfl (upS (kc := tgV) (k := t) (v := vi 1) keyTag und208 H.p6 fun h H => hk32 h fun _ => hk6 h gx (dm t D) rfl (by rw [if_neg h0, if_neg h1]) ?_))))
    have e : mset t (vi 1) (dmp D) = dmp (dm t D) := by
      unfold mset dm
      have hk : (dmp D).map (·.1) = D := by unfold dmp; rw [List.map_map]; exact List.map_id D
      rw [hk]
      by_cases ht : t ∈ D
      · rw [if_pos ht, if_pos ht]
        unfold dmp
        rw [List.map_map]
        refine List.map_congr_left fun z _ => ?_
        simp only [Function.comp]
        split
        · rename_i e; rw [e]
        · rfl
      · rw [if_neg ht, if_neg ht]; simp [dmp]
    rw [e] at H
    exact H.perm (by repeat (first | with_reducible exact List.Perm.refl _ | with_reducible refine pm0 ?_ | with_reducible refine pm1 ?_ | with_reducible refine pm2 ?_ | with_reducible refine pm3 ?_ | with_reducible refine pm4 ?_ | with_reducible refine pm5 ?_ | with_reducible refine pm6 ?_ | with_reducible refine pm7 ?_ | with_reducible refine pm8 ?_ | with_reducible refine pm9 ?_ | with_reducible refine pm10 ?_ | with_reducible refine pm11 ?_ | with_reducible refine pm12 ?_ | with_reducible refine pm13 ?_))
theorem szG_mid (X Y : GS) (k : ByteArray) (p : List Cm × List Cm) : szG (X ++ (k, p) :: Y) = szG X + (p.1.length + p.2.length) + szG Y := by
  unfold szG; simp; omega
theorem szG_add (k : ByteArray) (G : GS) : szG (addG k G) = szG G := by
  unfold addG; split
  · rfl
  · unfold szG; simp
theorem locks_close {h : Hp} {m g d : Nat} {A B : List GRow} {k : ByteArray} {x x' : Gt} {D : List Tg} {rs : List SL} (hb : x'.b = x.b)
    (H : Hs h (bk m [.map (some g), .map (some d)] :: mpS g Value.string (gptr (A ++ (k, x) :: B)) :: bk x.b [x'.sl, x'.sp] :: cms x'.sl x'.ln :: cms x'.sp x'.pk :: sep (A.map gR) :: sep (B.map gR) :: mpS d tgV (dmp D) :: rs)) :
    Hs h (locksR m (gst (A ++ (k, x') :: B)) D :: rs) := by
  refine Hs.locks.2 ⟨g, d, A ++ (k, x') :: B, rfl, gate_open.2 ?_⟩
  have e : gptr (A ++ (k, x') :: B) = gptr (A ++ (k, x) :: B) := by simp [gptr, mapV, hb]
  rw [e, hb]
  exact H.perm (by repeat (first | with_reducible exact List.Perm.refl _ | with_reducible refine pm0 ?_ | with_reducible refine pm1 ?_ | with_reducible refine pm2 ?_ | with_reducible refine pm3 ?_ | with_reducible refine pm4 ?_ | with_reducible refine pm5 ?_ | with_reducible refine pm6 ?_ | with_reducible refine pm7 ?_ | with_reducible refine pm8 ?_ | with_reducible refine pm9 ?_ | with_reducible refine pm10 ?_ | with_reducible refine pm11 ?_ | with_reducible refine pm12 ?_ | with_reducible refine pm13 ?_))
theorem s100 {h : Hp} {rs : List SL} {m so : Nat} {reg : Int} {rows : List (ByteArray × Rc)} {G : GS} {D : List Tg} {t : Tg} {ms : Value} {marks : List Mk} {M : SL} (hr : reg ≤ 1000) (hms : ∀ x ∈ marks, x.1.size ≤ 1000000000) (hml : marks.length ≤ 1000)
    (hM : ∀ h rs, Hs h (M :: rs) → Sr h 3 ms (marks.map Mk.c)) (h1 : szG G ≤ 900000) (H : Hs h (locksR m G D :: storeR so reg rows :: M :: rs)) :
    FnW Tryz.prog 100 #[pt m 0, pt so 0, .agg (Tg.c t).toArray, ms] (fun v h' => ∀ s1, s1 = marks.foldl (entG (fun k => (getRc k reg rows).home) (fun k => (getRc k reg rows).cnt) t) (G, D) → szG s1.1 ≤ szG G + marks.length ∧ Hs h' (locksR m s1.1 s1.2 :: storeR so reg rows :: M :: rs)) h := by
  refine c100 ?_
  unfold C100
  refine bxS H fun x h H => ?_
  have H : Hs h (bk x (Tg.c t) :: locksR m G D :: storeR so reg rows :: M :: rs) := by simpa [Value.cells] using H
  refine lnR (hM h _ H.p3) ?_
  rw [List.length_map]
  refine lp1 marks.length (fun i h => ∀ s1, s1 = (marks.take i).foldl (entG (fun k => (getRc k reg rows).home) (fun k => (getRc k reg rows).cnt) t) (G, D) → szG s1.1 ≤ szG G + i ∧ Hs h (bk x (Tg.c t) :: locksR m s1.1 s1.2 :: storeR so reg rows :: M :: rs)) (by rintro s1 rfl; exact ⟨Nat.le_refl _, H⟩) ?_
  clear H
  rintro i h σ0 nx hi HH hnx
  obtain ⟨hsz, H⟩ := HH _ rfl
  clear HH
  generalize hs1 : (marks.take i).foldl (entG (fun k => (getRc k reg rows).home) (fun k => (getRc k reg rows).cnt) t) (G, D) = s1 at H hsz
  refine cn_lss (fun hlt => ?_) fun hge => ?_
  · have hlt : i < marks.length := by omega
    have hm : i < (marks.map Mk.c).length := by rw [List.length_map]; exact hlt
    have hkey := hms marks[i] (List.getElem_mem hlt)
    intro k6 hk6
    have next : ∀ h s2, s2 = entG (fun k => (getRc k reg rows).home) (fun k => (getRc k reg rows).cnt) t s1 marks[i] → szG s2.1 ≤ szG s1.1 + 1 → Hs h (bk x (Tg.c t) :: locksR m s2.1 s2.2 :: storeR so reg rows :: M :: rs) → k6 h := by
      rintro h s2 rfl hz H
      refine hk6 h fun _ => nx_add i (by omega) (hnx h hlt ?_)
      rintro s3 rfl
      rw [List.take_succ_eq_append_getElem hlt, List.foldl_append, hs1]
      exact ⟨by simp only [List.foldl_cons, List.foldl_nil]; omega, H⟩
    refine ixR (hM h _ H.p3) i hm fun b o hrd => ?_
    rw [List.getElem_map] at hrd
    generalize marks[i] = mk at hkey next hrd
    refine ldnR hrd rfl (alS H fun y h H => staS H rfl rfl (Mk.one _) fun h H => fa_s (ld1S H (.string mk.1) rfl ?_))
    refine cl_s b218 (s218 (rs := bk y (Mk.c mk) :: bk x (Tg.c t) :: storeR so reg rows :: M :: rs) (k := mk.1) (H.perm (by repeat (first | with_reducible exact List.Perm.refl _ | with_reducible refine pm0 ?_ | with_reducible refine pm1 ?_ | with_reducible refine pm2 ?_ | with_reducible refine pm3 ?_ | with_reducible refine pm4 ?_ | with_reducible refine pm5 ?_ | with_reducible refine pm6 ?_ | with_reducible refine pm7 ?_ | with_reducible refine pm8 ?_ | with_reducible refine pm9 ?_ | with_reducible refine pm10 ?_ | with_reducible refine pm11 ?_ | with_reducible refine pm12 ?_ | with_reducible refine pm13 ?_)))) ?_
    rintro _ h ⟨g, d, A, gx, B, rfl, hG, hA, H⟩
    have hkeys : ((A ++ (mk.1, gx) :: B).map (·.1)).Nodup := by rw [← keys_gptr]; exact H.p1.mpNodup
    have hB : ∀ z ∈ B, z.1 ≠ mk.1 := by
      rw [List.map_append, List.map_cons, List.nodup_append] at hkeys
      exact fun y hy e => (List.nodup_cons.1 hkeys.2.1).1 (List.mem_map.2 ⟨y, hy, e⟩)
    have hval := gval_mid (B := B) (x := gx) hA
    rw [hG] at hval
    have hline : lineOf mk.1 (addG mk.1 s1.1) = gx.ln := by unfold lineOf; rw [hval]; rfl
    have hpark : parkOf mk.1 (addG mk.1 s1.1) = gx.pk := by unfold parkOf; rw [hval]; rfl
    have hmid := szG_mid (gst A) (gst B) mk.1 (gx.ln, gx.pk)
    rw [← gst_mid, hG, szG_add] at hmid
    simp only [] at hmid
    -- ends
    have stay : ((gx.ln.any fun c => decide (c.1 = t)) || (gx.pk.any fun c => decide (c.1 = t))) = true → ∀ h, Hs h (bk m [.map (some g), .map (some d)] :: mpS g Value.string (gptr (A ++ (mk.1, gx) :: B)) :: bk gx.b [gx.sl, gx.sp] :: cms gx.sl gx.ln :: cms gx.sp gx.pk :: sep (A.map gR) :: sep (B.map gR) :: mpS d tgV (dmp s1.2) :: bk y (Mk.c mk) :: bk x (Tg.c t) :: storeR so reg rows :: M :: rs) → k6 h := by
      intro hh h H
      have H := locks_close rfl H
      rw [hG] at H
      refine next h (addG mk.1 s1.1, s1.2) ?_ (by rw [szG_add]; omega) (H.perm (rs' := bk y (Mk.c mk) :: bk x (Tg.c t) :: locksR m (addG mk.1 s1.1) s1.2 :: storeR so reg rows :: M :: rs) (by repeat (first | with_reducible exact List.Perm.refl _ | with_reducible refine pm0 ?_ | with_reducible refine pm1 ?_ | with_reducible refine pm2 ?_ | with_reducible refine pm3 ?_ | with_reducible refine pm4 ?_ | with_reducible refine pm5 ?_ | with_reducible refine pm6 ?_ | with_reducible refine pm7 ?_ | with_reducible refine pm8 ?_ | with_reducible refine pm9 ?_ | with_reducible refine pm10 ?_ | with_reducible refine pm11 ?_ | with_reducible refine pm12 ?_ | with_reducible refine pm13 ?_))).drop
      rw [entG, hline, hpark, if_pos hh]
    have go : ((gx.ln.any fun c => decide (c.1 = t)) || (gx.pk.any fun c => decide (c.1 = t))) = false → ∀ h, Hs h (bk m [.map (some g), .map (some d)] :: mpS g Value.string (gptr (A ++ (mk.1, gx) :: B)) :: bk gx.b [gx.sl, gx.sp] :: cms gx.sl gx.ln :: cms gx.sp gx.pk :: sep (A.map gR) :: sep (B.map gR) :: mpS d tgV (dmp s1.2) :: bk y (Mk.c mk) :: bk x (Tg.c t) :: storeR so reg rows :: M :: rs) →
        G100 (pt m 0) (pt so 0) (pt x 0) (pt y 0) (pt gx.b 0) k6 h := by
      intro hh h H
      refine g100 (rs := M :: rs) hr hkey (by omega) (by omega) hA H fun h gx' D' hb he H => ?_
      have H := locks_close hb H
      have hne : ¬ (((gx.ln.any fun c => decide (c.1 = t)) || (gx.pk.any fun c => decide (c.1 = t))) = true) := by rw [hh]; simp
      refine next h (gst (A ++ (mk.1, gx') :: B), D') ?_ ?_ (H.perm (rs' := bk y (Mk.c mk) :: bk x (Tg.c t) :: locksR m (gst (A ++ (mk.1, gx') :: B)) D' :: storeR so reg rows :: M :: rs) (by repeat (first | with_reducible exact List.Perm.refl _ | with_reducible refine pm0 ?_ | with_reducible refine pm1 ?_ | with_reducible refine pm2 ?_ | with_reducible refine pm3 ?_ | with_reducible refine pm4 ?_ | with_reducible refine pm5 ?_ | with_reducible refine pm6 ?_ | with_reducible refine pm7 ?_ | with_reducible refine pm8 ?_ | with_reducible refine pm9 ?_ | with_reducible refine pm10 ?_ | with_reducible refine pm11 ?_ | with_reducible refine pm12 ?_ | with_reducible refine pm13 ?_))).drop
      · rw [entG, hline, hpark, if_neg hne, ← hG]
        have hu := fun f => updG_mid (f := f) (x := gx) hA hB
        rw [hu, hu, gst_mid A B mk.1 gx']
        split at he
        · rename_i h0
          rw [if_pos h0]
          injection he with he1 he2
          rw [he1, he2]
        · rename_i h0
          rw [if_neg h0]
          split at he
          · rename_i h1
            rw [if_pos h1]
            injection he with he1 he2
            rw [he1, he2]
          · rename_i h1
            rw [if_neg h1, gst_mid]
            injection he with he1 he2
            rw [he1, he2]
      · simp only []
        rw [gst_mid, szG_mid]
        simp only []
        have hl : gx'.ln.length + gx'.pk.length ≤ gx.ln.length + gx.pk.length + 1 := by
          split at he
          · injection he with he1 he2; injection he1 with e1 e2; rw [e1, e2]; simp; omega
          · split at he
            · injection he with he1 he2; injection he1 with e1 e2; rw [e1, e2]; simp; omega
            · injection he with he1 he2; injection he1 with e1 e2; rw [e1, e2]; omega
        omega
    have H0 := H
    refine nc_s (fa_s (ld1S H.p2 gx.sl rfl (ldaS (H.perm (rs' := bk x (Tg.c t) :: bk m [.map (some g), .map (some d)] :: mpS g Value.string (gptr (A ++ (mk.1, gx) :: B)) :: bk gx.b [gx.sl, gx.sp] :: cms gx.sl gx.ln :: cms gx.sp gx.pk :: sep (A.map gR) :: sep (B.map gR) :: mpS d tgV (dmp s1.2) :: bk y (Mk.c mk) :: storeR so reg rows :: M :: rs) (by repeat (first | with_reducible exact List.Perm.refl _ | with_reducible refine pm0 ?_ | with_reducible refine pm1 ?_ | with_reducible refine pm2 ?_ | with_reducible refine pm3 ?_ | with_reducible refine pm4 ?_ | with_reducible refine pm5 ?_ | with_reducible refine pm6 ?_ | with_reducible refine pm7 ?_ | with_reducible refine pm8 ?_ | with_reducible refine pm9 ?_ | with_reducible refine pm10 ?_ | with_reducible refine pm11 ?_ | with_reducible refine pm12 ?_ | with_reducible refine pm13 ?_))) rfl (cl_s b115 (s115 H) ?_))))
    rintro _ h ⟨u, rfl, H⟩
    refine ⟨ld1S H.p3 gx.sl rfl rfl, ?_⟩
    refine cl_s b118 (s118 (l := gx.ln) (rs := bk m [.map (some g), .map (some d)] :: mpS g Value.string (gptr (A ++ (mk.1, gx) :: B)) :: bk gx.b [gx.sl, gx.sp] :: cms gx.sp gx.pk :: sep (A.map gR) :: sep (B.map gR) :: mpS d tgV (dmp s1.2) :: bk y (Mk.c mk) :: bk x (Tg.c t) :: storeR so reg rows :: M :: rs) (by omega) (H.perm (by repeat (first | with_reducible exact List.Perm.refl _ | with_reducible refine pm0 ?_ | with_reducible refine pm1 ?_ | with_reducible refine pm2 ?_ | with_reducible refine pm3 ?_ | with_reducible refine pm4 ?_ | with_reducible refine pm5 ?_ | with_reducible refine pm6 ?_ | with_reducible refine pm7 ?_ | with_reducible refine pm8 ?_ | with_reducible refine pm9 ?_ | with_reducible refine pm10 ?_ | with_reducible refine pm11 ?_ | with_reducible refine pm12 ?_ | with_reducible refine pm13 ?_)))) ?_
    rintro _ h ⟨rfl, H⟩
    have H := (H.perm (rs' := bk u (Tg.c t) :: bk m [.map (some g), .map (some d)] :: mpS g Value.string (gptr (A ++ (mk.1, gx) :: B)) :: bk gx.b [gx.sl, gx.sp] :: cms gx.sl gx.ln :: cms gx.sp gx.pk :: sep (A.map gR) :: sep (B.map gR) :: mpS d tgV (dmp s1.2) :: bk y (Mk.c mk) :: bk x (Tg.c t) :: storeR so reg rows :: M :: rs) (by repeat (first | with_reducible exact List.Perm.refl _ | with_reducible refine pm0 ?_ | with_reducible refine pm1 ?_ | with_reducible refine pm2 ?_ | with_reducible refine pm3 ?_ | with_reducible refine pm4 ?_ | with_reducible refine pm5 ?_ | with_reducible refine pm6 ?_ | with_reducible refine pm7 ?_ | with_reducible refine pm8 ?_ | with_reducible refine pm9 ?_ | with_reducible refine pm10 ?_ | with_reducible refine pm11 ?_ | with_reducible refine pm12 ?_ | with_reducible refine pm13 ?_))).drop
    cases hp : gx.ln.any fun c => decide (c.1 = t) with
    | true =>
      refine gd_f (by simp) (gd_f (by simp) (gd_f (by simp) (gd_f (by simp) (gd_f (by simp) (gd_f (by simp) ⟨gd_f (by simp) rfl, gd_f (by simp) (pk_s (cn_t (stay (by rw [hp]; rfl) h H)))⟩)))))
    | false =>
      refine gd_t (gd_t (nc_s (gd_t (fa_s (gd_t (ld1S H.p2 gx.sp rfl (gd_t (ldaS (H.perm (rs' := bk x (Tg.c t) :: bk m [.map (some g), .map (some d)] :: mpS g Value.string (gptr (A ++ (mk.1, gx) :: B)) :: bk gx.b [gx.sl, gx.sp] :: cms gx.sl gx.ln :: cms gx.sp gx.pk :: sep (A.map gR) :: sep (B.map gR) :: mpS d tgV (dmp s1.2) :: bk y (Mk.c mk) :: storeR so reg rows :: M :: rs) (by repeat (first | with_reducible exact List.Perm.refl _ | with_reducible refine pm0 ?_ | with_reducible refine pm1 ?_ | with_reducible refine pm2 ?_ | with_reducible refine pm3 ?_ | with_reducible refine pm4 ?_ | with_reducible refine pm5 ?_ | with_reducible refine pm6 ?_ | with_reducible refine pm7 ?_ | with_reducible refine pm8 ?_ | with_reducible refine pm9 ?_ | with_reducible refine pm10 ?_ | with_reducible refine pm11 ?_ | with_reducible refine pm12 ?_ | with_reducible refine pm13 ?_))) rfl (gd_t (cl_s b115 (s115 H) ?_))))))))))
      rintro _ h ⟨u2, rfl, H⟩
      refine ⟨gd_t (ld1S H.p3 gx.sp rfl rfl), gd_t ?_⟩
      refine cl_s b118 (s118 (l := gx.pk) (rs := bk m [.map (some g), .map (some d)] :: mpS g Value.string (gptr (A ++ (mk.1, gx) :: B)) :: bk gx.b [gx.sl, gx.sp] :: cms gx.sl gx.ln :: sep (A.map gR) :: sep (B.map gR) :: mpS d tgV (dmp s1.2) :: bk y (Mk.c mk) :: bk x (Tg.c t) :: storeR so reg rows :: M :: rs) (by omega) (H.perm (by repeat (first | with_reducible exact List.Perm.refl _ | with_reducible refine pm0 ?_ | with_reducible refine pm1 ?_ | with_reducible refine pm2 ?_ | with_reducible refine pm3 ?_ | with_reducible refine pm4 ?_ | with_reducible refine pm5 ?_ | with_reducible refine pm6 ?_ | with_reducible refine pm7 ?_ | with_reducible refine pm8 ?_ | with_reducible refine pm9 ?_ | with_reducible refine pm10 ?_ | with_reducible refine pm11 ?_ | with_reducible refine pm12 ?_ | with_reducible refine pm13 ?_)))) ?_
      rintro _ h ⟨rfl, H⟩
      have H := (H.perm (rs' := bk u2 (Tg.c t) :: bk m [.map (some g), .map (some d)] :: mpS g Value.string (gptr (A ++ (mk.1, gx) :: B)) :: bk gx.b [gx.sl, gx.sp] :: cms gx.sl gx.ln :: cms gx.sp gx.pk :: sep (A.map gR) :: sep (B.map gR) :: mpS d tgV (dmp s1.2) :: bk y (Mk.c mk) :: bk x (Tg.c t) :: storeR so reg rows :: M :: rs) (by repeat (first | with_reducible exact List.Perm.refl _ | with_reducible refine pm0 ?_ | with_reducible refine pm1 ?_ | with_reducible refine pm2 ?_ | with_reducible refine pm3 ?_ | with_reducible refine pm4 ?_ | with_reducible refine pm5 ?_ | with_reducible refine pm6 ?_ | with_reducible refine pm7 ?_ | with_reducible refine pm8 ?_ | with_reducible refine pm9 ?_ | with_reducible refine pm10 ?_ | with_reducible refine pm11 ?_ | with_reducible refine pm12 ?_ | with_reducible refine pm13 ?_))).drop
      refine pk_s (cn_s (fun h3 => ?_) fun h3 => ?_)
      · exact stay (by rw [hp]; simpa using h3) h H
      · exact go (by rw [hp]; simpa using h3) h H
  · have : i = marks.length := by omega
    subst this
    rw [List.take_length] at hs1
    rintro s2 hs2
    rw [hs2, hs1]
    exact ⟨hsz, H.drop⟩
end Go.Proofs.YtalknmdbamlabaaGreat.Q
