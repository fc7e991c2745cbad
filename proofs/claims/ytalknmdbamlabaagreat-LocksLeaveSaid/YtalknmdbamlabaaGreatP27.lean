/- The law LocksLeave: its walk. Conditions: none. -/
import Derived.Test.YtalknmdbamlabaaGreatP26
namespace Go.Proofs.YtalknmdbamlabaaGreat.Q
open Go
open SL (bk bkn mp old it exS puS emS stS)
theorem und47 : Tryz.prog.underlying 47 = some (.map 9 40) := by kernel_rfl
theorem locksNodup {h : Hp} {m : Nat} {G : GS} {D : List Tg} {rs : List SL} (H : Hs h (locksR m G D :: rs)) : (G.map (·.1)).Nodup := by
  obtain ⟨g, d, L, eG, HL⟩ := Hs.locks.1 H
  have := HL.p1.mpNodup
  rw [keys_gptr, ← keys_gst, eG] at this
  exact this
theorem parkOf_len (k : ByteArray) (G : GS) : (parkOf k G).length ≤ szG G := by
  unfold parkOf
  cases hv : gval k G with
  | none => simp
  | some x =>
    obtain ⟨a, b, e, _⟩ := gval_mem hv
    have : (k, x) ∈ G := by rw [e]; simp
    have := szG_mem this
    simp at this ⊢; omega
theorem lineOf_lv (k : ByteArray) (t : Tg) (G : GS) : lineOf k (lvG t G) = (lineOf k G).filter fun c => decide (c.1 ≠ t) := by
  unfold lineOf lvG
  rw [gval_mapV]
  cases gval k G <;> simp [lv]
theorem parkOf_lv (k : ByteArray) (t : Tg) (G : GS) : parkOf k (lvG t G) = (parkOf k G).filter fun c => decide (c.1 ≠ t) := by
  unfold parkOf lvG
  rw [gval_mapV]
  cases gval k G <;> simp [lv]
theorem filt_tags (t : Tg) (l : List Cm) : (l.filter fun c => decide (c.1 ≠ t)).map (·.1) = (l.map (·.1)).filter fun c => decide (c ≠ t) := by rw [List.filter_map]; rfl
theorem not_filt (t : Tg) (l : List Cm) : t ∉ (l.filter fun c => decide (c.1 ≠ t)).map (·.1) := by rw [filt_tags]; simp
theorem ahd_lv (t : Tg) (G : GS) : ∀ ks, ahd t (lvG t G) ks = [] := by
  intro ks
  have : ∀ out : List Tg, ks.foldl (fun out k => addAll out (frontOf t ((lineOf k (lvG t G)).map (·.1)))) out = out := by
    induction ks with
    | nil => intro out; rfl
    | cons k ks ih =>
      intro out
      rw [List.foldl_cons, lineOf_lv, frontOf, if_neg (not_filt t _)]
      exact ih out
  exact this []
theorem ready_lv (t : Tg) (G : GS) : readyB t (lvG t G) = true := by
  unfold readyB lvG mapV
  rw [List.all_map]
  rw [List.all_eq_true]
  intro y _
  have h1 : ∀ l : List Cm, ((l.filter fun c => decide (c.1 ≠ t)).any fun c => decide (c.1 = t)) = false := by
    intro l
    rw [Bool.eq_false_iff]
    intro h
    obtain ⟨x, hx, e⟩ := List.any_eq_true.1 h
    have := (List.mem_filter.1 hx).2
    simp at this e
    exact this e
  simp [freeIn, lv, Function.comp]
abbrev BRow := ByteArray × (Value × List Tg)
abbrev bR (x : BRow) : SL := tgs x.2.1 x.2.2
theorem bR_lo {n : Nat} (x : BRow) : (bR x).lo n := vec_lo
theorem s3 {h0 : Hp} {s : Value} {l : List OpS} {gone : Tg} (S : Scr h0 s l):
    FnW Tryz.prog 3 #[s, .agg (Tg.c gone).toArray] (fun v h' => v = .bool true ∧ Hs h' [old h0, SL.fz h0]) h0 := by
  have H := (Hs.start h0).szs
  have hfz : ∀ r ∈ [old h0, SL.fz h0], r.lo h0.size := lo_cons (r := old h0) trivial (lo_cons (r := SL.fz h0) (Nat.le_refl _) lo_nil)
  refine c3 ?_
  unfold C3
  refine bxB fun g h H => ?_
  refine clB (s17 (lo_bk (lo_sz ((H.pl (ts := SL.sz h0.size :: _)).los hfz))) H) ?_ b17
  rintro _ h ⟨rfl, H⟩
  repeat (first | with_reducible refine nc_s ?_ | with_reducible refine fa_0 ?_ | with_reducible refine fa_s ?_ | with_reducible refine ldB ?_ | with_reducible refine ldaB ?_ | with_reducible refine ldnB ?_ | with_reducible refine gd_t ?_ | with_reducible refine gd_f (by simp) ?_ | with_reducible refine an_s (ldB rfl) ?_ | with_reducible refine an_s (ldaB rfl) ?_ | with_reducible refine an_s (gd_t (ldaB rfl)) ?_ | with_reducible refine an_s (gd_t (ldB rfl)) ?_ | with_reducible refine an_s (gd_f (by simp) rfl) ?_ | with_reducible refine lnM ?_ | with_reducible refine lnB ?_ | with_reducible refine lnT_s ?_ | with_reducible refine mf_s ?_ | with_reducible refine pk_t ?_ | with_reducible refine pk_f ?_ | with_reducible refine nt_t ?_ | with_reducible refine nt_f ?_ | with_reducible refine cn_t ?_ | with_reducible refine cn_f ?_ | with_reducible refine ex0 ?_ | with_reducible refine ex1 ?_ | with_reducible refine ex2 ?_)
  refine clB (s18 S (rs := [bk g (Tg.c gone), SL.sz h0.size, SL.fz h0]) H.pl) ?_ b18
  rintro _ h ⟨gr, rfl, hgr, H⟩
  cases gr with
  | true =>
    repeat (first | with_reducible refine nc_s ?_ | with_reducible refine fa_0 ?_ | with_reducible refine fa_s ?_ | with_reducible refine ldB ?_ | with_reducible refine ldaB ?_ | with_reducible refine ldnB ?_ | with_reducible refine gd_t ?_ | with_reducible refine gd_f (by simp) ?_ | with_reducible refine an_s (ldB rfl) ?_ | with_reducible refine an_s (ldaB rfl) ?_ | with_reducible refine an_s (gd_t (ldaB rfl)) ?_ | with_reducible refine an_s (gd_t (ldB rfl)) ?_ | with_reducible refine an_s (gd_f (by simp) rfl) ?_ | with_reducible refine lnM ?_ | with_reducible refine lnB ?_ | with_reducible refine lnT_s ?_ | with_reducible refine mf_s ?_ | with_reducible refine pk_t ?_ | with_reducible refine pk_f ?_ | with_reducible refine nt_t ?_ | with_reducible refine nt_f ?_ | with_reducible refine cn_t ?_ | with_reducible refine cn_f ?_ | with_reducible refine ex0 ?_ | with_reducible refine ex1 ?_ | with_reducible refine ex2 ?_)
    exact ⟨rfl, H.pl⟩
  | false =>
  obtain ⟨hl60, hops⟩ := hgr rfl
  repeat (first | with_reducible refine nc_s ?_ | with_reducible refine fa_0 ?_ | with_reducible refine fa_s ?_ | with_reducible refine ldB ?_ | with_reducible refine ldaB ?_ | with_reducible refine ldnB ?_ | with_reducible refine gd_t ?_ | with_reducible refine gd_f (by simp) ?_ | with_reducible refine an_s (ldB rfl) ?_ | with_reducible refine an_s (ldaB rfl) ?_ | with_reducible refine an_s (gd_t (ldaB rfl)) ?_ | with_reducible refine an_s (gd_t (ldB rfl)) ?_ | with_reducible refine an_s (gd_f (by simp) rfl) ?_ | with_reducible refine lnM ?_ | with_reducible refine lnB ?_ | with_reducible refine lnT_s ?_ | with_reducible refine mf_s ?_ | with_reducible refine pk_t ?_ | with_reducible refine pk_f ?_ | with_reducible refine nt_t ?_ | with_reducible refine nt_f ?_ | with_reducible refine cn_t ?_ | with_reducible refine cn_f ?_ | with_reducible refine ex0 ?_ | with_reducible refine ex1 ?_ | with_reducible refine ex2 ?_)
  refine clB (s19 (reg := 3) (by omega) (by omega) H) ?_ b19
  rintro _ h ⟨st, rfl, H⟩
  repeat (first | with_reducible refine nc_s ?_ | with_reducible refine fa_0 ?_ | with_reducible refine fa_s ?_ | with_reducible refine ldB ?_ | with_reducible refine ldaB ?_ | with_reducible refine ldnB ?_ | with_reducible refine gd_t ?_ | with_reducible refine gd_f (by simp) ?_ | with_reducible refine an_s (ldB rfl) ?_ | with_reducible refine an_s (ldaB rfl) ?_ | with_reducible refine an_s (gd_t (ldaB rfl)) ?_ | with_reducible refine an_s (gd_t (ldB rfl)) ?_ | with_reducible refine an_s (gd_f (by simp) rfl) ?_ | with_reducible refine lnM ?_ | with_reducible refine lnB ?_ | with_reducible refine lnT_s ?_ | with_reducible refine mf_s ?_ | with_reducible refine pk_t ?_ | with_reducible refine pk_f ?_ | with_reducible refine nt_t ?_ | with_reducible refine nt_f ?_ | with_reducible refine cn_t ?_ | with_reducible refine cn_f ?_ | with_reducible refine ex0 ?_ | with_reducible refine ex1 ?_ | with_reducible refine ex2 ?_)
  refine clB (s20 H) ?_ b20
  rintro _ h ⟨lk, rfl, H⟩
  refine clB (s21 (reg := 3) H) ?_ b21
  rintro _ h ⟨rst, rfl, H⟩
  refine bdB [nilS, nilS, nilS] ?_
  refine bxB fun rl h H => ?_
  refine beN und30 ?_
  repeat (first | with_reducible refine nc_s ?_ | with_reducible refine fa_0 ?_ | with_reducible refine fa_s ?_ | with_reducible refine ldB ?_ | with_reducible refine ldaB ?_ | with_reducible refine ldnB ?_ | with_reducible refine gd_t ?_ | with_reducible refine gd_f (by simp) ?_ | with_reducible refine an_s (ldB rfl) ?_ | with_reducible refine an_s (ldaB rfl) ?_ | with_reducible refine an_s (gd_t (ldaB rfl)) ?_ | with_reducible refine an_s (gd_t (ldB rfl)) ?_ | with_reducible refine an_s (gd_f (by simp) rfl) ?_ | with_reducible refine lnM ?_ | with_reducible refine lnB ?_ | with_reducible refine lnT_s ?_ | with_reducible refine mf_s ?_ | with_reducible refine pk_t ?_ | with_reducible refine pk_f ?_ | with_reducible refine nt_t ?_ | with_reducible refine nt_f ?_ | with_reducible refine cn_t ?_ | with_reducible refine cn_f ?_ | with_reducible refine ex0 ?_ | with_reducible refine ex1 ?_ | with_reducible refine ex2 ?_)
  refine beN und34 ?_
  repeat (first | with_reducible refine nc_s ?_ | with_reducible refine fa_0 ?_ | with_reducible refine fa_s ?_ | with_reducible refine ldB ?_ | with_reducible refine ldaB ?_ | with_reducible refine ldnB ?_ | with_reducible refine gd_t ?_ | with_reducible refine gd_f (by simp) ?_ | with_reducible refine an_s (ldB rfl) ?_ | with_reducible refine an_s (ldaB rfl) ?_ | with_reducible refine an_s (gd_t (ldaB rfl)) ?_ | with_reducible refine an_s (gd_t (ldB rfl)) ?_ | with_reducible refine an_s (gd_f (by simp) rfl) ?_ | with_reducible refine lnM ?_ | with_reducible refine lnB ?_ | with_reducible refine lnT_s ?_ | with_reducible refine mf_s ?_ | with_reducible refine pk_t ?_ | with_reducible refine pk_f ?_ | with_reducible refine nt_t ?_ | with_reducible refine nt_f ?_ | with_reducible refine cn_t ?_ | with_reducible refine cn_f ?_ | with_reducible refine ex0 ?_ | with_reducible refine ex1 ?_ | with_reducible refine ex2 ?_)
  have H : Hs h (cms nilS [] :: cms nilS [] :: tgs nilS [] :: _) := Hs.vec0 (Hs.vec0 (Hs.vec0 H))
  have H : Hs h (refL rl [] [] [] :: _) := Hs.refL.2 ⟨nilS, nilS, nilS, H.pl⟩
  refine lnRM (S.old H.pl).sr ?_
  refine lp1 l.length (fun i h => ∃ x, Inv i x ∧ Hs h (stR st lk rst rl x [old h0, bk g (Tg.c gone), SL.sz h0.size, SL.fz h0])) ⟨⟨[], [], [], [], ([], [], [])⟩, ⟨by simp, by simp [szG], by simp, by simp, by simp, by simp, by simp⟩, H.pl⟩ ?_
  clear H
  rintro i h σ0 nx hi ⟨x, I, H⟩ hnx
  refine cn_lss (fun hlt => ?_) fun hge => ?_
  · have hlt : i < l.length := by omega
    have hok := hops l[i] (List.getElem_mem hlt)
    have hso := S.ms l[i] (List.getElem_mem hlt)
    refine ixRM (S.old H.pl).sr i hlt fun b o' hrd => ldnR hrd rfl ?_
    generalize l[i] = o at hok hso
    refine alB fun y h H => ?_
    refine staB (vs := o.c) (h1 := OpS.one hso.one) fun h H => ?_
    repeat (first | with_reducible refine nc_s ?_ | with_reducible refine fa_0 ?_ | with_reducible refine fa_s ?_ | with_reducible refine ldB ?_ | with_reducible refine ldaB ?_ | with_reducible refine ldnB ?_ | with_reducible refine gd_t ?_ | with_reducible refine gd_f (by simp) ?_ | with_reducible refine an_s (ldB rfl) ?_ | with_reducible refine an_s (ldaB rfl) ?_ | with_reducible refine an_s (gd_t (ldaB rfl)) ?_ | with_reducible refine an_s (gd_t (ldB rfl)) ?_ | with_reducible refine an_s (gd_f (by simp) rfl) ?_ | with_reducible refine lnM ?_ | with_reducible refine lnB ?_ | with_reducible refine lnT_s ?_ | with_reducible refine mf_s ?_ | with_reducible refine pk_t ?_ | with_reducible refine pk_f ?_ | with_reducible refine nt_t ?_ | with_reducible refine nt_f ?_ | with_reducible refine cn_t ?_ | with_reducible refine cn_f ?_ | with_reducible refine ex0 ?_ | with_reducible refine ex1 ?_ | with_reducible refine ex2 ?_)
    refine clB (s22 (s := st) (l := lk) (t := rst) (m := rl) (i := i) (x := x) (o := o) (h0 := h0) I (by omega) hok hso H.pl) ?_ b22
    rintro _ h ⟨x', I', H⟩
    exact nx_add i (by omega) (hnx h hlt ⟨x', I', H.pl⟩)
  · have : i = l.length := by omega
    subst this
    obtain ⟨rows, G, D, rw, l3⟩ := x
    obtain ⟨_, i2, i3, _⟩ := I
    simp only [] at i2 i3
    have H : Hs h (locksR lk G D :: old h0 :: bk g (Tg.c gone) :: SL.sz h0.size :: SL.fz h0 :: []) := H.pl
    have hnd := locksNodup H
    have hkl : (keysOf G).length ≤ 1200 := by
      have := List.length_filter_le (fun k => !noneAt k G) (G.map (·.1))
      rw [List.length_map] at this
      exact Nat.le_trans this (by omega)
    refine mkS (kc := Value.string) H fun mb h H => ?_
    refine clB (s23 (m := lk) (G := G) (D := D) (rs := mpS mb Value.string [] :: [bk g (Tg.c gone), SL.sz h0.size, old h0, SL.fz h0]) (by omega) (by omega) (lo_cons mpS_lo (lo_bk (lo_sz ((H.pl (ts := SL.sz h0.size :: _)).los hfz)))) H.pl) ?_ b23
    rintro v27 h ⟨ks, hp, hs, H⟩
    have hksn : ks.Nodup := hp.nodup_iff.2 (List.Pairwise.filter _ hnd)
    have hkl2 : ks.length ≤ 1200 := by rw [hp.length_eq]; exact hkl
    refine lnM ?_
    refine lp1 ks.length (fun i h => ∃ L : List BRow, L.map (·.1) = ks.take i ∧ (∀ y ∈ L, y.2.2 = (lineOf y.1 G).map (·.1)) ∧
      Hs h (mpS mb Value.string (mapV (fun y : Value × List Tg => y.1) L) :: sep (L.map bR) :: strs v27 ks :: locksR lk G D :: [bk g (Tg.c gone), SL.sz h0.size, old h0, SL.fz h0])) ⟨[], rfl, by simp, (show Hs h (emS :: mpS mb Value.string [] :: strs v27 ks :: locksR lk G D :: [bk g (Tg.c gone), SL.sz h0.size, old h0, SL.fz h0]) from Hs.em.2 H.pl).p1⟩ ?_
    clear H
    rintro i h σ0 nx hi ⟨L, hLk, hLl, H⟩ hnx
    refine cn_lss (fun hlt => ?_) fun hge => ?_
    · have hlt : i < ks.length := by omega
      refine ixM hlt fun b hrd => ld1R hrd ?_
      have hkn : ks[i] ∉ L.map (·.1) := by
        rw [hLk]
        intro hm
        have e := List.take_append_drop i ks
        rw [← e, List.nodup_append] at hksn
        exact hksn.2.2 _ hm _ (by rw [List.drop_eq_getElem_cons hlt]; exact List.mem_cons_self ..) rfl
      have hkt : ks.take (i + 1) = ks.take i ++ [ks[i]] := List.take_succ_eq_append_getElem hlt
      generalize ks[i] = k at hkn hkt
      refine clB (s24 (m := lk) (G := G) (D := D) (k := k) (by omega) H.pl) ?_ b24
      rintro v34 h H
      refine upS keyStr und47 (H.pl (ts := mpS mb Value.string _ :: _)) fun h H => ?_
      have hms : mset k v34 (mapV (fun y : Value × List Tg => y.1) L) = mapV (fun y : Value × List Tg => y.1) (L ++ [(k, (v34, (lineOf k G).map (·.1)))]) := by
        have : k ∉ (mapV (fun y : Value × List Tg => y.1) L).map (·.1) := by rw [keys_mapV]; exact hkn
        rw [mset, if_neg this]; simp [mapV]
      rw [hms] at H
      refine nx_add i (by omega) (hnx h hlt ⟨L ++ [(k, (v34, (lineOf k G).map (·.1)))], by rw [List.map_append, hLk, hkt]; rfl, ?_, ?_⟩)
      · intro y hy
        rcases List.mem_append.1 hy with hy | hy
        · exact hLl y hy
        · simp only [List.mem_singleton] at hy; rw [hy]
      · have H : Hs h (bR (k, (v34, (lineOf k G).map (·.1))) :: sep (L.map bR) :: sep (([] : List BRow).map bR) :: mpS mb Value.string (mapV (fun y : Value × List Tg => y.1) (L ++ [(k, (v34, (lineOf k G).map (·.1)))])) :: strs v27 ks :: locksR lk G D :: [bk g (Tg.c gone), SL.sz h0.size, old h0, SL.fz h0]) :=
          Hs.p2 (Hs.p2 (Hs.em.2 H.pl))
        exact (sep_mid.2 H).pl
    · have : i = ks.length := by omega
      subst this
      rw [List.take_length] at hLk
      repeat (first | with_reducible refine nc_s ?_ | with_reducible refine fa_0 ?_ | with_reducible refine fa_s ?_ | with_reducible refine ldB ?_ | with_reducible refine ldaB ?_ | with_reducible refine ldnB ?_ | with_reducible refine gd_t ?_ | with_reducible refine gd_f (by simp) ?_ | with_reducible refine an_s (ldB rfl) ?_ | with_reducible refine an_s (ldaB rfl) ?_ | with_reducible refine an_s (gd_t (ldaB rfl)) ?_ | with_reducible refine an_s (gd_t (ldB rfl)) ?_ | with_reducible refine an_s (gd_f (by simp) rfl) ?_ | with_reducible refine lnM ?_ | with_reducible refine lnB ?_ | with_reducible refine lnT_s ?_ | with_reducible refine mf_s ?_ | with_reducible refine pk_t ?_ | with_reducible refine pk_f ?_ | with_reducible refine nt_t ?_ | with_reducible refine nt_f ?_ | with_reducible refine cn_t ?_ | with_reducible refine cn_f ?_ | with_reducible refine ex0 ?_ | with_reducible refine ex1 ?_ | with_reducible refine ex2 ?_)
      refine clB (s25 (m := lk) (G := G) (D := D) (t := gone) (by omega) H.pl) ?_ b25
      rintro _ h H
      have e1 := lvG_sz gone G
      have e2 := lvG_len gone G
      repeat (first | with_reducible refine nc_s ?_ | with_reducible refine fa_0 ?_ | with_reducible refine fa_s ?_ | with_reducible refine ldB ?_ | with_reducible refine ldaB ?_ | with_reducible refine ldnB ?_ | with_reducible refine gd_t ?_ | with_reducible refine gd_f (by simp) ?_ | with_reducible refine an_s (ldB rfl) ?_ | with_reducible refine an_s (ldaB rfl) ?_ | with_reducible refine an_s (gd_t (ldaB rfl)) ?_ | with_reducible refine an_s (gd_t (ldB rfl)) ?_ | with_reducible refine an_s (gd_f (by simp) rfl) ?_ | with_reducible refine lnM ?_ | with_reducible refine lnB ?_ | with_reducible refine lnT_s ?_ | with_reducible refine mf_s ?_ | with_reducible refine pk_t ?_ | with_reducible refine pk_f ?_ | with_reducible refine nt_t ?_ | with_reducible refine nt_f ?_ | with_reducible refine cn_t ?_ | with_reducible refine cn_f ?_ | with_reducible refine ex0 ?_ | with_reducible refine ex1 ?_ | with_reducible refine ex2 ?_)
      refine clB (s26 (m := lk) (G := lvG gone G) (t := gone) (by omega) (by omega) (lo_cons mpS_lo (lo_cons (sepm_lo bR_lo L) (lo_cons vec_lo (lo_bk (lo_sz ((H.pl (ts := SL.sz h0.size :: _)).los hfz)))))) H) ?_ b26
      rintro v39 h ⟨ks2, _, _, H⟩
      rw [ahd_lv] at H
      refine lnM ?_
      refine bn_ne ?_
      rw [decide_eq_false (by simp)]
      repeat (first | with_reducible refine nc_s ?_ | with_reducible refine fa_0 ?_ | with_reducible refine fa_s ?_ | with_reducible refine ldB ?_ | with_reducible refine ldaB ?_ | with_reducible refine ldnB ?_ | with_reducible refine gd_t ?_ | with_reducible refine gd_f (by simp) ?_ | with_reducible refine an_s (ldB rfl) ?_ | with_reducible refine an_s (ldaB rfl) ?_ | with_reducible refine an_s (gd_t (ldaB rfl)) ?_ | with_reducible refine an_s (gd_t (ldB rfl)) ?_ | with_reducible refine an_s (gd_f (by simp) rfl) ?_ | with_reducible refine lnM ?_ | with_reducible refine lnB ?_ | with_reducible refine lnT_s ?_ | with_reducible refine mf_s ?_ | with_reducible refine pk_t ?_ | with_reducible refine pk_f ?_ | with_reducible refine nt_t ?_ | with_reducible refine nt_f ?_ | with_reducible refine cn_t ?_ | with_reducible refine cn_f ?_ | with_reducible refine ex0 ?_ | with_reducible refine ex1 ?_ | with_reducible refine ex2 ?_)
      refine clB (s27 (m := lk) (G := lvG gone G) (t := gone) H.pl) ?_ b27
      rintro _ h ⟨rfl, H⟩
      rw [decide_eq_false (by simp)]
      repeat (first | with_reducible refine nc_s ?_ | with_reducible refine fa_0 ?_ | with_reducible refine fa_s ?_ | with_reducible refine ldB ?_ | with_reducible refine ldaB ?_ | with_reducible refine ldnB ?_ | with_reducible refine gd_t ?_ | with_reducible refine gd_f (by simp) ?_ | with_reducible refine an_s (ldB rfl) ?_ | with_reducible refine an_s (ldaB rfl) ?_ | with_reducible refine an_s (gd_t (ldaB rfl)) ?_ | with_reducible refine an_s (gd_t (ldB rfl)) ?_ | with_reducible refine an_s (gd_f (by simp) rfl) ?_ | with_reducible refine lnM ?_ | with_reducible refine lnB ?_ | with_reducible refine lnT_s ?_ | with_reducible refine mf_s ?_ | with_reducible refine pk_t ?_ | with_reducible refine pk_f ?_ | with_reducible refine nt_t ?_ | with_reducible refine nt_f ?_ | with_reducible refine cn_t ?_ | with_reducible refine cn_f ?_ | with_reducible refine ex0 ?_ | with_reducible refine ex1 ?_ | with_reducible refine ex2 ?_)
      refine clB (s28 (m := lk) (G := lvG gone G) (t := gone) (by omega) H.pl) ?_ b28
      rintro _ h ⟨rfl, H⟩
      rw [ready_lv]
      repeat (first | with_reducible refine nc_s ?_ | with_reducible refine fa_0 ?_ | with_reducible refine fa_s ?_ | with_reducible refine ldB ?_ | with_reducible refine ldaB ?_ | with_reducible refine ldnB ?_ | with_reducible refine gd_t ?_ | with_reducible refine gd_f (by simp) ?_ | with_reducible refine an_s (ldB rfl) ?_ | with_reducible refine an_s (ldaB rfl) ?_ | with_reducible refine an_s (gd_t (ldaB rfl)) ?_ | with_reducible refine an_s (gd_t (ldB rfl)) ?_ | with_reducible refine an_s (gd_f (by simp) rfl) ?_ | with_reducible refine lnM ?_ | with_reducible refine lnB ?_ | with_reducible refine lnT_s ?_ | with_reducible refine mf_s ?_ | with_reducible refine pk_t ?_ | with_reducible refine pk_f ?_ | with_reducible refine nt_t ?_ | with_reducible refine nt_f ?_ | with_reducible refine cn_t ?_ | with_reducible refine cn_f ?_ | with_reducible refine ex0 ?_ | with_reducible refine ex1 ?_ | with_reducible refine ex2 ?_)
      refine rangeS und47 (H.pl (ts := mpS mb Value.string (mapV (fun y : Value × List Tg => y.1) L) :: sep (L.map bR) :: locksR lk (lvG gone G) (D.filter fun c => decide (c ≠ gone)) :: bk g (Tg.c gone) :: [old h0, SL.fz h0])) fun r h H => ?_
      refine ⟨fun n h => ∃ rem cur, n = rem.length ∧ Hs h (mitS r mb Value.string (mapV (fun y : Value × List Tg => y.1) L) rem cur :: sep (L.map bR) :: locksR lk (lvG gone G) (D.filter fun c => decide (c ≠ gone)) :: bk g (Tg.c gone) :: [old h0, SL.fz h0]), ⟨_, _, none, rfl, H⟩, ?_⟩
      clear H
      rintro n σ0 h ⟨rem, cur, rfl, H⟩
      obtain ⟨hsub, _⟩ := H.mitSub
      refine nextS H (fun hr h H => ?_) fun y hy h H => ?_
      · repeat (first | with_reducible refine nc_s ?_ | with_reducible refine fa_0 ?_ | with_reducible refine fa_s ?_ | with_reducible refine ldB ?_ | with_reducible refine ldaB ?_ | with_reducible refine ldnB ?_ | with_reducible refine gd_t ?_ | with_reducible refine gd_f (by simp) ?_ | with_reducible refine an_s (ldB rfl) ?_ | with_reducible refine an_s (ldaB rfl) ?_ | with_reducible refine an_s (gd_t (ldaB rfl)) ?_ | with_reducible refine an_s (gd_t (ldB rfl)) ?_ | with_reducible refine an_s (gd_f (by simp) rfl) ?_ | with_reducible refine lnM ?_ | with_reducible refine lnB ?_ | with_reducible refine lnT_s ?_ | with_reducible refine mf_s ?_ | with_reducible refine pk_t ?_ | with_reducible refine pk_f ?_ | with_reducible refine nt_t ?_ | with_reducible refine nt_f ?_ | with_reducible refine cn_t ?_ | with_reducible refine cn_f ?_ | with_reducible refine ex0 ?_ | with_reducible refine ex1 ?_ | with_reducible refine ex2 ?_)
        exact ⟨rfl, H.pl⟩
      · obtain ⟨k, vy⟩ := y
        obtain ⟨z, hz, ez⟩ := List.mem_map.1 (hsub _ hy)
        obtain ⟨A, B, e⟩ := List.append_of_mem hz
        obtain ⟨k', sv, line⟩ := z
        simp only [Prod.mk.injEq] at ez
        obtain ⟨rfl, rfl⟩ := ez
        have hline := hLl _ hz
        simp only [] at hline
        repeat (first | with_reducible refine nc_s ?_ | with_reducible refine fa_0 ?_ | with_reducible refine fa_s ?_ | with_reducible refine ldB ?_ | with_reducible refine ldaB ?_ | with_reducible refine ldnB ?_ | with_reducible refine gd_t ?_ | with_reducible refine gd_f (by simp) ?_ | with_reducible refine an_s (ldB rfl) ?_ | with_reducible refine an_s (ldaB rfl) ?_ | with_reducible refine an_s (gd_t (ldaB rfl)) ?_ | with_reducible refine an_s (gd_t (ldB rfl)) ?_ | with_reducible refine an_s (gd_f (by simp) rfl) ?_ | with_reducible refine lnM ?_ | with_reducible refine lnB ?_ | with_reducible refine lnT_s ?_ | with_reducible refine mf_s ?_ | with_reducible refine pk_t ?_ | with_reducible refine pk_f ?_ | with_reducible refine nt_t ?_ | with_reducible refine nt_f ?_ | with_reducible refine cn_t ?_ | with_reducible refine cn_f ?_ | with_reducible refine ex0 ?_ | with_reducible refine ex1 ?_ | with_reducible refine ex2 ?_)
        refine entryS H ?_
        repeat (first | with_reducible refine nc_s ?_ | with_reducible refine fa_0 ?_ | with_reducible refine fa_s ?_ | with_reducible refine ldB ?_ | with_reducible refine ldaB ?_ | with_reducible refine ldnB ?_ | with_reducible refine gd_t ?_ | with_reducible refine gd_f (by simp) ?_ | with_reducible refine an_s (ldB rfl) ?_ | with_reducible refine an_s (ldaB rfl) ?_ | with_reducible refine an_s (gd_t (ldaB rfl)) ?_ | with_reducible refine an_s (gd_t (ldB rfl)) ?_ | with_reducible refine an_s (gd_f (by simp) rfl) ?_ | with_reducible refine lnM ?_ | with_reducible refine lnB ?_ | with_reducible refine lnT_s ?_ | with_reducible refine mf_s ?_ | with_reducible refine pk_t ?_ | with_reducible refine pk_f ?_ | with_reducible refine nt_t ?_ | with_reducible refine nt_f ?_ | with_reducible refine cn_t ?_ | with_reducible refine cn_f ?_ | with_reducible refine ex0 ?_ | with_reducible refine ex1 ?_ | with_reducible refine ex2 ?_)
        have hnext : ∀ h, Hs h (mitS r mb Value.string (mapV (fun y : Value × List Tg => y.1) L) (mdel k' rem) (some (k', sv)) :: tgs sv line :: sep (A.map bR) :: sep (B.map bR) :: locksR lk (lvG gone G) (D.filter fun c => decide (c ≠ gone)) :: bk g (Tg.c gone) :: [old h0, SL.fz h0]) →
            ∃ m', m' < rem.length ∧ ∃ rem2 cur, m' = rem2.length ∧ Hs h (mitS r mb Value.string (mapV (fun y : Value × List Tg => y.1) L) rem2 cur :: sep (L.map bR) :: locksR lk (lvG gone G) (D.filter fun c => decide (c ≠ gone)) :: bk g (Tg.c gone) :: [old h0, SL.fz h0]) := by
          intro h H
          refine ⟨_, ?_, mdel k' rem, some (k', sv), rfl, ?_⟩
          · unfold mdel
            exact List.length_filter_lt_length_iff_exists.2 ⟨_, hy, by simp⟩
          · have H : Hs h (bR (k', sv, line) :: sep (A.map bR) :: sep (B.map bR) :: mitS r mb Value.string (mapV (fun y : Value × List Tg => y.1) L) (mdel k' rem) (some (k', sv)) :: locksR lk (lvG gone G) (D.filter fun c => decide (c ≠ gone)) :: bk g (Tg.c gone) :: [old h0, SL.fz h0]) := H.pl
            have H := sep_mid.2 H
            rw [← e] at H
            exact H.pl
        have H : Hs h (sep ((A ++ (k', sv, line) :: B).map bR) :: mitS r mb Value.string (mapV (fun y : Value × List Tg => y.1) L) (mdel k' rem) (some (k', sv)) :: locksR lk (lvG gone G) (D.filter fun c => decide (c ≠ gone)) :: bk g (Tg.c gone) :: [old h0, SL.fz h0]) := by rw [← e]; exact H.pl
        have H : Hs h (tgs sv line :: sep (A.map bR) :: sep (B.map bR) :: mitS r mb Value.string (mapV (fun y : Value × List Tg => y.1) L) (mdel k' rem) (some (k', sv)) :: locksR lk (lvG gone G) (D.filter fun c => decide (c ≠ gone)) :: bk g (Tg.c gone) :: [old h0, SL.fz h0]) := sep_mid.1 H
        have hll : line.length ≤ 100000 := by
          have := lineOf_len k' G
          rw [hline, List.length_map]; omega
        refine bslB [] fun w h H => ?_
        refine lnM ?_
        have H : Hs h (tgs (sl w 0 0 0) ((line.take 0).filter fun c => decide (c ≠ gone)) :: _) := Hs.vec1 (v00 4) H
        refine lp2 line.length (fun j o h => Hs h (tgs o ((line.take j).filter fun c => decide (c ≠ gone)) :: mitS r mb Value.string (mapV (fun y : Value × List Tg => y.1) L) (mdel k' rem) (some (k', sv)) :: tgs sv line :: sep (A.map bR) :: sep (B.map bR) :: locksR lk (lvG gone G) (D.filter fun c => decide (c ≠ gone)) :: bk g (Tg.c gone) :: [old h0, SL.fz h0])) H.pl ?_
        clear H
        rintro j o h σ1 nx2 hj H hnx2
        have hwl : ((line.take j).filter fun c => decide (c ≠ gone)).length ≤ 100000 := by
          have := List.length_filter_le (fun c : Tg => decide (c ≠ gone)) (line.take j)
          rw [List.length_take] at this
          omega
        refine cn_lss (fun hlt => ?_) fun hge => ?_
        · have hlt : j < line.length := by omega
          intro k64 hk64
          refine ixM hlt fun b hrd => ldnR hrd rfl ?_
          have fin : ∀ o h, Hs h (tgs o (((line.take j).filter fun c => decide (c ≠ gone)) ++ (if line[j] = gone then [] else [line[j]])) :: mitS r mb Value.string (mapV (fun y : Value × List Tg => y.1) L) (mdel k' rem) (some (k', sv)) :: tgs sv line :: sep (A.map bR) :: sep (B.map bR) :: locksR lk (lvG gone G) (D.filter fun c => decide (c ≠ gone)) :: bk g (Tg.c gone) :: [old h0, SL.fz h0]) → k64 o h := by
            intro o h H
            refine hk64 o h fun _ => nx_add j (by omega) (hnx2 _ h hlt ?_)
            rw [List.take_succ_eq_append_getElem hlt, List.filter_append]
            have : [line[j]].filter (fun c => decide (c ≠ gone)) = if line[j] = gone then [] else [line[j]] := by
              by_cases e : line[j] = gone <;> simp [e]
            rw [this]; exact H
          generalize line[j] = u at fin
          refine alB fun y h H => ?_
          refine staB (vs := Tg.c u) (h1 := Tg.one u) fun h H => ?_
          repeat (first | with_reducible refine nc_s ?_ | with_reducible refine fa_0 ?_ | with_reducible refine fa_s ?_ | with_reducible refine ldB ?_ | with_reducible refine ldaB ?_ | with_reducible refine ldnB ?_ | with_reducible refine gd_t ?_ | with_reducible refine gd_f (by simp) ?_ | with_reducible refine an_s (ldB rfl) ?_ | with_reducible refine an_s (ldaB rfl) ?_ | with_reducible refine an_s (gd_t (ldaB rfl)) ?_ | with_reducible refine an_s (gd_t (ldB rfl)) ?_ | with_reducible refine an_s (gd_f (by simp) rfl) ?_ | with_reducible refine lnM ?_ | with_reducible refine lnB ?_ | with_reducible refine lnT_s ?_ | with_reducible refine mf_s ?_ | with_reducible refine pk_t ?_ | with_reducible refine pk_f ?_ | with_reducible refine nt_t ?_ | with_reducible refine nt_f ?_ | with_reducible refine cn_t ?_ | with_reducible refine cn_f ?_ | with_reducible refine ex0 ?_ | with_reducible refine ex1 ?_ | with_reducible refine ex2 ?_)
          refine beT ?_
          by_cases hu : u = gone
          · rw [decide_eq_true hu]
            refine cn_f (fin _ h ?_)
            rw [if_pos hu, List.append_nil]; exact H.pl
          · rw [decide_eq_false hu]
            refine cn_t ?_
            repeat (first | with_reducible refine nc_s ?_ | with_reducible refine fa_0 ?_ | with_reducible refine fa_s ?_ | with_reducible refine ldB ?_ | with_reducible refine ldaB ?_ | with_reducible refine ldnB ?_ | with_reducible refine gd_t ?_ | with_reducible refine gd_f (by simp) ?_ | with_reducible refine an_s (ldB rfl) ?_ | with_reducible refine an_s (ldaB rfl) ?_ | with_reducible refine an_s (gd_t (ldaB rfl)) ?_ | with_reducible refine an_s (gd_t (ldB rfl)) ?_ | with_reducible refine an_s (gd_f (by simp) rfl) ?_ | with_reducible refine lnM ?_ | with_reducible refine lnB ?_ | with_reducible refine lnT_s ?_ | with_reducible refine mf_s ?_ | with_reducible refine pk_t ?_ | with_reducible refine pk_f ?_ | with_reducible refine nt_t ?_ | with_reducible refine nt_f ?_ | with_reducible refine cn_t ?_ | with_reducible refine cn_f ?_ | with_reducible refine ex0 ?_ | with_reducible refine ex1 ?_ | with_reducible refine ex2 ?_)
            refine bslB (Tg.c u) fun q h H => ?_
            refine ap1M u (Tg.one u) fun s2 h H => fin _ h ?_
            rw [if_neg hu]; exact H.pl
        · have : j = line.length := by omega
          subst this
          rw [List.take_length] at H
          refine clB (s24 (m := lk) (G := lvG gone G) (k := k') (by omega) H.pl) ?_ b24
          rintro v76 h H
          rw [lineOf_lv, filt_tags, ← hline] at H
          refine clB (s29 (s := v76) (l := line.filter fun c => decide (c ≠ gone)) (s' := o) (l' := line.filter fun c => decide (c ≠ gone)) (by rw [List.take_length] at hwl; omega) H.pl) ?_ b29
          rintro _ h ⟨rfl, H⟩
          rw [decide_eq_true rfl]
          repeat (first | with_reducible refine nc_s ?_ | with_reducible refine fa_0 ?_ | with_reducible refine fa_s ?_ | with_reducible refine ldB ?_ | with_reducible refine ldaB ?_ | with_reducible refine ldnB ?_ | with_reducible refine gd_t ?_ | with_reducible refine gd_f (by simp) ?_ | with_reducible refine an_s (ldB rfl) ?_ | with_reducible refine an_s (ldaB rfl) ?_ | with_reducible refine an_s (gd_t (ldaB rfl)) ?_ | with_reducible refine an_s (gd_t (ldB rfl)) ?_ | with_reducible refine an_s (gd_f (by simp) rfl) ?_ | with_reducible refine lnM ?_ | with_reducible refine lnB ?_ | with_reducible refine lnT_s ?_ | with_reducible refine mf_s ?_ | with_reducible refine pk_t ?_ | with_reducible refine pk_f ?_ | with_reducible refine nt_t ?_ | with_reducible refine nt_f ?_ | with_reducible refine cn_t ?_ | with_reducible refine cn_f ?_ | with_reducible refine ex0 ?_ | with_reducible refine ex1 ?_ | with_reducible refine ex2 ?_)
          refine clB (s31 (m := lk) (G := lvG gone G) (k := k') (by omega) H.pl) ?_ b31
          rintro v82 h H
          repeat (first | with_reducible refine nc_s ?_ | with_reducible refine fa_0 ?_ | with_reducible refine fa_s ?_ | with_reducible refine ldB ?_ | with_reducible refine ldaB ?_ | with_reducible refine ldnB ?_ | with_reducible refine gd_t ?_ | with_reducible refine gd_f (by simp) ?_ | with_reducible refine an_s (ldB rfl) ?_ | with_reducible refine an_s (ldaB rfl) ?_ | with_reducible refine an_s (gd_t (ldaB rfl)) ?_ | with_reducible refine an_s (gd_t (ldB rfl)) ?_ | with_reducible refine an_s (gd_f (by simp) rfl) ?_ | with_reducible refine lnM ?_ | with_reducible refine lnB ?_ | with_reducible refine lnT_s ?_ | with_reducible refine mf_s ?_ | with_reducible refine pk_t ?_ | with_reducible refine pk_f ?_ | with_reducible refine nt_t ?_ | with_reducible refine nt_f ?_ | with_reducible refine cn_t ?_ | with_reducible refine cn_f ?_ | with_reducible refine ex0 ?_ | with_reducible refine ex1 ?_ | with_reducible refine ex2 ?_)
          have hpk : ((parkOf k' (lvG gone G)).map (·.1)).length ≤ 1000000000 := by
            have := parkOf_len k' (lvG gone G)
            rw [List.length_map]; omega
          refine clB (s30 (l := (parkOf k' (lvG gone G)).map (·.1)) (t := gone) hpk H) ?_ b30
          rintro _ h ⟨rfl, H⟩
          rw [decide_eq_false (by rw [parkOf_lv]; exact not_filt gone _)]
          repeat (first | with_reducible refine nc_s ?_ | with_reducible refine fa_0 ?_ | with_reducible refine fa_s ?_ | with_reducible refine ldB ?_ | with_reducible refine ldaB ?_ | with_reducible refine ldnB ?_ | with_reducible refine gd_t ?_ | with_reducible refine gd_f (by simp) ?_ | with_reducible refine an_s (ldB rfl) ?_ | with_reducible refine an_s (ldaB rfl) ?_ | with_reducible refine an_s (gd_t (ldaB rfl)) ?_ | with_reducible refine an_s (gd_t (ldB rfl)) ?_ | with_reducible refine an_s (gd_f (by simp) rfl) ?_ | with_reducible refine lnM ?_ | with_reducible refine lnB ?_ | with_reducible refine lnT_s ?_ | with_reducible refine mf_s ?_ | with_reducible refine pk_t ?_ | with_reducible refine pk_f ?_ | with_reducible refine nt_t ?_ | with_reducible refine nt_f ?_ | with_reducible refine cn_t ?_ | with_reducible refine cn_f ?_ | with_reducible refine ex0 ?_ | with_reducible refine ex1 ?_ | with_reducible refine ex2 ?_)
          exact hnext h H.pl
end Go.Proofs.YtalknmdbamlabaaGreat.Q
