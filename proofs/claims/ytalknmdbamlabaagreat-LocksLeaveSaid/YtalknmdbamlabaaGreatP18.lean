/- The locks: Moved. Conditions: none. -/
import Derived.Test.YtalknmdbamlabaaGreatPull
namespace Go.Proofs.YtalknmdbamlabaaGreat.Q
open Go
open SL (bk bkn mp old it exS puS emS stS)
theorem mset_dm (t : Tg) (D : List Tg) : mset t (vi 1) (dmp D) = dmp (dm t D) := by
  unfold mset dm
  have hk : (dmp D).map (·.1) = D := by unfold dmp; rw [List.map_map]; exact List.map_id D
  rw [hk]
  by_cases ht : t ∈ D
  · rw [if_pos ht, if_pos ht]
    unfold dmp
    rw [List.map_map]
    refine List.map_congr_left fun z _ => ?_
    simp only [Function.comp]
    split
    · rename_i e; rw [e]
    · rfl
  · rw [if_neg ht, if_neg ht]; simp [dmp]
theorem updoom {h : Hp} {K : Unit → A} {rs' : List SL} {d : Nat} {D : List Tg} {t : Tg} (k : ∀ h', Hs h' (mpS d tgV (dmp (dm t D)) :: rs') → K () h') (H : Hs h (mpS d tgV (dmp D) :: rs')) :
    ru Tryz.prog (Instr.mapUpdate 208 (.map (some d)) (.agg (Tg.c t).toArray) (vi 1)) K h :=
  upS (kc := tgV) (k := t) (v := vi 1) keyTag und208 H fun h H => k h (by rw [mset_dm] at H; exact H)
abbrev MS := List Cm × List Tg
def mvp (rh rc : Int) (s : MS) (c : Cm) : Bool × MS :=
  (decide (lk rh rc c.2 ≠ 1), if lk rh rc c.2 = 0 then (s.1 ++ [c], s.2) else if lk rh rc c.2 = 2 then (s.1, dm c.1 s.2) else s)
def gateS (gb : Nat) (sp : Value) (ln : List Cm) : SL := exS fun sl : Value => sep [bk gb [sl, sp], cms sl ln]
theorem Hs.gateS {h : Hp} {gb : Nat} {sp : Value} {ln : List Cm} {rs : List SL} : Hs h (Q.gateS gb sp ln :: rs) ↔ ∃ sl, Hs h (bk gb [sl, sp] :: cms sl ln :: rs) := by
  constructor
  · intro H; obtain ⟨sl, H⟩ := Hs.ex.1 H; exact ⟨sl, Hs.join.1 H⟩
  · rintro ⟨sl, H⟩; exact Hs.ex.2 ⟨sl, Hs.join.2 H⟩
abbrev mvG (g5 r6 l1 m g d gb : Nat) (sp rsl : Value) (rc : Rc) (rs : List SL) (s : MS) : List SL :=
  Q.gateS gb sp s.1 :: mpS d tgV (dmp s.2) :: bk l1 [pt m 0] :: bk g5 [pt gb 0] :: bk r6 (rc.c rsl) :: bk m [.map (some g), .map (some d)] :: rs
theorem s222 {h : Hp} {rs : List SL} {g5 r6 l1 m g d gb : Nat} {sp rsl : Value} {rc : Rc} {s : MS} {c : Cm} (hl : s.1.length + 1 ≤ 1000000) (H : Hs h (mvG g5 r6 l1 m g d gb sp rsl rc rs s)) :
    FnW Tryz.prog 222 #[.agg (Cm.c c).toArray, pt r6 0, pt g5 0, pt l1 0] (fun v h' => v = .bool (mvp rc.home rc.cnt s c).1 ∧ Hs h' (mvG g5 r6 l1 m g d gb sp rsl rc rs (mvp rc.home rc.cnt s c).2)) h := by
  refine c222 ?_
  unfold C222
  unfold mvG at H
  obtain ⟨sl, H⟩ := Hs.gateS.1 H
  refine bxB fun x h H => ?_
  repeat (first | with_reducible refine nc_s ?_ | with_reducible refine fa_0 ?_ | with_reducible refine fa_s ?_ | with_reducible refine ldB ?_ | with_reducible refine ldaB ?_ | with_reducible refine ldnB ?_ | with_reducible refine gd_t ?_ | with_reducible refine gd_f (by simp) ?_ | with_reducible refine an_s (ldB rfl) ?_ | with_reducible refine an_s (ldaB rfl) ?_ | with_reducible refine an_s (gd_t (ldaB rfl)) ?_ | with_reducible refine an_s (gd_t (ldB rfl)) ?_ | with_reducible refine an_s (gd_f (by simp) rfl) ?_ | with_reducible refine lnM ?_ | with_reducible refine lnB ?_ | with_reducible refine lnT_s ?_ | with_reducible refine mf_s ?_ | with_reducible refine pk_t ?_ | with_reducible refine pk_f ?_ | with_reducible refine nt_t ?_ | with_reducible refine nt_f ?_ | with_reducible refine cn_t ?_ | with_reducible refine cn_f ?_ | with_reducible refine ex0 ?_ | with_reducible refine ex1 ?_ | with_reducible refine ex2 ?_)
  refine clB (s219 (a := .bool rc.has) (b := rsl) (rh := rc.home) (rc := rc.cnt) (m := c.2) H) ?_ b219
  rintro _ h ⟨rfl, H⟩
  intro k6 hk6
  have fin : ∀ h s', Hs h (mvG g5 r6 l1 m g d gb sp rsl rc rs s') → s' = (mvp rc.home rc.cnt s c).2 → k6 h := by
    rintro h s' H rfl
    refine hk6 h fun _ => ?_
    exact bn_ne ⟨rfl, H⟩
  refine cn_eql (fun h0 => ?_) fun h0 => cn_eql (fun h2 => ?_) fun h2 => ?_
  · repeat (first | with_reducible refine nc_s ?_ | with_reducible refine fa_0 ?_ | with_reducible refine fa_s ?_ | with_reducible refine ldB ?_ | with_reducible refine ldaB ?_ | with_reducible refine ldnB ?_ | with_reducible refine gd_t ?_ | with_reducible refine gd_f (by simp) ?_ | with_reducible refine an_s (ldB rfl) ?_ | with_reducible refine an_s (ldaB rfl) ?_ | with_reducible refine an_s (gd_t (ldaB rfl)) ?_ | with_reducible refine an_s (gd_t (ldB rfl)) ?_ | with_reducible refine an_s (gd_f (by simp) rfl) ?_ | with_reducible refine lnM ?_ | with_reducible refine lnB ?_ | with_reducible refine lnT_s ?_ | with_reducible refine mf_s ?_ | with_reducible refine pk_t ?_ | with_reducible refine pk_f ?_ | with_reducible refine nt_t ?_ | with_reducible refine nt_f ?_ | with_reducible refine cn_t ?_ | with_reducible refine cn_f ?_ | with_reducible refine ex0 ?_ | with_reducible refine ex1 ?_ | with_reducible refine ex2 ?_)
    refine bslB (Cm.c c) fun y h H => ?_
    repeat (first | with_reducible refine nc_s ?_ | with_reducible refine fa_0 ?_ | with_reducible refine fa_s ?_ | with_reducible refine ldB ?_ | with_reducible refine ldaB ?_ | with_reducible refine ldnB ?_ | with_reducible refine gd_t ?_ | with_reducible refine gd_f (by simp) ?_ | with_reducible refine an_s (ldB rfl) ?_ | with_reducible refine an_s (ldaB rfl) ?_ | with_reducible refine an_s (gd_t (ldaB rfl)) ?_ | with_reducible refine an_s (gd_t (ldB rfl)) ?_ | with_reducible refine an_s (gd_f (by simp) rfl) ?_ | with_reducible refine lnM ?_ | with_reducible refine lnB ?_ | with_reducible refine lnT_s ?_ | with_reducible refine mf_s ?_ | with_reducible refine pk_t ?_ | with_reducible refine pk_f ?_ | with_reducible refine nt_t ?_ | with_reducible refine nt_f ?_ | with_reducible refine cn_t ?_ | with_reducible refine cn_f ?_ | with_reducible refine ex0 ?_ | with_reducible refine ex1 ?_ | with_reducible refine ex2 ?_)
    refine ap1M c (Cm.one _) (hz := zc7_1) fun s' h H => ?_
    repeat (first | with_reducible refine nc_s ?_ | with_reducible refine fa_0 ?_ | with_reducible refine fa_s ?_ | with_reducible refine ldB ?_ | with_reducible refine ldaB ?_ | with_reducible refine ldnB ?_ | with_reducible refine gd_t ?_ | with_reducible refine gd_f (by simp) ?_ | with_reducible refine an_s (ldB rfl) ?_ | with_reducible refine an_s (ldaB rfl) ?_ | with_reducible refine an_s (gd_t (ldaB rfl)) ?_ | with_reducible refine an_s (gd_t (ldB rfl)) ?_ | with_reducible refine an_s (gd_f (by simp) rfl) ?_ | with_reducible refine lnM ?_ | with_reducible refine lnB ?_ | with_reducible refine lnT_s ?_ | with_reducible refine mf_s ?_ | with_reducible refine pk_t ?_ | with_reducible refine pk_f ?_ | with_reducible refine nt_t ?_ | with_reducible refine nt_f ?_ | with_reducible refine cn_t ?_ | with_reducible refine cn_f ?_ | with_reducible refine ex0 ?_ | with_reducible refine ex1 ?_ | with_reducible refine ex2 ?_)
    refine stB (h1 := H.vecC) fun h H => fin h (s.1 ++ [c], s.2) ?_ (by rw [mvp, if_pos h0])
    exact (Hs.gateS.2 ⟨s', H.pl⟩).pl
  · repeat (first | with_reducible refine nc_s ?_ | with_reducible refine fa_0 ?_ | with_reducible refine fa_s ?_ | with_reducible refine ldB ?_ | with_reducible refine ldaB ?_ | with_reducible refine ldnB ?_ | with_reducible refine gd_t ?_ | with_reducible refine gd_f (by simp) ?_ | with_reducible refine an_s (ldB rfl) ?_ | with_reducible refine an_s (ldaB rfl) ?_ | with_reducible refine an_s (gd_t (ldaB rfl)) ?_ | with_reducible refine an_s (gd_t (ldB rfl)) ?_ | with_reducible refine an_s (gd_f (by simp) rfl) ?_ | with_reducible refine lnM ?_ | with_reducible refine lnB ?_ | with_reducible refine lnT_s ?_ | with_reducible refine mf_s ?_ | with_reducible refine pk_t ?_ | with_reducible refine pk_f ?_ | with_reducible refine nt_t ?_ | with_reducible refine nt_f ?_ | with_reducible refine cn_t ?_ | with_reducible refine cn_f ?_ | with_reducible refine ex0 ?_ | with_reducible refine ex1 ?_ | with_reducible refine ex2 ?_)
    refine updoom (D := s.2) (fun h H => fin h (s.1, dm c.1 s.2) ?_ (by rw [mvp, if_neg h0, if_pos h2])) H.pl
    exact (Hs.gateS.2 ⟨sl, H.pl⟩).pl
  · exact fin h s (Hs.gateS.2 ⟨sl, H.pl⟩).pl (by rw [mvp, if_neg h0, if_neg h2])
theorem fvMv (g5 r6 l1 m g d gb : Nat) (sp rsl : Value) (rc : Rc) (rs : List SL) :
    FV Tryz.prog (.func (.func 222) #[] #[pt r6 0, pt g5 0, pt l1 0]) (fun e : Cm => .agg (Cm.c e).toArray) (mvp rc.home rc.cnt) (fun s n => s.1.length + n ≤ 1000000) (mvG g5 r6 l1 m g d gb sp rsl rc rs) where
  call := fun s n e h X Y hn H => cv_s b222 ((s222 (g5 := g5) (r6 := r6) (l1 := l1) (m := m) (g := g) (d := d) (gb := gb) (sp := sp) (rsl := rsl) (rc := rc) (rs := X :: Y :: rs) (s := s) (c := e) (by omega) H.pl).mono fun v h' ⟨h1, h2⟩ => ⟨h1, h2.pl⟩) fun v h' h => h
  next := fun s n e hn => by
    unfold mvp
    by_cases h0 : lk rc.home rc.cnt e.2 = 0
    · simp only [h0, if_true, List.length_append, List.length_singleton]; omega
    · by_cases h2 : lk rc.home rc.cnt e.2 = 2
      · rw [if_neg h0, if_pos h2]; show s.1.length + n ≤ 1000000; omega
      · simp only [h0, h2, if_false]; omega
theorem s119' {h : Hp} {s : Value} {l : List Cm} {g5 r6 l1 m g d gb : Nat} {sp rsl : Value} {rc : Rc} {rs : List SL} {σ : MS} (hl : σ.1.length + l.length ≤ 1000000) (H : Hs h (cms s l :: mvG g5 r6 l1 m g d gb sp rsl rc rs σ)) :
    FnW Tryz.prog 119 #[s, .func (.func 222) #[] #[pt r6 0, pt g5 0, pt l1 0]] (fun v h' => ∃ n σ', v = vi n ∧ IdxRes (mvp rc.home rc.cnt) (fun s n => s.1.length + n ≤ 1000000) σ l n σ' ∧ Hs h' (cms s l :: mvG g5 r6 l1 m g d gb sp rsl rc rs σ')) h :=
  c119 (by rw [C119_eq]; exact idxN (fvMv g5 r6 l1 m g d gb sp rsl rc rs) hl (by omega) H fun v σ' h' hr H' => ⟨v, σ', rfl, hr, H'⟩)
theorem s114' {h : Hp} {s : Value} {l : List Cm} {g5 r6 l1 m g d gb : Nat} {sp rsl : Value} {rc : Rc} {rs : List SL} {σ : MS} (hl : σ.1.length + l.length ≤ 1000000) (H : Hs h (cms s l :: mvG g5 r6 l1 m g d gb sp rsl rc rs σ)) :
    FnW Tryz.prog 114 #[s, .func (.func 222) #[] #[pt r6 0, pt g5 0, pt l1 0]] (fun s' h' => Hs h' (cms s' (delS (mvp rc.home rc.cnt) σ l).1 :: mvG g5 r6 l1 m g d gb sp rsl rc rs (delS (mvp rc.home rc.cnt) σ l).2)) h := by
  refine c114 ?_
  rw [C114_eq]
  exact delN (by rfl) El229 (fun e => ⟨rfl, Cm.one e⟩) b119 (fun h H => s119' hl H) (fvMv g5 r6 l1 m g d gb sp rsl rc rs) (by omega) H fun s' h' H' => H'
def dmL (rh rc : Int) (d : List Tg) (c : Cm) : List Tg := if lk rh rc c.2 ≠ 0 then dm c.1 d else d
def movG (rh rc : Int) (k : ByteArray) (s : LS) : LS :=
  let G := addG k s.1
  let r := delS (mvp rh rc) (lineOf k G, (lineOf k G).foldl (dmL rh rc) s.2) (parkOf k G)
  (updG k (fun _ => (r.2.1, r.1)) G, r.2.2)
theorem mvp_len (rh rc : Int) : ∀ (l : List Cm) (s : MS), (delS (mvp rh rc) s l).1.length + (delS (mvp rh rc) s l).2.1.length ≤ s.1.length + l.length
  | [], s => by simp [delS]
  | c :: l, s => by
    have ih := mvp_len rh rc l (mvp rh rc s c).2
    simp only [delS, List.length_cons]
    have h0 : (mvp rh rc s c).2.1.length ≤ s.1.length + if (mvp rh rc s c).1 = true then 1 else 0 := by
      unfold mvp
      by_cases h0 : lk rh rc c.2 = 0
      · simp [h0]
      · by_cases h2 : lk rh rc c.2 = 2
        · simp [h2]
        · simp [h0, h2]
    split
    · rename_i hp; rw [if_pos hp] at h0; omega
    · rename_i hp; rw [if_neg hp] at h0; simp only [List.length_cons]; omega
theorem addG_len (k : ByteArray) (G : GS) : (addG k G).length ≤ G.length + 1 := by unfold addG; split <;> simp
theorem updG_len (k : ByteArray) (f : List Cm × List Cm → List Cm × List Cm) (G : GS) : (updG k f G).length = G.length := by unfold updG; simp
theorem s106 {h : Hp} {rs : List SL} {m so : Nat} {reg : Int} {rows : List (ByteArray × Rc)} {s : LS} {k : ByteArray} (hr : reg ≤ 1000) (hk : k.size ≤ 1000000000) (h1 : szG s.1 ≤ 900000) (H : Hs h (locksR m s.1 s.2 :: storeR so reg rows :: rs)) :
    FnW Tryz.prog 106 #[pt m 0, pt so 0, .string k] (fun v h' => (szG (movG (getRc k reg rows).home (getRc k reg rows).cnt k s).1 ≤ szG s.1 ∧ (movG (getRc k reg rows).home (getRc k reg rows).cnt k s).1.length ≤ s.1.length + 1) ∧ Hs h' (locksR m (movG (getRc k reg rows).home (getRc k reg rows).cnt k s).1 (movG (getRc k reg rows).home (getRc k reg rows).cnt k s).2 :: storeR so reg rows :: rs)) h := by
  refine c106 ?_
  unfold C106
  refine bx1 fun l h H => ?_
  repeat (first | with_reducible refine nc_s ?_ | with_reducible refine fa_0 ?_ | with_reducible refine fa_s ?_ | with_reducible refine ldB ?_ | with_reducible refine ldaB ?_ | with_reducible refine ldnB ?_ | with_reducible refine gd_t ?_ | with_reducible refine gd_f (by simp) ?_ | with_reducible refine an_s (ldB rfl) ?_ | with_reducible refine an_s (ldaB rfl) ?_ | with_reducible refine an_s (gd_t (ldaB rfl)) ?_ | with_reducible refine an_s (gd_t (ldB rfl)) ?_ | with_reducible refine an_s (gd_f (by simp) rfl) ?_ | with_reducible refine lnM ?_ | with_reducible refine lnB ?_ | with_reducible refine lnT_s ?_ | with_reducible refine mf_s ?_ | with_reducible refine pk_t ?_ | with_reducible refine pk_f ?_ | with_reducible refine nt_t ?_ | with_reducible refine nt_f ?_ | with_reducible refine cn_t ?_ | with_reducible refine cn_f ?_ | with_reducible refine ex0 ?_ | with_reducible refine ex1 ?_ | with_reducible refine ex2 ?_)
  refine clB (s218 H.pl) ?_ b218
  rintro _ h ⟨g, d, A, gx, B, rfl, hG, hA, H⟩
  have hkeys : ((A ++ (k, gx) :: B).map (·.1)).Nodup := by rw [← keys_gptr]; exact H.p1.mpNodup
  have hB : ∀ z ∈ B, z.1 ≠ k := by
    rw [List.map_append, List.map_cons, List.nodup_append] at hkeys
    exact fun y hy e => (List.nodup_cons.1 hkeys.2.1).1 (List.mem_map.2 ⟨y, hy, e⟩)
  have hval := gval_mid (B := B) (x := gx) hA
  rw [hG] at hval
  have hline : lineOf k (addG k s.1) = gx.ln := by unfold lineOf; rw [hval]; rfl
  have hpark : parkOf k (addG k s.1) = gx.pk := by unfold parkOf; rw [hval]; rfl
  have hmid := szG_mid (gst A) (gst B) k (gx.ln, gx.pk)
  rw [← gst_mid, hG, szG_add] at hmid
  simp only [] at hmid
  refine clB (s135 hr (by omega) H.pl) ?_ b135
  rintro _ h ⟨rsl, rfl, H⟩
  generalize hrc : getRc k reg rows = rc at H
  refine alB fun g5 h H => ?_
  refine alB fun r6 h H => ?_
  refine stB fun h H => ?_
  refine staB (vs := rc.c rsl) (h1 := (rc_ok (H.pl (ts := byR rsl rc.vl :: _)).vecC k).2) fun h H => ?_
  repeat (first | with_reducible refine nc_s ?_ | with_reducible refine fa_0 ?_ | with_reducible refine fa_s ?_ | with_reducible refine ldB ?_ | with_reducible refine ldaB ?_ | with_reducible refine ldnB ?_ | with_reducible refine gd_t ?_ | with_reducible refine gd_f (by simp) ?_ | with_reducible refine an_s (ldB rfl) ?_ | with_reducible refine an_s (ldaB rfl) ?_ | with_reducible refine an_s (gd_t (ldaB rfl)) ?_ | with_reducible refine an_s (gd_t (ldB rfl)) ?_ | with_reducible refine an_s (gd_f (by simp) rfl) ?_ | with_reducible refine lnM ?_ | with_reducible refine lnB ?_ | with_reducible refine lnT_s ?_ | with_reducible refine mf_s ?_ | with_reducible refine pk_t ?_ | with_reducible refine pk_f ?_ | with_reducible refine nt_t ?_ | with_reducible refine nt_f ?_ | with_reducible refine cn_t ?_ | with_reducible refine cn_f ?_ | with_reducible refine ex0 ?_ | with_reducible refine ex1 ?_ | with_reducible refine ex2 ?_)
  have hln : gx.ln.length + gx.pk.length ≤ 900000 := by omega
  have H : Hs h (mpS d tgV (dmp ((gx.ln.take 0).foldl (dmL rc.home rc.cnt) s.2)) :: _) := H.pl (ts := mpS d tgV (dmp s.2) :: _)
  refine lp1 gx.ln.length (fun i h => Hs h (mpS d tgV (dmp ((gx.ln.take i).foldl (dmL rc.home rc.cnt) s.2)) :: bk r6 (rc.c rsl) :: bk g5 [pt gx.b 0] :: bk l [pt m 0] :: bk m [.map (some g), .map (some d)] :: bk gx.b [gx.sl, gx.sp] :: cms gx.sl gx.ln :: cms gx.sp gx.pk :: mpS g Value.string (gptr (A ++ (k, gx) :: B)) :: sep (A.map gR) :: sep (B.map gR) :: storeR so reg rows :: rs)) H.pl ?_
  clear H
  rintro i h σ0 nx hi H hnx
  refine cn_lss (fun hlt => ?_) fun hge => ?_
  · have hlt : i < gx.ln.length := by omega
    intro k15 hk15
    refine ixM hlt fun b hrd => ?_
    refine ldnR hrd rfl ?_
    have fin : ∀ h, Hs h (mpS d tgV (dmp (dmL rc.home rc.cnt ((gx.ln.take i).foldl (dmL rc.home rc.cnt) s.2) gx.ln[i])) :: bk r6 (rc.c rsl) :: bk g5 [pt gx.b 0] :: bk l [pt m 0] :: bk m [.map (some g), .map (some d)] :: bk gx.b [gx.sl, gx.sp] :: cms gx.sl gx.ln :: cms gx.sp gx.pk :: mpS g Value.string (gptr (A ++ (k, gx) :: B)) :: sep (A.map gR) :: sep (B.map gR) :: storeR so reg rows :: rs) → k15 h :=
      fun h H => hk15 h fun _ => nx_add i (by omega) (hnx h hlt (by rw [List.take_succ_eq_append_getElem hlt, List.foldl_append]; exact H))
    generalize gx.ln[i] = c at fin
    generalize (gx.ln.take i).foldl (dmL rc.home rc.cnt) s.2 = D' at fin H
    refine alB fun x h H => ?_
    refine staB (vs := Cm.c c) (h1 := Cm.one _) fun h H => ?_
    repeat (first | with_reducible refine nc_s ?_ | with_reducible refine fa_0 ?_ | with_reducible refine fa_s ?_ | with_reducible refine ldB ?_ | with_reducible refine ldaB ?_ | with_reducible refine ldnB ?_ | with_reducible refine gd_t ?_ | with_reducible refine gd_f (by simp) ?_ | with_reducible refine an_s (ldB rfl) ?_ | with_reducible refine an_s (ldaB rfl) ?_ | with_reducible refine an_s (gd_t (ldaB rfl)) ?_ | with_reducible refine an_s (gd_t (ldB rfl)) ?_ | with_reducible refine an_s (gd_f (by simp) rfl) ?_ | with_reducible refine lnM ?_ | with_reducible refine lnB ?_ | with_reducible refine lnT_s ?_ | with_reducible refine mf_s ?_ | with_reducible refine pk_t ?_ | with_reducible refine pk_f ?_ | with_reducible refine nt_t ?_ | with_reducible refine nt_f ?_ | with_reducible refine cn_t ?_ | with_reducible refine cn_f ?_ | with_reducible refine ex0 ?_ | with_reducible refine ex1 ?_ | with_reducible refine ex2 ?_)
    refine clB (s219 (a := .bool rc.has) (b := rsl) (rh := rc.home) (rc := rc.cnt) (m := c.2) H) ?_ b219
    rintro _ h ⟨rfl, H⟩
    refine bn_ne (cn_d (fun hne => ?_) fun he => ?_)
    · repeat (first | with_reducible refine nc_s ?_ | with_reducible refine fa_0 ?_ | with_reducible refine fa_s ?_ | with_reducible refine ldB ?_ | with_reducible refine ldaB ?_ | with_reducible refine ldnB ?_ | with_reducible refine gd_t ?_ | with_reducible refine gd_f (by simp) ?_ | with_reducible refine an_s (ldB rfl) ?_ | with_reducible refine an_s (ldaB rfl) ?_ | with_reducible refine an_s (gd_t (ldaB rfl)) ?_ | with_reducible refine an_s (gd_t (ldB rfl)) ?_ | with_reducible refine an_s (gd_f (by simp) rfl) ?_ | with_reducible refine lnM ?_ | with_reducible refine lnB ?_ | with_reducible refine lnT_s ?_ | with_reducible refine mf_s ?_ | with_reducible refine pk_t ?_ | with_reducible refine pk_f ?_ | with_reducible refine nt_t ?_ | with_reducible refine nt_f ?_ | with_reducible refine cn_t ?_ | with_reducible refine cn_f ?_ | with_reducible refine ex0 ?_ | with_reducible refine ex1 ?_ | with_reducible refine ex2 ?_)
      refine updoom (fun h H => fin h ?_) H.pl
      rw [dmL, if_pos hne]; exact H.pl
    · refine fin h ?_
      rw [dmL, if_neg he]; exact H.pl
  · have : i = gx.ln.length := by omega
    subst this
    rw [List.take_length] at H
    repeat (first | with_reducible refine nc_s ?_ | with_reducible refine fa_0 ?_ | with_reducible refine fa_s ?_ | with_reducible refine ldB ?_ | with_reducible refine ldaB ?_ | with_reducible refine ldnB ?_ | with_reducible refine gd_t ?_ | with_reducible refine gd_f (by simp) ?_ | with_reducible refine an_s (ldB rfl) ?_ | with_reducible refine an_s (ldaB rfl) ?_ | with_reducible refine an_s (gd_t (ldaB rfl)) ?_ | with_reducible refine an_s (gd_t (ldB rfl)) ?_ | with_reducible refine an_s (gd_f (by simp) rfl) ?_ | with_reducible refine lnM ?_ | with_reducible refine lnB ?_ | with_reducible refine lnT_s ?_ | with_reducible refine mf_s ?_ | with_reducible refine pk_t ?_ | with_reducible refine pk_f ?_ | with_reducible refine nt_t ?_ | with_reducible refine nt_f ?_ | with_reducible refine cn_t ?_ | with_reducible refine cn_f ?_ | with_reducible refine ex0 ?_ | with_reducible refine ex1 ?_ | with_reducible refine ex2 ?_)
    refine clB (s114' (σ := (gx.ln, gx.ln.foldl (dmL rc.home rc.cnt) s.2)) (g5 := g5) (r6 := r6) (l1 := l) (m := m) (g := g) (d := d) (gb := gx.b) (sp := gx.sp) (rsl := rsl) (rc := rc) (l := gx.pk) (by show gx.ln.length + gx.pk.length ≤ 1000000; omega)
      (Hs.p1 (Hs.gateS.2 ⟨gx.sl, H.pl (ts := bk gx.b [gx.sl, gx.sp] :: cms gx.sl gx.ln :: cms gx.sp gx.pk :: mpS d tgV (dmp (gx.ln.foldl (dmL rc.home rc.cnt) s.2)) :: bk l [pt m 0] :: bk g5 [pt gx.b 0] :: bk r6 (rc.c rsl) :: bk m [.map (some g), .map (some d)] :: _)⟩))) ?_ b114
    rintro s' h H
    generalize hr : delS (mvp rc.home rc.cnt) (gx.ln, gx.ln.foldl (dmL rc.home rc.cnt) s.2) gx.pk = r at H
    obtain ⟨sl', H⟩ := Hs.gateS.1 (Hs.p1 H)
    repeat (first | with_reducible refine nc_s ?_ | with_reducible refine fa_0 ?_ | with_reducible refine fa_s ?_ | with_reducible refine ldB ?_ | with_reducible refine ldaB ?_ | with_reducible refine ldnB ?_ | with_reducible refine gd_t ?_ | with_reducible refine gd_f (by simp) ?_ | with_reducible refine an_s (ldB rfl) ?_ | with_reducible refine an_s (ldaB rfl) ?_ | with_reducible refine an_s (gd_t (ldaB rfl)) ?_ | with_reducible refine an_s (gd_t (ldB rfl)) ?_ | with_reducible refine an_s (gd_f (by simp) rfl) ?_ | with_reducible refine lnM ?_ | with_reducible refine lnB ?_ | with_reducible refine lnT_s ?_ | with_reducible refine mf_s ?_ | with_reducible refine pk_t ?_ | with_reducible refine pk_f ?_ | with_reducible refine nt_t ?_ | with_reducible refine nt_f ?_ | with_reducible refine cn_t ?_ | with_reducible refine cn_f ?_ | with_reducible refine ex0 ?_ | with_reducible refine ex1 ?_ | with_reducible refine ex2 ?_)
    refine stB (h1 := (H.pl (ts := cms s' r.1 :: _)).vecC) fun h H => ?_
    have H := locks_close (x := gx) (x' := ⟨gx.b, sl', s', r.2.1, r.1⟩) rfl (H.pl (ts := bk m [.map (some g), .map (some d)] :: mpS g Value.string (gptr (A ++ (k, gx) :: B)) :: bk gx.b [sl', s'] :: cms sl' r.2.1 :: cms s' r.1 :: sep (A.map gR) :: sep (B.map gR) :: mpS d tgV (dmp r.2.2) :: storeR so reg rows :: rs))
    have e : movG rc.home rc.cnt k s = (gst (A ++ (k, ⟨gx.b, sl', s', r.2.1, r.1⟩) :: B), r.2.2) := by
      unfold movG
      simp only []
      rw [hline, hpark, hr, ← hG, updG_mid hA hB, gst_mid]
    rw [e]
    refine ⟨⟨?_, ?_⟩, H⟩
    · have h2 := mvp_len rc.home rc.cnt gx.pk (gx.ln, gx.ln.foldl (dmL rc.home rc.cnt) s.2)
      rw [hr] at h2
      simp only [] at h2
      rw [gst_mid, szG_mid]
      simp only []
      omega
    · have h2 := addG_len k s.1
      rw [← hG] at h2
      have : (gst (A ++ (k, ⟨gx.b, sl', s', r.2.1, r.1⟩) :: B)).length = (gst (A ++ (k, gx) :: B)).length := by simp [gst, mapV]
      rw [this]; exact h2
end Go.Proofs.YtalknmdbamlabaaGreat.Q
