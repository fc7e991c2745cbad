/- The law's own functions: a step on both; the example. Conditions: none. -/
import Derived.Test.YtalknmdbamlabaaGreatP24
namespace Go.Proofs.YtalknmdbamlabaaGreat.Q
open Go
open SL (bk bkn mp old it exS puS emS stS)
theorem entG_len (rh rc : ByteArray → Int) (t : Tg) : ∀ (ms : List Mk) (s : LS), (ms.foldl (entG rh rc t) s).1.length ≤ s.1.length + ms.length
  | [], s => by simp
  | m :: ms, s => by
    have ih := entG_len rh rc t ms (entG rh rc t s m)
    have h1 : (entG rh rc t s m).1.length ≤ s.1.length + 1 := by
      have := addG_len m.1 s.1
      unfold entG
      split
      · exact this
      · split
        · simp only [updG_len]; exact this
        · split
          · simp only [updG_len]; exact this
          · exact this
    simp only [List.foldl_cons, List.length_cons]
    omega
theorem lvG_len (t : Tg) (G : GS) : (lvG t G).length = G.length := by simp [lvG, mapV]
theorem lvG_sz (t : Tg) (G : GS) : szG (lvG t G) ≤ szG G := by
  induction G with
  | nil => simp [szG, lvG, mapV]
  | cons x G ih =>
    have h1 := List.length_filter_le (fun c : Cm => decide (c.1 ≠ t)) x.2.1
    have h2 := List.length_filter_le (fun c : Cm => decide (c.1 ≠ t)) x.2.2
    have e1 : szG (lvG t (x :: G)) = (x.2.1.filter fun c => decide (c.1 ≠ t)).length + (x.2.2.filter fun c => decide (c.1 ≠ t)).length + szG (lvG t G) := rfl
    have e2 : szG (x :: G) = x.2.1.length + x.2.2.length + szG G := rfl
    omega
/-- both, the program's and the document's. -/
structure St where
  rows : List (ByteArray × Rc)
  G : GS
  D : List Tg
  rw : Rws
  l3 : L3
abbrev stR (s l t m : Nat) (x : St) (tl : List SL) : List SL := storeR s 3 x.rows :: locksR l x.G x.D :: refS t 3 x.rw :: refL m x.l3.1 x.l3.2.1 x.l3.2.2 :: tl
/-- behind i steps. -/
structure Inv (i : Nat) (x : St) : Prop where
  rc : ∀ y ∈ x.rows, y.2.cnt ≤ 18446744073709551615
  sz : szG x.G ≤ 20 * i
  gl : x.G.length ≤ 20 * i
  wc : ∀ y ∈ x.rw, y.2.cnt ≤ 18446744073709551615
  wl : x.rw.length ≤ i
  ll : x.l3.1.length + x.l3.2.1.length ≤ 20 * i
  dl : x.l3.2.2.length ≤ 2000 * i
theorem s22 {h : Hp} {rs : List SL} {h0 : Hp} {s l t m i : Nat} {x : St} {o : OpS} (I : Inv i x) (hi : i < 60) (ho : okOp o) (hso : Sr h0 3 o.sl (o.marks.map Mk.c)) (H : Hs h (stR s l t m x (old h0 :: rs))) :
    FnW Tryz.prog 22 #[pt s 0, pt l 0, pt t 0, pt m 0, .agg o.c.toArray] (fun _ h' => ∃ x', Inv (i + 1) x' ∧ Hs h' (stR s l t m x' (old h0 :: rs))) h := by
  obtain ⟨ho1, ho2, ho3⟩ := ho
  obtain ⟨rows, G, D, rw, line, park, doom⟩ := x
  obtain ⟨i1, i2, i3, i4, i5, i6, i7⟩ := I
  simp only [] at i1 i2 i3 i4 i5 i6 i7
  have H : Hs h (storeR s 3 rows :: locksR l G D :: refS t 3 rw :: refL m line park doom :: old h0 :: rs) := H
  refine c22 ?_
  unfold C22
  refine bxB fun y h H => ?_
  repeat (first | with_reducible refine nc_s ?_ | with_reducible refine fa_0 ?_ | with_reducible refine fa_s ?_ | with_reducible refine ldB ?_ | with_reducible refine ldaB ?_ | with_reducible refine ldnB ?_ | with_reducible refine gd_t ?_ | with_reducible refine gd_f (by simp) ?_ | with_reducible refine an_s (ldB rfl) ?_ | with_reducible refine an_s (ldaB rfl) ?_ | with_reducible refine an_s (gd_t (ldaB rfl)) ?_ | with_reducible refine an_s (gd_t (ldB rfl)) ?_ | with_reducible refine an_s (gd_f (by simp) rfl) ?_ | with_reducible refine lnM ?_ | with_reducible refine lnB ?_ | with_reducible refine lnT_s ?_ | with_reducible refine mf_s ?_ | with_reducible refine pk_t ?_ | with_reducible refine pk_f ?_ | with_reducible refine nt_t ?_ | with_reducible refine nt_f ?_ | with_reducible refine cn_t ?_ | with_reducible refine cn_f ?_ | with_reducible refine ex0 ?_ | with_reducible refine ex1 ?_ | with_reducible refine ex2 ?_)
  refine bn_s _ rfl ?_
  intro k5 hk5
  have fin : ∀ h x', Inv (i + 1) x' → Hs h (bk y o.c :: stR s l t m x' (old h0 :: rs)) → k5 h := fun h x' I H => hk5 h fun _ => ⟨x', I, (show Hs h (bk y o.c :: (stR s l t m x' (old h0 :: rs))) from H).drop⟩
  refine cn_eql (fun _ => ?_) fun _ => cn_eql (fun _ => ?_) fun _ => ?_
  · repeat (first | with_reducible refine nc_s ?_ | with_reducible refine fa_0 ?_ | with_reducible refine fa_s ?_ | with_reducible refine ldB ?_ | with_reducible refine ldaB ?_ | with_reducible refine ldnB ?_ | with_reducible refine gd_t ?_ | with_reducible refine gd_f (by simp) ?_ | with_reducible refine an_s (ldB rfl) ?_ | with_reducible refine an_s (ldaB rfl) ?_ | with_reducible refine an_s (gd_t (ldaB rfl)) ?_ | with_reducible refine an_s (gd_t (ldB rfl)) ?_ | with_reducible refine an_s (gd_f (by simp) rfl) ?_ | with_reducible refine lnM ?_ | with_reducible refine lnB ?_ | with_reducible refine lnT_s ?_ | with_reducible refine mf_s ?_ | with_reducible refine pk_t ?_ | with_reducible refine pk_f ?_ | with_reducible refine nt_t ?_ | with_reducible refine nt_f ?_ | with_reducible refine cn_t ?_ | with_reducible refine cn_f ?_ | with_reducible refine ex0 ?_ | with_reducible refine ex1 ?_ | with_reducible refine ex2 ?_)
    refine clB (s25 (m := l) (G := G) (D := D) (t := o.tag) (by omega) H.pl) ?_ b25
    rintro _ h H
    repeat (first | with_reducible refine nc_s ?_ | with_reducible refine fa_0 ?_ | with_reducible refine fa_s ?_ | with_reducible refine ldB ?_ | with_reducible refine ldaB ?_ | with_reducible refine ldnB ?_ | with_reducible refine gd_t ?_ | with_reducible refine gd_f (by simp) ?_ | with_reducible refine an_s (ldB rfl) ?_ | with_reducible refine an_s (ldaB rfl) ?_ | with_reducible refine an_s (gd_t (ldaB rfl)) ?_ | with_reducible refine an_s (gd_t (ldB rfl)) ?_ | with_reducible refine an_s (gd_f (by simp) rfl) ?_ | with_reducible refine lnM ?_ | with_reducible refine lnB ?_ | with_reducible refine lnT_s ?_ | with_reducible refine mf_s ?_ | with_reducible refine pk_t ?_ | with_reducible refine pk_f ?_ | with_reducible refine nt_t ?_ | with_reducible refine nt_f ?_ | with_reducible refine cn_t ?_ | with_reducible refine cn_f ?_ | with_reducible refine ex0 ?_ | with_reducible refine ex1 ?_ | with_reducible refine ex2 ?_)
    refine clB (s103 (m := m) (line := line) (park := park) (doom := doom) (t := o.tag) (by omega) (by omega) (by omega) H.pl) ?_ b103
    rintro _ h H
    refine fin h ⟨rows, lvG o.tag G, D.filter fun c => decide (c ≠ o.tag), rw, line.filter fun c => decide (c.1 ≠ o.tag), park.filter fun c => decide (c.1 ≠ o.tag), doom.filter fun c => decide (c ≠ o.tag)⟩ ?_ H.pl
    have e1 := lvG_sz o.tag G
    have e2 := lvG_len o.tag G
    have e3 := List.length_filter_le (fun c : Cm => decide (c.1 ≠ o.tag)) line
    have e4 := List.length_filter_le (fun c : Cm => decide (c.1 ≠ o.tag)) park
    have e5 := List.length_filter_le (fun c : Tg => decide (c ≠ o.tag)) doom
    exact ⟨i1, by simp only []; omega, by simp only []; omega, i4, by simp only []; omega, by simp only []; omega, by simp only []; omega⟩
  · repeat (first | with_reducible refine nc_s ?_ | with_reducible refine fa_0 ?_ | with_reducible refine fa_s ?_ | with_reducible refine ldB ?_ | with_reducible refine ldaB ?_ | with_reducible refine ldnB ?_ | with_reducible refine gd_t ?_ | with_reducible refine gd_f (by simp) ?_ | with_reducible refine an_s (ldB rfl) ?_ | with_reducible refine an_s (ldaB rfl) ?_ | with_reducible refine an_s (gd_t (ldaB rfl)) ?_ | with_reducible refine an_s (gd_t (ldB rfl)) ?_ | with_reducible refine an_s (gd_f (by simp) rfl) ?_ | with_reducible refine lnM ?_ | with_reducible refine lnB ?_ | with_reducible refine lnT_s ?_ | with_reducible refine mf_s ?_ | with_reducible refine pk_t ?_ | with_reducible refine pk_f ?_ | with_reducible refine nt_t ?_ | with_reducible refine nt_f ?_ | with_reducible refine cn_t ?_ | with_reducible refine cn_f ?_ | with_reducible refine ex0 ?_ | with_reducible refine ex1 ?_ | with_reducible refine ex2 ?_)
    refine clB (s104 (s := s) (reg := 3) (rows := rows) (k := o.key) (home := o.to) (by omega) (by omega) i1 H.pl) ?_ b104
    rintro _ h ⟨rfl, H⟩
    repeat (first | with_reducible refine nc_s ?_ | with_reducible refine fa_0 ?_ | with_reducible refine fa_s ?_ | with_reducible refine ldB ?_ | with_reducible refine ldaB ?_ | with_reducible refine ldnB ?_ | with_reducible refine gd_t ?_ | with_reducible refine gd_f (by simp) ?_ | with_reducible refine an_s (ldB rfl) ?_ | with_reducible refine an_s (ldaB rfl) ?_ | with_reducible refine an_s (gd_t (ldaB rfl)) ?_ | with_reducible refine an_s (gd_t (ldB rfl)) ?_ | with_reducible refine an_s (gd_f (by simp) rfl) ?_ | with_reducible refine lnM ?_ | with_reducible refine lnB ?_ | with_reducible refine lnT_s ?_ | with_reducible refine mf_s ?_ | with_reducible refine pk_t ?_ | with_reducible refine pk_f ?_ | with_reducible refine nt_t ?_ | with_reducible refine nt_f ?_ | with_reducible refine cn_t ?_ | with_reducible refine cn_f ?_ | with_reducible refine ex0 ?_ | with_reducible refine ex1 ?_ | with_reducible refine ex2 ?_)
    obtain ⟨w1, w2⟩ := mvRw_cnt (k := o.key) (home := o.to) (reg := 3) i4
    refine clB (r105 (m := t) (reg := 3) (rows := rw) (k := o.key) (home := o.to) (by omega) (by omega) (by omega) i4 H.pl) ?_ b105
    rintro _ h ⟨rfl, H⟩
    repeat (first | with_reducible refine nc_s ?_ | with_reducible refine fa_0 ?_ | with_reducible refine fa_s ?_ | with_reducible refine ldB ?_ | with_reducible refine ldaB ?_ | with_reducible refine ldnB ?_ | with_reducible refine gd_t ?_ | with_reducible refine gd_f (by simp) ?_ | with_reducible refine an_s (ldB rfl) ?_ | with_reducible refine an_s (ldaB rfl) ?_ | with_reducible refine an_s (gd_t (ldaB rfl)) ?_ | with_reducible refine an_s (gd_t (ldB rfl)) ?_ | with_reducible refine an_s (gd_f (by simp) rfl) ?_ | with_reducible refine lnM ?_ | with_reducible refine lnB ?_ | with_reducible refine lnT_s ?_ | with_reducible refine mf_s ?_ | with_reducible refine pk_t ?_ | with_reducible refine pk_f ?_ | with_reducible refine nt_t ?_ | with_reducible refine nt_f ?_ | with_reducible refine cn_t ?_ | with_reducible refine cn_f ?_ | with_reducible refine ex0 ?_ | with_reducible refine ex1 ?_ | with_reducible refine ex2 ?_)
    refine clB (s106 (m := l) (so := s) (reg := 3) (rows := mvRows o.key o.to 3 rows) (s := (G, D)) (k := o.key) (by omega) (by omega) (by show szG G ≤ 900000; omega) H.pl) ?_ b106
    rintro _ h ⟨⟨m1, m2⟩, H⟩
    generalize movG _ _ o.key (G, D) = GD at m1 m2 H
    simp only [] at m1 m2
    repeat (first | with_reducible refine nc_s ?_ | with_reducible refine fa_0 ?_ | with_reducible refine fa_s ?_ | with_reducible refine ldB ?_ | with_reducible refine ldaB ?_ | with_reducible refine ldnB ?_ | with_reducible refine gd_t ?_ | with_reducible refine gd_f (by simp) ?_ | with_reducible refine an_s (ldB rfl) ?_ | with_reducible refine an_s (ldaB rfl) ?_ | with_reducible refine an_s (gd_t (ldaB rfl)) ?_ | with_reducible refine an_s (gd_t (ldB rfl)) ?_ | with_reducible refine an_s (gd_f (by simp) rfl) ?_ | with_reducible refine lnM ?_ | with_reducible refine lnB ?_ | with_reducible refine lnT_s ?_ | with_reducible refine mf_s ?_ | with_reducible refine pk_t ?_ | with_reducible refine pk_f ?_ | with_reducible refine nt_t ?_ | with_reducible refine nt_f ?_ | with_reducible refine cn_t ?_ | with_reducible refine cn_f ?_ | with_reducible refine ex0 ?_ | with_reducible refine ex1 ?_ | with_reducible refine ex2 ?_)
    refine clB (s107 (m := m) (so := t) (reg := 3) (rows := mvRw o.key o.to 3 rw) (s0 := (line, park, doom)) (k := o.key) (by omega) (by omega) (by omega) (by show line.length + park.length ≤ 400000; omega) (by show doom.length ≤ 400000; omega) H.pl) ?_ b107
    rintro _ h H
    have H := H _ rfl
    have hl3 : ∀ rh rc, (movL rh rc o.key (line, park, doom)).1.length + (movL rh rc o.key (line, park, doom)).2.1.length ≤ line.length + park.length ∧ (movL rh rc o.key (line, park, doom)).2.2.length ≤ doom.length + line.length + park.length := by
      intro rh rc
      have a1 := mov2_len rh rc o.key park (line, [], line.foldl (mov1 rh rc o.key) doom)
      have a2 := mov1_len rh rc o.key line doom
      simp only [List.length_nil] at a1
      unfold movL
      simp only []
      omega
    have hl3 := hl3 (getRw o.key 3 (mvRw o.key o.to 3 rw)).home (getRw o.key 3 (mvRw o.key o.to 3 rw)).cnt
    generalize movL _ _ o.key (line, park, doom) = x3 at hl3 H
    refine fin h ⟨mvRows o.key o.to 3 rows, GD.1, GD.2, mvRw o.key o.to 3 rw, x3⟩ ⟨mvRows_cnt i1, by simp only []; omega, by simp only []; omega, w1, by simp only []; omega, by simp only []; omega, by simp only []; omega⟩ H.pl
  · refine bslB [] fun z h H => ?_
    repeat (first | with_reducible refine nc_s ?_ | with_reducible refine fa_0 ?_ | with_reducible refine fa_s ?_ | with_reducible refine ldB ?_ | with_reducible refine ldaB ?_ | with_reducible refine ldnB ?_ | with_reducible refine gd_t ?_ | with_reducible refine gd_f (by simp) ?_ | with_reducible refine an_s (ldB rfl) ?_ | with_reducible refine an_s (ldaB rfl) ?_ | with_reducible refine an_s (gd_t (ldaB rfl)) ?_ | with_reducible refine an_s (gd_t (ldB rfl)) ?_ | with_reducible refine an_s (gd_f (by simp) rfl) ?_ | with_reducible refine lnM ?_ | with_reducible refine lnB ?_ | with_reducible refine lnT_s ?_ | with_reducible refine mf_s ?_ | with_reducible refine pk_t ?_ | with_reducible refine pk_f ?_ | with_reducible refine nt_t ?_ | with_reducible refine nt_f ?_ | with_reducible refine cn_t ?_ | with_reducible refine cn_f ?_ | with_reducible refine ex0 ?_ | with_reducible refine ex1 ?_ | with_reducible refine ex2 ?_)
    have H : Hs h (vec 3 (sl z 0 0 0) [] :: bk y o.c :: storeR s 3 rows :: locksR l G D :: refS t 3 rw :: refL m line park doom :: old h0 :: rs) := Hs.vec1 (v00 3) H
    have hml : (o.marks.map Mk.c).length ≤ 20 := by rw [List.length_map]; exact ho1
    refine apV (z := [.string ⟨#[]⟩, vi 0, vu 0]) (new := o.marks.map Mk.c) H (by simp [oneC]) (Sr.src (hso.old H.pl)) (by intro e he; obtain ⟨a, _, rfl⟩ := List.mem_map.1 he; rfl) (by intro e he; obtain ⟨a, _, rfl⟩ := List.mem_map.1 he; exact Mk.one a) (by simp only [List.length_nil]; omega) (by simp only [List.length_nil]; omega) fun v33 h H => ?_
    have H : Hs h (vec 3 v33 (o.marks.map Mk.c) :: bk y o.c :: storeR s 3 rows :: locksR l G D :: refS t 3 rw :: refL m line park doom :: old h0 :: rs) := by simpa using H
    repeat (first | with_reducible refine nc_s ?_ | with_reducible refine fa_0 ?_ | with_reducible refine fa_s ?_ | with_reducible refine ldB ?_ | with_reducible refine ldaB ?_ | with_reducible refine ldnB ?_ | with_reducible refine gd_t ?_ | with_reducible refine gd_f (by simp) ?_ | with_reducible refine an_s (ldB rfl) ?_ | with_reducible refine an_s (ldaB rfl) ?_ | with_reducible refine an_s (gd_t (ldaB rfl)) ?_ | with_reducible refine an_s (gd_t (ldB rfl)) ?_ | with_reducible refine an_s (gd_f (by simp) rfl) ?_ | with_reducible refine lnM ?_ | with_reducible refine lnB ?_ | with_reducible refine lnT_s ?_ | with_reducible refine mf_s ?_ | with_reducible refine pk_t ?_ | with_reducible refine pk_f ?_ | with_reducible refine nt_t ?_ | with_reducible refine nt_f ?_ | with_reducible refine cn_t ?_ | with_reducible refine cn_f ?_ | with_reducible refine ex0 ?_ | with_reducible refine ex1 ?_ | with_reducible refine ex2 ?_)
    refine clB (s100 (m := l) (so := s) (reg := 3) (rows := rows) (G := G) (D := D) (t := o.tag) (marks := o.marks) (M := vec 3 v33 (o.marks.map Mk.c)) (by omega) (fun a ha => by have := ho3 a ha; omega) (by omega) (fun h rs H => H.sr) (by omega) H.pl) ?_ b100
    rintro _ h H
    have e3 := entG_len (fun k => (getRc k 3 rows).home) (fun k => (getRc k 3 rows).cnt) o.tag o.marks (G, D)
    obtain ⟨e4, H⟩ := H _ rfl
    generalize o.marks.foldl (entG _ _ o.tag) (G, D) = GD at e3 e4 H
    simp only [] at e3
    repeat (first | with_reducible refine nc_s ?_ | with_reducible refine fa_0 ?_ | with_reducible refine fa_s ?_ | with_reducible refine ldB ?_ | with_reducible refine ldaB ?_ | with_reducible refine ldnB ?_ | with_reducible refine gd_t ?_ | with_reducible refine gd_f (by simp) ?_ | with_reducible refine an_s (ldB rfl) ?_ | with_reducible refine an_s (ldaB rfl) ?_ | with_reducible refine an_s (gd_t (ldaB rfl)) ?_ | with_reducible refine an_s (gd_t (ldB rfl)) ?_ | with_reducible refine an_s (gd_f (by simp) rfl) ?_ | with_reducible refine lnM ?_ | with_reducible refine lnB ?_ | with_reducible refine lnT_s ?_ | with_reducible refine mf_s ?_ | with_reducible refine pk_t ?_ | with_reducible refine pk_f ?_ | with_reducible refine nt_t ?_ | with_reducible refine nt_f ?_ | with_reducible refine cn_t ?_ | with_reducible refine cn_f ?_ | with_reducible refine ex0 ?_ | with_reducible refine ex1 ?_ | with_reducible refine ex2 ?_)
    refine clB (s108 (m := m) (so := t) (reg := 3) (rows := rw) (s0 := (line, park, doom)) (t := o.tag) (marks := o.marks) (M := old h0) (by omega) (by omega) (fun a ha => by have := ho3 a ha; omega) (by omega) (fun h rs H => hso.old H) (by show line.length + park.length ≤ 900000; omega) (by show doom.length ≤ 900000; omega) H.pl) ?_ b108
    rintro _ h H
    have e5 := ents_len (fun k => (getRw k 3 rw).home) (fun k => (getRw k 3 rw).cnt) o.tag o.marks (line, park, doom)
    have H := H _ rfl
    generalize o.marks.foldl (ent1 _ _ o.tag) (line, park, doom) = x3 at e5 H
    simp only [] at e5
    have hI : Inv (i + 1) ⟨rows, GD.1, GD.2, rw, x3⟩ := ⟨i1, by simp only []; omega, by simp only []; omega, i4, by simp only []; omega, by simp only []; omega, by simp only []; omega⟩
    refine lnB ?_
    rw [List.length_map]
    refine lp1 o.marks.length (fun j h => ∃ es : List Mk, es.length = o.marks.length ∧ Hs h (vec 3 v33 (es.map Mk.c) :: bk y o.c :: stR s l t m ⟨rows, GD.1, GD.2, rw, x3⟩ (old h0 :: rs))) ⟨o.marks, rfl, H.pl⟩ ?_
    clear H
    rintro j h σ0 nx hj ⟨es, hes, H⟩ hnx
    refine cn_lss (fun hlt => ?_) fun hge => ?_
    · have hlt : j < es.length := by omega
      refine bdB [.string ⟨#[]⟩, vi 0, vu 0] ?_
      refine stE H (by rw [List.length_map]; exact hlt) (v := [.string ⟨#[]⟩, vi 0, vu 0]) rfl rfl (by simp [oneC]) fun h H => ?_
      refine nx_add j (by omega) (hnx h (by omega) ⟨es.set j (⟨#[]⟩, 0, 0), by simp [hes], ?_⟩)
      rw [List.map_set]; exact H
    · exact fin h _ hI (Hs.drop H)
end Go.Proofs.YtalknmdbamlabaaGreat.Q
