/- The locks: New, gate, Queue, Parked, Doomed. Conditions: none. -/
import Derived.Test.YtalknmdbamlabaaGreatP13
namespace Go.Proofs.YtalknmdbamlabaaGreat.Q
open Go
open SL (bk bkn mp old it exS puS emS stS)
/-- a gate: its block, its slices, its line, its parked ones. -/
structure Gt where
  b : Nat
  sl : Value
  sp : Value
  ln : List Cm
  pk : List Cm
def Gt.R (x : Gt) : SL := sep [bk x.b [x.sl, x.sp], cms x.sl x.ln, cms x.sp x.pk]
abbrev GRow := ByteArray × Gt
def gR (x : GRow) : SL := x.2.R
abbrev gptr (L : List GRow) : List (ByteArray × Value) := mapV (fun x : Gt => pt x.b 0) L
abbrev dmp (D : List Tg) : List (Tg × Value) := D.map fun t => (t, vi 1)
/-- the locks, laid open. -/
abbrev LK (m g d : Nat) (L : List GRow) (D : List Tg) : List SL := [bk m [.map (some g), .map (some d)], mpS g Value.string (gptr L), sep (L.map gR), mpS d tgV (dmp D)]
abbrev GS := List (ByteArray × (List Cm × List Cm))
def gst (L : List GRow) : GS := mapV (fun x : Gt => (x.ln, x.pk)) L
def locksR (m : Nat) (G : GS) (D : List Tg) : SL := exS fun x : Nat × Nat × List GRow => puS (gst x.2.2 = G) (sep (LK m x.1 x.2.1 x.2.2 D))
theorem Hs.locks {h : Hp} {m : Nat} {G : GS} {D : List Tg} {rs : List SL} : Hs h (locksR m G D :: rs) ↔ ∃ g d L, gst L = G ∧ Hs h (bk m [.map (some g), .map (some d)] :: Q.mpS g Value.string (gptr L) :: sep (L.map gR) :: Q.mpS d tgV (dmp D) :: rs) := by
  constructor
  · intro H
    obtain ⟨⟨g, d, L⟩, H⟩ := Hs.ex.1 H
    obtain ⟨h1, H⟩ := Hs.pu.1 H
    exact ⟨g, d, L, h1, Hs.join.1 H⟩
  · rintro ⟨g, d, L, h1, H⟩
    exact Hs.ex.2 ⟨(g, d, L), Hs.pu.2 ⟨h1, Hs.join.2 H⟩⟩
theorem s20 {h : Hp} {rs : List SL} (H : Hs h rs) : FnW Tryz.prog 20 #[] (fun v h' => ∃ m, v = pt m 0 ∧ Hs h' (locksR m [] [] :: rs)) h := by
  refine c20 ?_
  unfold C20
  refine mkS (kc := Value.string) H fun g h H => mkS (kc := tgV) H fun d h H => bd_s [.map (some g), .map (some d)] rfl (bxS H fun m h H => ⟨m, rfl, Hs.locks.2 ⟨g, d, [], rfl, ?_⟩⟩)
  have H : Hs h (emS :: bk m [.map (some g), .map (some d)] :: mpS d tgV [] :: mpS g Value.string [] :: rs) := Hs.em.2 H
  exact H.perm (by
    show List.Perm _ (bk m [.map (some g), .map (some d)] :: mpS g Value.string [] :: emS :: mpS d tgV [] :: rs)
    repeat (first | with_reducible exact List.Perm.refl _ | with_reducible refine pm0 ?_ | with_reducible refine pm1 ?_ | with_reducible refine pm2 ?_ | with_reducible refine pm3 ?_ | with_reducible refine pm4 ?_ | with_reducible refine pm5 ?_ | with_reducible refine pm6 ?_ | with_reducible refine pm7 ?_ | with_reducible refine pm8 ?_ | with_reducible refine pm9 ?_ | with_reducible refine pm10 ?_ | with_reducible refine pm11 ?_ | with_reducible refine pm12 ?_ | with_reducible refine pm13 ?_))
theorem und207 : Tryz.prog.underlying 207 = some (.map 9 221) := by kernel_rfl
theorem und208 : Tryz.prog.underlying 208 = some (.map 27 3) := by kernel_rfl
theorem und221 : Tryz.prog.underlying 221 = some (.pointer 224) := by kernel_rfl
theorem inf221 : ∃ i, Tryz.prog.info? 221 = some i ∧ i.zero = some (.pointer none) := ⟨_, (by kernel_rfl : Tryz.prog.info? 221 = some (Tryz.prog.info? 221).get!), by kernel_rfl⟩
theorem inf3 : ∃ i, Tryz.prog.info? 3 = some i ∧ i.zero = some (vi 0) := ⟨_, (by kernel_rfl : Tryz.prog.info? 3 = some (Tryz.prog.info? 3).get!), by kernel_rfl⟩
theorem mval_gptr (k : ByteArray) (L : List GRow) : mval k (gptr L) = (gval k L).map fun x => pt x.b 0 := by
  unfold mval gval gptr mapV
  rw [List.find?_map]
  have : ((fun x : ByteArray × Value => decide (k = x.1)) ∘ fun x : GRow => (x.1, pt x.2.b 0)) = fun x : GRow => decide (x.1 = k) := by
    funext x; simp [eq_comm]
  rw [this]
  cases L.find? fun x => decide (x.1 = k) <;> rfl
theorem gval_none {α : Type} {k : ByteArray} {l : List (ByteArray × α)} (h : gval k l = none) : ∀ y ∈ l, y.1 ≠ k := by
  unfold gval at h
  cases hf : l.find? (fun x => decide (x.1 = k)) with
  | none => simpa using List.find?_eq_none.1 hf
  | some x => rw [hf] at h; cases h
/-- a gate for a key, a new one where there was none. -/
def addG (k : ByteArray) (G : GS) : GS := if (gval k G).isSome then G else G ++ [(k, ([], []))]
theorem s218 {h : Hp} {rs : List SL} {m : Nat} {G : GS} {D : List Tg} {k : ByteArray} (H : Hs h (locksR m G D :: rs)) :
    FnW Tryz.prog 218 #[pt m 0, .string k] (fun v h' => ∃ g d A x B, v = pt x.b 0 ∧ gst (A ++ (k, x) :: B) = addG k G ∧ (∀ y ∈ A, y.1 ≠ k) ∧
      Hs h' (bk m [.map (some g), .map (some d)] :: mpS g Value.string (gptr (A ++ (k, x) :: B)) :: bk x.b [x.sl, x.sp] :: cms x.sl x.ln :: cms x.sp x.pk :: sep (A.map gR) :: sep (B.map gR) :: mpS d tgV (dmp D) :: rs)) h := by
  obtain ⟨g, d, L, eG, HL⟩ := Hs.locks.1 H
  subst eG
  clear H
  obtain ⟨i221, hi, hz⟩ := inf221
  refine c218 ?_
  unfold C218
  have hgv : gval k (gst L) = (gval k L).map fun x => (x.ln, x.pk) := gval_mapV k _ L
  intro k1 hk1
  have fin : ∀ (h : Hp) (A B : List GRow) (x : Gt), (∀ y ∈ A, y.1 ≠ k) → gst (A ++ (k, x) :: B) = addG k (gst L) →
      Hs h (bk m [.map (some g), .map (some d)] :: mpS g Value.string (gptr (A ++ (k, x) :: B)) :: sep ((A ++ (k, x) :: B).map gR) :: mpS d tgV (dmp D) :: rs) → k1 h := by
    intro h A B x hno hst H
    refine hk1 h fun _ => nc_s (fa_s (ld1S H (.map (some g)) rfl (lookS keyStr und207 hi hz H.p1 ⟨g, d, A, x, B, ?_, hst, hno, ?_⟩)))
    · rw [mval_gptr]
      have : gval k (A ++ (k, x) :: B) = some x := by
        unfold gval
        rw [List.find?_eq_some_iff_append.2 ⟨by simp, A, B, rfl, fun y hy => by simpa using hno y hy⟩]; rfl
      rw [this]; rfl
    · have H := (Hs.perm H (rs' := sep ((A ++ (k, x) :: B).map gR) :: bk m [.map (some g), .map (some d)] :: mpS g Value.string (gptr (A ++ (k, x) :: B)) :: mpS d tgV (dmp D) :: rs) (by repeat (first | with_reducible exact List.Perm.refl _ | with_reducible refine pm0 ?_ | with_reducible refine pm1 ?_ | with_reducible refine pm2 ?_ | with_reducible refine pm3 ?_ | with_reducible refine pm4 ?_ | with_reducible refine pm5 ?_ | with_reducible refine pm6 ?_ | with_reducible refine pm7 ?_ | with_reducible refine pm8 ?_ | with_reducible refine pm9 ?_ | with_reducible refine pm10 ?_ | with_reducible refine pm11 ?_ | with_reducible refine pm12 ?_ | with_reducible refine pm13 ?_)))
      rw [sep_mid] at H
      have H : Hs h (bk x.b [x.sl, x.sp] :: cms x.sl x.ln :: cms x.sp x.pk :: sep (A.map gR) :: sep (B.map gR) :: bk m [.map (some g), .map (some d)] :: mpS g Value.string (gptr (A ++ (k, x) :: B)) :: mpS d tgV (dmp D) :: rs) := Hs.join.1 H
      exact H.perm (by repeat (first | with_reducible exact List.Perm.refl _ | with_reducible refine pm0 ?_ | with_reducible refine pm1 ?_ | with_reducible refine pm2 ?_ | with_reducible refine pm3 ?_ | with_reducible refine pm4 ?_ | with_reducible refine pm5 ?_ | with_reducible refine pm6 ?_ | with_reducible refine pm7 ?_ | with_reducible refine pm8 ?_ | with_reducible refine pm9 ?_ | with_reducible refine pm10 ?_ | with_reducible refine pm11 ?_ | with_reducible refine pm12 ?_ | with_reducible refine pm13 ?_))
  refine nc_s (fa_s (ld1S HL (.map (some g)) rfl (lookS keyStr und207 hi hz HL.p1 ?_)))
  rw [mval_gptr]
  cases hv : gval k L with
  | none =>
    refine beP und221 (cn_t (nc_s (fa_s (ld1S HL (.map (some g)) rfl (bd_s [nilS, nilS] rfl (bxS HL fun b h H => ?_))))))
    have hno := gval_none hv
    refine upS (v := pt b 0) keyStr und207 H.p2 fun h H => fin h L [] ⟨b, nilS, nilS, [], []⟩ hno ?_ ?_
    · unfold addG; rw [hgv, hv]; simp [gst, mapV]
    · have hms : mset k (pt b 0) (gptr L) = gptr (L ++ [(k, ⟨b, nilS, nilS, [], []⟩)]) := by
        have : k ∉ (gptr L).map (·.1) := by
          intro hm
          rw [keys_mapV] at hm
          obtain ⟨x, hx, e⟩ := List.mem_map.1 hm
          exact hno x hx e
        rw [mset, if_neg this]; simp [gptr, mapV]
      rw [hms] at H
      have H : Hs h (mpS g Value.string (gptr (L ++ [(k, ⟨b, nilS, nilS, [], []⟩)])) :: bk b [nilS, nilS] :: bk m [.map (some g), .map (some d)] :: sep (L.map gR) :: mpS d tgV (dmp D) :: rs) := H
      have H : Hs h (vec 7 nilS [] :: vec 7 nilS [] :: mpS g Value.string (gptr (L ++ [(k, ⟨b, nilS, nilS, [], []⟩)])) :: bk b [nilS, nilS] :: bk m [.map (some g), .map (some d)] :: sep (L.map gR) :: mpS d tgV (dmp D) :: rs) := Hs.vec0 (Hs.vec0 H)
      have H := H.perm (rs' := bk b [nilS, nilS] :: vec 7 nilS [] :: vec 7 nilS [] :: sep (L.map gR) :: bk m [.map (some g), .map (some d)] :: mpS g Value.string (gptr (L ++ [(k, ⟨b, nilS, nilS, [], []⟩)])) :: mpS d tgV (dmp D) :: rs) (by repeat (first | with_reducible exact List.Perm.refl _ | with_reducible refine pm0 ?_ | with_reducible refine pm1 ?_ | with_reducible refine pm2 ?_ | with_reducible refine pm3 ?_ | with_reducible refine pm4 ?_ | with_reducible refine pm5 ?_ | with_reducible refine pm6 ?_ | with_reducible refine pm7 ?_ | with_reducible refine pm8 ?_ | with_reducible refine pm9 ?_ | with_reducible refine pm10 ?_ | with_reducible refine pm11 ?_ | with_reducible refine pm12 ?_ | with_reducible refine pm13 ?_))
      have H : Hs h (gR (k, ⟨b, nilS, nilS, [], []⟩) :: sep (L.map gR) :: bk m [.map (some g), .map (some d)] :: mpS g Value.string (gptr (L ++ [(k, ⟨b, nilS, nilS, [], []⟩)])) :: mpS d tgV (dmp D) :: rs) := Hs.join.2 H
      have H : Hs h (gR (k, ⟨b, nilS, nilS, [], []⟩) :: sep (L.map gR) :: sep (([] : List GRow).map gR) :: bk m [.map (some g), .map (some d)] :: mpS g Value.string (gptr (L ++ [(k, ⟨b, nilS, nilS, [], []⟩)])) :: mpS d tgV (dmp D) :: rs) := Hs.p2 (Hs.p2 (Hs.em.2 H))
      have H := sep_mid.2 H
      exact H.perm (by repeat (first | with_reducible exact List.Perm.refl _ | with_reducible refine pm0 ?_ | with_reducible refine pm1 ?_ | with_reducible refine pm2 ?_ | with_reducible refine pm3 ?_ | with_reducible refine pm4 ?_ | with_reducible refine pm5 ?_ | with_reducible refine pm6 ?_ | with_reducible refine pm7 ?_ | with_reducible refine pm8 ?_ | with_reducible refine pm9 ?_ | with_reducible refine pm10 ?_ | with_reducible refine pm11 ?_ | with_reducible refine pm12 ?_ | with_reducible refine pm13 ?_))
  | some x =>
    obtain ⟨A, B, e, hno⟩ := gval_mem hv
    refine beP und221 (cn_f (fin h A B x hno ?_ ?_))
    · rw [← e]; unfold addG; rw [hgv, hv]; rfl
    · rw [← e]; exact HL
theorem s113 {h : Hp} {rs : List SL} {s : Value} {l : List Cm} (hl : l.length ≤ 1000000000) (H : Hs h (cms s l :: rs)) :
    FnW Tryz.prog 113 #[s] (fun v h' => Hs h' (tgs v (l.map (·.1)) :: cms s l :: rs)) h := by
  refine c113 ?_
  unfold C113
  refine lnV H ?_
  rw [List.length_map]
  refine lp2 l.length (fun i o h => Hs h (tgs o ((l.take i).map (·.1)) :: cms s l :: rs)) (Hs.vec0 H) ?_
  rintro i o h σ0 nx hi H hnx
  refine cn_lss (fun hlt => ?_) fun hge => ?_
  · have hlt : i < l.length := by omega
    have hm : i < (l.map Cm.c).length := by rw [List.length_map]; exact hlt
    refine ixV H.p1 i rfl hm fun b hrd => ldnR hrd (by rw [List.getElem_map]; rfl) ?_
    rw [List.getElem_map]
    refine alS H fun y h H => staS H rfl rfl (Cm.one _) fun h H => fa_s (ldnS H (Tg.c l[i].1) (by simp [Cm.len]) rfl ?_)
    refine bslS H (Tg.c l[i].1) (by simp [fill2, rep, Value.cells, Tg.c]) fun z h H => ?_
    have H := H.perm (rs' := tgs o ((l.take i).map (·.1)) :: bk z (Tg.c l[i].1) :: bk y (Cm.c l[i]) :: cms s l :: rs) (by repeat (first | with_reducible exact List.Perm.refl _ | with_reducible refine pm0 ?_ | with_reducible refine pm1 ?_ | with_reducible refine pm2 ?_ | with_reducible refine pm3 ?_ | with_reducible refine pm4 ?_ | with_reducible refine pm5 ?_ | with_reducible refine pm6 ?_ | with_reducible refine pm7 ?_ | with_reducible refine pm8 ?_ | with_reducible refine pm9 ?_ | with_reducible refine pm10 ?_ | with_reducible refine pm11 ?_ | with_reducible refine pm12 ?_ | with_reducible refine pm13 ?_))
    refine ap1 [vi 0, vu 0, vu 0, vi 0] H rfl (by simp [oneC]) rfl (Tg.one _) (by simp only [List.length_map, List.length_take]; omega) (by simp only [List.length_map, List.length_take]; omega) fun s' h H => nx_add i (by omega) (hnx s' h hlt ?_)
    rw [List.take_succ_eq_append_getElem hlt, List.map_append]
    unfold tgs
    rw [List.map_append]
    exact H.p1.drop
  · have : i = l.length := by omega
    subst this
    rw [List.take_length] at H
    exact H
theorem lenG {h : Hp} {m : Nat} {G : GS} {D : List Tg} {rs : List SL} (_ : Hs h (locksR m G D :: rs)) : True := trivial
/-- how many claims there are. -/
def szG (G : GS) : Nat := (G.map fun x => x.2.1.length + x.2.2.length).sum
theorem szG_mem {G : GS} {x : ByteArray × (List Cm × List Cm)} (hx : x ∈ G) : x.2.1.length + x.2.2.length ≤ szG G := by
  unfold szG
  induction G with
  | nil => cases hx
  | cons y G ih =>
    simp only [List.map_cons, List.sum_cons]
    rcases List.mem_cons.1 hx with rfl | hx
    · omega
    · have := ih hx; omega
def lineOf (k : ByteArray) (G : GS) : List Cm := ((gval k G).map (·.1)).getD []
def parkOf (k : ByteArray) (G : GS) : List Cm := ((gval k G).map (·.2)).getD []
/-- a gate taken out of the others. -/
theorem gate_open {h : Hp} {m g d : Nat} {A B : List GRow} {k : ByteArray} {x : Gt} {D : List Tg} {rs : List SL} :
    Hs h (bk m [.map (some g), .map (some d)] :: mpS g Value.string (gptr (A ++ (k, x) :: B)) :: sep ((A ++ (k, x) :: B).map gR) :: mpS d tgV (dmp D) :: rs) ↔
    Hs h (bk x.b [x.sl, x.sp] :: cms x.sl x.ln :: cms x.sp x.pk :: sep (A.map gR) :: sep (B.map gR) :: bk m [.map (some g), .map (some d)] :: mpS g Value.string (gptr (A ++ (k, x) :: B)) :: mpS d tgV (dmp D) :: rs) := by
  constructor
  · intro H
    have H := (Hs.perm H (rs' := sep ((A ++ (k, x) :: B).map gR) :: bk m [.map (some g), .map (some d)] :: mpS g Value.string (gptr (A ++ (k, x) :: B)) :: mpS d tgV (dmp D) :: rs) (by repeat (first | with_reducible exact List.Perm.refl _ | with_reducible refine pm0 ?_ | with_reducible refine pm1 ?_ | with_reducible refine pm2 ?_ | with_reducible refine pm3 ?_ | with_reducible refine pm4 ?_ | with_reducible refine pm5 ?_ | with_reducible refine pm6 ?_ | with_reducible refine pm7 ?_ | with_reducible refine pm8 ?_ | with_reducible refine pm9 ?_ | with_reducible refine pm10 ?_ | with_reducible refine pm11 ?_ | with_reducible refine pm12 ?_ | with_reducible refine pm13 ?_)))
    rw [sep_mid] at H
    exact Hs.join.1 H
  · intro H
    have H : Hs h (gR (k, x) :: sep (A.map gR) :: sep (B.map gR) :: bk m [.map (some g), .map (some d)] :: mpS g Value.string (gptr (A ++ (k, x) :: B)) :: mpS d tgV (dmp D) :: rs) := Hs.join.2 H
    exact (sep_mid.2 H).perm (by repeat (first | with_reducible exact List.Perm.refl _ | with_reducible refine pm0 ?_ | with_reducible refine pm1 ?_ | with_reducible refine pm2 ?_ | with_reducible refine pm3 ?_ | with_reducible refine pm4 ?_ | with_reducible refine pm5 ?_ | with_reducible refine pm6 ?_ | with_reducible refine pm7 ?_ | with_reducible refine pm8 ?_ | with_reducible refine pm9 ?_ | with_reducible refine pm10 ?_ | with_reducible refine pm11 ?_ | with_reducible refine pm12 ?_ | with_reducible refine pm13 ?_))
theorem s24 {h : Hp} {rs : List SL} {m : Nat} {G : GS} {D : List Tg} {k : ByteArray} (hsz : szG G ≤ 1000000000) (H : Hs h (locksR m G D :: rs)) :
    FnW Tryz.prog 24 #[pt m 0, .string k] (fun v h' => Hs h' (tgs v ((lineOf k G).map (·.1)) :: locksR m G D :: rs)) h := by
  obtain ⟨g, d, L, eG, HL⟩ := Hs.locks.1 H
  obtain ⟨i221, hi, hz⟩ := inf221
  refine c24 ?_
  unfold C24
  have hgv : gval k G = (gval k L).map fun x => (x.ln, x.pk) := by rw [← eG]; exact gval_mapV k _ L
  refine nc_s (fa_s (ld1S HL (.map (some g)) rfl (lookS keyStr und207 hi hz HL.p1 ?_)))
  rw [mval_gptr]
  cases hv : gval k L with
  | none =>
    refine beP und221 (cn_f ?_)
    have : lineOf k G = [] := by unfold lineOf; rw [hgv, hv]; rfl
    rw [this]
    exact H.vec0
  | some x =>
    obtain ⟨A, B, e, hno⟩ := gval_mem hv
    have hl : lineOf k G = x.ln := by unfold lineOf; rw [hgv, hv]; rfl
    have hx : (k, (x.ln, x.pk)) ∈ G := by rw [← eG, e]; simp [gst, mapV]
    have hlen := szG_mem hx
    refine beP und221 (cn_t ?_)
    rw [e] at HL
    have H := gate_open.1 HL
    refine nc_s (fa_s (ld1S H x.sl rfl (cl_s b113 (s113 (l := x.ln) (by simp only [] at hlen; omega) H.p1) fun v h H => ?_)))
    rw [hl]
    have H := H.perm (rs' := bk x.b [x.sl, x.sp] :: cms x.sl x.ln :: cms x.sp x.pk :: sep (A.map gR) :: sep (B.map gR) :: bk m [.map (some g), .map (some d)] :: mpS g Value.string (gptr (A ++ (k, x) :: B)) :: mpS d tgV (dmp D) :: tgs v (x.ln.map (·.1)) :: rs) (by repeat (first | with_reducible exact List.Perm.refl _ | with_reducible refine pm0 ?_ | with_reducible refine pm1 ?_ | with_reducible refine pm2 ?_ | with_reducible refine pm3 ?_ | with_reducible refine pm4 ?_ | with_reducible refine pm5 ?_ | with_reducible refine pm6 ?_ | with_reducible refine pm7 ?_ | with_reducible refine pm8 ?_ | with_reducible refine pm9 ?_ | with_reducible refine pm10 ?_ | with_reducible refine pm11 ?_ | with_reducible refine pm12 ?_ | with_reducible refine pm13 ?_))
    exact (Hs.locks.2 ⟨g, d, A ++ (k, x) :: B, by rw [← e]; exact eG, gate_open.2 H⟩).p1
theorem s31 {h : Hp} {rs : List SL} {m : Nat} {G : GS} {D : List Tg} {k : ByteArray} (hsz : szG G ≤ 1000000000) (H : Hs h (locksR m G D :: rs)) :
    FnW Tryz.prog 31 #[pt m 0, .string k] (fun v h' => Hs h' (tgs v ((parkOf k G).map (·.1)) :: locksR m G D :: rs)) h := by
  obtain ⟨g, d, L, eG, HL⟩ := Hs.locks.1 H
  obtain ⟨i221, hi, hz⟩ := inf221
  refine c31 ?_
  unfold C31
  have hgv : gval k G = (gval k L).map fun x => (x.ln, x.pk) := by rw [← eG]; exact gval_mapV k _ L
  refine nc_s (fa_s (ld1S HL (.map (some g)) rfl (lookS keyStr und207 hi hz HL.p1 ?_)))
  rw [mval_gptr]
  cases hv : gval k L with
  | none =>
    refine beP und221 (cn_f ?_)
    have : parkOf k G = [] := by unfold parkOf; rw [hgv, hv]; rfl
    rw [this]
    exact H.vec0
  | some x =>
    obtain ⟨A, B, e, hno⟩ := gval_mem hv
    have hl : parkOf k G = x.pk := by unfold parkOf; rw [hgv, hv]; rfl
    have hx : (k, (x.ln, x.pk)) ∈ G := by rw [← eG, e]; simp [gst, mapV]
    have hlen := szG_mem hx
    refine beP und221 (cn_t ?_)
    rw [e] at HL
    have H := gate_open.1 HL
    refine nc_s (fa_s (ld1S H x.sp rfl (cl_s b113 (s113 (l := x.pk) (by simp only [] at hlen; omega) H.p2) fun v h H => ?_)))
    rw [hl]
    have H := H.perm (rs' := bk x.b [x.sl, x.sp] :: cms x.sl x.ln :: cms x.sp x.pk :: sep (A.map gR) :: sep (B.map gR) :: bk m [.map (some g), .map (some d)] :: mpS g Value.string (gptr (A ++ (k, x) :: B)) :: mpS d tgV (dmp D) :: tgs v (x.pk.map (·.1)) :: rs) (by repeat (first | with_reducible exact List.Perm.refl _ | with_reducible refine pm0 ?_ | with_reducible refine pm1 ?_ | with_reducible refine pm2 ?_ | with_reducible refine pm3 ?_ | with_reducible refine pm4 ?_ | with_reducible refine pm5 ?_ | with_reducible refine pm6 ?_ | with_reducible refine pm7 ?_ | with_reducible refine pm8 ?_ | with_reducible refine pm9 ?_ | with_reducible refine pm10 ?_ | with_reducible refine pm11 ?_ | with_reducible refine pm12 ?_ | with_reducible refine pm13 ?_))
    exact (Hs.locks.2 ⟨g, d, A ++ (k, x) :: B, by rw [← e]; exact eG, gate_open.2 H⟩).p1
theorem mval_dmp (t : Tg) : ∀ D : List Tg, (mval t (dmp D)).getD (vi 0) = if t ∈ D then vi 1 else vi 0
  | [] => rfl
  | x :: D => by
    have ih := mval_dmp t D
    unfold mval dmp at *
    simp only [List.map_cons, List.find?_cons]
    by_cases h : t = x
    · subst h; simp
    · rw [decide_eq_false h]
      simp only [List.mem_cons, h, false_or]
      exact ih
theorem s27 {h : Hp} {rs : List SL} {m : Nat} {G : GS} {D : List Tg} {t : Tg} (H : Hs h (locksR m G D :: rs)) :
    FnW Tryz.prog 27 #[pt m 0, .agg (Tg.c t).toArray] (fun v h' => v = .bool (decide (t ∈ D)) ∧ Hs h' (locksR m G D :: rs)) h := by
  obtain ⟨g, d, L, eG, HL⟩ := Hs.locks.1 H
  obtain ⟨i3, hi, hz⟩ := inf3
  refine c27 ?_
  unfold C27
  refine bxS HL fun x h H => ?_
  have H : Hs h (bk x (Tg.c t) :: bk m [.map (some g), .map (some d)] :: mpS g Value.string (gptr L) :: sep (L.map gR) :: mpS d tgV (dmp D) :: rs) := by simpa [Value.cells] using H
  refine nc_s (fa_s (ld1S H.p1 (.map (some d)) rfl (ldaS H rfl (lookS (kc := tgV) (k := t) keyTag und208 hi hz H.p4 ?_))))
  rw [mval_dmp]
  have fin := Hs.locks.2 ⟨g, d, L, eG, H.drop⟩
  by_cases ht : t ∈ D
  · rw [if_pos ht]
    exact bn_s (.bool true) rfl ⟨by rw [decide_eq_true ht], fin⟩
  · rw [if_neg ht]
    exact bn_s (.bool false) rfl ⟨by rw [decide_eq_false ht], fin⟩
end Go.Proofs.YtalknmdbamlabaaGreat.Q
