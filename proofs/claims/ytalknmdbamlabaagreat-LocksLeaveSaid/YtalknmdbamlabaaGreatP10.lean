/- The reference's locks: Enter, Moved. Conditions: none. -/
import Derived.Test.YtalknmdbamlabaaGreatP9
namespace Go.Proofs.YtalknmdbamlabaaGreat.Q
open Go
open SL (bk bkn mp old exS puS emS stS)
/-- a slice that may be read now. -/
def Sr (h : Hp) (z : Nat) (s : Value) (es : List (List Value)) : Prop :=
  ∃ a n c, s = .slice a n c ∧ n = es.length ∧ (∀ e ∈ es, e.length = z) ∧ (∀ e ∈ es, ∀ u ∈ e, oneC u = true) ∧ ∀ i (hi : i < es.length), ∃ b o, a = some ⟨b, o, none⟩ ∧ Rd h b (o + i * z) es[i]
theorem Hs.sr {h : Hp} {z : Nat} {s : Value} {es : List (List Value)} {rs : List SL} (H : Hs h (Q.vec z s es :: rs)) : Sr h z s es := by
  rcases H.vec with ⟨rfl, rfl, _⟩ | ⟨b, c, tl, rfl, hv, H0⟩
  · exact ⟨none, 0, 0, rfl, rfl, by simp, by simp, fun i hi => by simp at hi⟩
  · refine ⟨_, _, _, rfl, rfl, hv.lens, hv.ones, fun i hi => ?_⟩
    obtain ⟨b', c', e, hr⟩ := H.vecRd hi
    cases e
    exact ⟨b, 0, rfl, by rwa [Nat.zero_add]⟩
theorem Rd.lt {h : Hp} {b o : Nat} {vs : List Value} (H : Rd h b o vs) : b < h.size := by obtain ⟨cs, h1, _⟩ := H; exact h1.lt
theorem Rd.old {h h0 : Hp} {b o : Nat} {vs : List Value} {rs : List SL} (R : Rd h0 b o vs) (H : Hs h (SL.old h0 :: rs)) : Rd h b o vs := by
  obtain ⟨cs, h1, h2, h3⟩ := R; exact ⟨cs, H.oldR h1, h2, h3⟩
theorem Sr.old {h h0 : Hp} {z : Nat} {s : Value} {es : List (List Value)} {rs : List SL} (S : Sr h0 z s es) (H : Hs h (SL.old h0 :: rs)) : Sr h z s es := by
  obtain ⟨a, n, c, h1, h2, h3, h4, h5⟩ := S
  refine ⟨a, n, c, h1, h2, h3, h4, fun i hi => ?_⟩
  obtain ⟨b, o, e, hr⟩ := h5 i hi
  exact ⟨b, o, e, hr.old H⟩
section
variable {h : Hp} {K : Value → A}
theorem lnR {z : Nat} {s : Value} {es : List (List Value)} (S : Sr h z s es) (k : K (vi es.length) h) : lnS s K h := by
  obtain ⟨a, n, c, rfl, rfl, _⟩ := S; exact lnS_s k
theorem ixR {z : Nat} {s : Value} {es : List (List Value)} {kd : IntKind} (S : Sr h z s es) (i : Nat) (hi : i < es.length) (k : ∀ b o, Rd h b o es[i] → K (pt b o) h) : ixs z s (.int kd i) K h := by
  obtain ⟨a, n, c, rfl, rfl, h3, h4, h5⟩ := S
  obtain ⟨b, o, rfl, hr⟩ := h5 i hi
  refine ixs_s (by omega) (by omega) ?_
  simpa using k b _ hr
end
/-- the three lists. -/
abbrev L3 := List Cm × List Cm × List Tg
def hasC (l : List Cm) (k : ByteArray) (t : Tg) : Bool := l.any fun c => decide (c.2.1 = k ∧ c.1 = t)
def ent1 (rh rc : ByteArray → Int) (t : Tg) (s : L3) (m : Mk) : L3 :=
  if hasC s.1 m.1 t || hasC s.2.1 m.1 t then s
  else if lk (rh m.1) (rc m.1) m = 0 then (s.1 ++ [(t, m)], s.2.1, s.2.2)
  else if lk (rh m.1) (rc m.1) m = 1 then (s.1, s.2.1 ++ [(t, m)], s.2.2)
  else (s.1, s.2.1, dm t s.2.2)
theorem dm_len (t : Tg) (l : List Tg) : (dm t l).length ≤ l.length + 1 := by unfold dm; split <;> simp
theorem ent1_len (rh rc : ByteArray → Int) (t : Tg) (s : L3) (m : Mk) : (ent1 rh rc t s m).1.length + (ent1 rh rc t s m).2.1.length ≤ s.1.length + s.2.1.length + 1 ∧ (ent1 rh rc t s m).2.2.length ≤ s.2.2.length + 1 := by
  have := dm_len t s.2.2
  unfold ent1
  split
  · omega
  · split
    · simp; omega
    · split
      · simp; omega
      · simp; omega
theorem ents_len (rh rc : ByteArray → Int) (t : Tg) : ∀ (ms : List Mk) (s : L3), (ms.foldl (ent1 rh rc t) s).1.length + (ms.foldl (ent1 rh rc t) s).2.1.length ≤ s.1.length + s.2.1.length + ms.length ∧ (ms.foldl (ent1 rh rc t) s).2.2.length ≤ s.2.2.length + ms.length
  | [], s => by simp
  | m :: ms, s => by
    have h1 := ent1_len rh rc t s m
    have h2 := ents_len rh rc t ms (ent1 rh rc t s m)
    simp only [List.foldl_cons, List.length_cons]
    omega
def refS (m : Nat) (reg : Int) (rows : Rws) : SL := exS fun s : Value => puS (Rise (rows.map (·.1)) ∧ ∀ x ∈ rows, oneC x.2.sl = true) (sep [bk m [vi reg, s], rws s rows])
theorem Hs.refS {h : Hp} {m : Nat} {reg : Int} {rows : Rws} {rs : List SL} : Hs h (Q.refS m reg rows :: rs) ↔ ∃ s, Rise (rows.map (·.1)) ∧ (∀ x ∈ rows, oneC x.2.sl = true) ∧ Hs h (bk m [vi reg, s] :: rws s rows :: rs) := by
  constructor
  · intro H
    obtain ⟨s, H⟩ := Hs.ex.1 H
    obtain ⟨⟨h1, h2⟩, H⟩ := Hs.pu.1 H
    exact ⟨s, h1, h2, Hs.join.1 H⟩
  · rintro ⟨s, h1, h2, H⟩
    exact Hs.ex.2 ⟨s, Hs.pu.2 ⟨⟨h1, h2⟩, Hs.join.2 H⟩⟩
theorem r83 {h : Hp} {rs : List SL} {m : Nat} {reg : Int} {rows : Rws} {k : ByteArray} (hr : reg ≤ 1000) (hk : k.size ≤ 1000000000) (hl : rows.length ≤ 1000000000) (H : Hs h (refS m reg rows :: rs)) :
    FnW Tryz.prog 83 #[pt m 0, .string k] (fun v h' => v = .agg (getRw k reg rows).c.toArray ∧ Hs h' (refS m reg rows :: rs)) h := by
  obtain ⟨s, h1, h2, H⟩ := Hs.refS.1 H
  exact (s83 hr hk hl h2 H).mono fun v h' ⟨e, H'⟩ => ⟨e, Hs.refS.2 ⟨s, h1, h2, H'⟩⟩
abbrev zc7 : List Value := [vi 0, vu 0, vu 0, vi 0, .string ⟨#[]⟩, vi 0, vu 0]
theorem zc7_1 : ∀ u ∈ zc7, oneC u = true := by simp [oneC]
def G108 (l_a0 s_a1 tag_1 m_9 : Value) (k6 : Cur 0) : A :=
 fa m_9 0 fun v26 =>
   ld1 v26 fun v27 =>
   ldn 3 m_9 fun v28 =>
   cl Tryz.prog 83 [s_a1, v27] fun v29 =>
   an2 (ldn 3 m_9 (fun u _ => u = v28)) <|
   cl Tryz.prog 223 [v29, v28] fun v30 =>
   bn .eql v30 (Value.int IntKind.i64 0) fun v31 =>
   cn v31
   (nc l_a0 fun v32 =>
    fa v32 0 fun v33 =>
    ld1 v33 fun v34 =>
    ldn 4 tag_1 fun v35 =>
    ldn 3 m_9 fun v36 =>
    bd [Value.int IntKind.i64 0, Value.int IntKind.u64 0, Value.int IntKind.u64 0, Value.int IntKind.i64 0, Value.string { data := #[] }, Value.int IntKind.i64 0, Value.int IntKind.u64 0] [(0, 4, v35), (4, 3, v36)] fun v37 =>
    an2 (bsl [Value.int IntKind.i64 0, Value.int IntKind.u64 0, Value.int IntKind.u64 0, Value.int IntKind.i64 0, Value.string { data := #[] }, Value.int IntKind.i64 0, Value.int IntKind.u64 0] 408 0 [] fun v38 =>
    an2 (ld1 v33 (fun u _ => u = v34)) <|
    an2 (ldn 4 tag_1 (fun u _ => u = v35)) <|
    an2 (ldn 3 m_9 (fun u _ => u = v36)) <|
    an2 (apd [Value.int IntKind.i64 0, Value.int IntKind.u64 0, Value.int IntKind.u64 0, Value.int IntKind.i64 0, Value.string { data := #[] }, Value.int IntKind.i64 0, Value.int IntKind.u64 0] 64 408 v38 v34 fun v39 =>
    an2 (ldn 4 tag_1 (fun u _ => u = v35)) <|
    an2 (ldn 3 m_9 (fun u _ => u = v36)) <|
    bsl [Value.int IntKind.i64 0, Value.int IntKind.u64 0, Value.int IntKind.u64 0, Value.int IntKind.i64 0, Value.string { data := #[] }, Value.int IntKind.i64 0, Value.int IntKind.u64 0] 408 1 [(0, 7, v37)] fun v40 =>
    an2 (ld1 v33 (fun u _ => u = v34)) <|
    apd [Value.int IntKind.i64 0, Value.int IntKind.u64 0, Value.int IntKind.u64 0, Value.int IntKind.i64 0, Value.string { data := #[] }, Value.int IntKind.i64 0, Value.int IntKind.u64 0] 64 408 v39 v40 fun v41 =>
    nc l_a0 fun v42 =>
    fa v42 0 fun v43 =>
    st 1 v43 v41 <|
    k6) (bsl [Value.int IntKind.i64 0, Value.int IntKind.u64 0, Value.int IntKind.u64 0, Value.int IntKind.i64 0, Value.string { data := #[] }, Value.int IntKind.i64 0, Value.int IntKind.u64 0] 408 1 [(0, 7, v37)] fun v44 =>
    an2 (ld1 v33 (fun u _ => u = v34)) <|
    apd [Value.int IntKind.i64 0, Value.int IntKind.u64 0, Value.int IntKind.u64 0, Value.int IntKind.i64 0, Value.string { data := #[] }, Value.int IntKind.i64 0, Value.int IntKind.u64 0] 64 408 v38 v34 fun v45 =>
    an2 (ldn 4 tag_1 (fun u _ => u = v35)) <|
    an2 (ldn 3 m_9 (fun u _ => u = v36)) <|
    apd [Value.int IntKind.i64 0, Value.int IntKind.u64 0, Value.int IntKind.u64 0, Value.int IntKind.i64 0, Value.string { data := #[] }, Value.int IntKind.i64 0, Value.int IntKind.u64 0] 64 408 v45 v44 fun v46 =>
    nc l_a0 fun v47 =>
    fa v47 0 fun v48 =>
    st 1 v48 v46 <|
    k6)) (bsl [Value.int IntKind.i64 0, Value.int IntKind.u64 0, Value.int IntKind.u64 0, Value.int IntKind.i64 0, Value.string { data := #[] }, Value.int IntKind.i64 0, Value.int IntKind.u64 0] 408 1 [(0, 7, v37)] fun v49 =>
    an2 (ld1 v33 (fun u _ => u = v34)) <|
    bsl [Value.int IntKind.i64 0, Value.int IntKind.u64 0, Value.int IntKind.u64 0, Value.int IntKind.i64 0, Value.string { data := #[] }, Value.int IntKind.i64 0, Value.int IntKind.u64 0] 408 0 [] fun v50 =>
    an2 (ld1 v33 (fun u _ => u = v34)) <|
    an2 (ldn 4 tag_1 (fun u _ => u = v35)) <|
    an2 (ldn 3 m_9 (fun u _ => u = v36)) <|
    apd [Value.int IntKind.i64 0, Value.int IntKind.u64 0, Value.int IntKind.u64 0, Value.int IntKind.i64 0, Value.string { data := #[] }, Value.int IntKind.i64 0, Value.int IntKind.u64 0] 64 408 v50 v34 fun v51 =>
    an2 (ldn 4 tag_1 (fun u _ => u = v35)) <|
    an2 (ldn 3 m_9 (fun u _ => u = v36)) <|
    apd [Value.int IntKind.i64 0, Value.int IntKind.u64 0, Value.int IntKind.u64 0, Value.int IntKind.i64 0, Value.string { data := #[] }, Value.int IntKind.i64 0, Value.int IntKind.u64 0] 64 408 v51 v49 fun v52 =>
    nc l_a0 fun v53 =>
    fa v53 0 fun v54 =>
    st 1 v54 v52 <|
    k6))
   (bn .eql v30 (Value.int IntKind.i64 1) fun v55 =>
    cn v55
    (nc l_a0 fun v56 =>
     fa v56 1 fun v57 =>
     ld1 v57 fun v58 =>
     ldn 4 tag_1 fun v59 =>
     ldn 3 m_9 fun v60 =>
     bd [Value.int IntKind.i64 0, Value.int IntKind.u64 0, Value.int IntKind.u64 0, Value.int IntKind.i64 0, Value.string { data := #[] }, Value.int IntKind.i64 0, Value.int IntKind.u64 0] [(0, 4, v59), (4, 3, v60)] fun v61 =>
     an2 (bsl [Value.int IntKind.i64 0, Value.int IntKind.u64 0, Value.int IntKind.u64 0, Value.int IntKind.i64 0, Value.string { data := #[] }, Value.int IntKind.i64 0, Value.int IntKind.u64 0] 408 0 [] fun v62 =>
     an2 (ld1 v57 (fun u _ => u = v58)) <|
     an2 (ldn 4 tag_1 (fun u _ => u = v59)) <|
     an2 (ldn 3 m_9 (fun u _ => u = v60)) <|
     an2 (apd [Value.int IntKind.i64 0, Value.int IntKind.u64 0, Value.int IntKind.u64 0, Value.int IntKind.i64 0, Value.string { data := #[] }, Value.int IntKind.i64 0, Value.int IntKind.u64 0] 64 408 v62 v58 fun v63 =>
     an2 (ldn 4 tag_1 (fun u _ => u = v59)) <|
     an2 (ldn 3 m_9 (fun u _ => u = v60)) <|
     bsl [Value.int IntKind.i64 0, Value.int IntKind.u64 0, Value.int IntKind.u64 0, Value.int IntKind.i64 0, Value.string { data := #[] }, Value.int IntKind.i64 0, Value.int IntKind.u64 0] 408 1 [(0, 7, v61)] fun v64 =>
     an2 (ld1 v57 (fun u _ => u = v58)) <|
     apd [Value.int IntKind.i64 0, Value.int IntKind.u64 0, Value.int IntKind.u64 0, Value.int IntKind.i64 0, Value.string { data := #[] }, Value.int IntKind.i64 0, Value.int IntKind.u64 0] 64 408 v63 v64 fun v65 =>
     nc l_a0 fun v66 =>
     fa v66 1 fun v67 =>
     st 1 v67 v65 <|
     k6) (bsl [Value.int IntKind.i64 0, Value.int IntKind.u64 0, Value.int IntKind.u64 0, Value.int IntKind.i64 0, Value.string { data := #[] }, Value.int IntKind.i64 0, Value.int IntKind.u64 0] 408 1 [(0, 7, v61)] fun v68 =>
     an2 (ld1 v57 (fun u _ => u = v58)) <|
     apd [Value.int IntKind.i64 0, Value.int IntKind.u64 0, Value.int IntKind.u64 0, Value.int IntKind.i64 0, Value.string { data := #[] }, Value.int IntKind.i64 0, Value.int IntKind.u64 0] 64 408 v62 v58 fun v69 =>
     an2 (ldn 4 tag_1 (fun u _ => u = v59)) <|
     an2 (ldn 3 m_9 (fun u _ => u = v60)) <|
     apd [Value.int IntKind.i64 0, Value.int IntKind.u64 0, Value.int IntKind.u64 0, Value.int IntKind.i64 0, Value.string { data := #[] }, Value.int IntKind.i64 0, Value.int IntKind.u64 0] 64 408 v69 v68 fun v70 =>
     nc l_a0 fun v71 =>
     fa v71 1 fun v72 =>
     st 1 v72 v70 <|
     k6)) (bsl [Value.int IntKind.i64 0, Value.int IntKind.u64 0, Value.int IntKind.u64 0, Value.int IntKind.i64 0, Value.string { data := #[] }, Value.int IntKind.i64 0, Value.int IntKind.u64 0] 408 1 [(0, 7, v61)] fun v73 =>
     an2 (ld1 v57 (fun u _ => u = v58)) <|
     bsl [Value.int IntKind.i64 0, Value.int IntKind.u64 0, Value.int IntKind.u64 0, Value.int IntKind.i64 0, Value.string { data := #[] }, Value.int IntKind.i64 0, Value.int IntKind.u64 0] 408 0 [] fun v74 =>
     an2 (ld1 v57 (fun u _ => u = v58)) <|
     an2 (ldn 4 tag_1 (fun u _ => u = v59)) <|
     an2 (ldn 3 m_9 (fun u _ => u = v60)) <|
     apd [Value.int IntKind.i64 0, Value.int IntKind.u64 0, Value.int IntKind.u64 0, Value.int IntKind.i64 0, Value.string { data := #[] }, Value.int IntKind.i64 0, Value.int IntKind.u64 0] 64 408 v74 v58 fun v75 =>
     an2 (ldn 4 tag_1 (fun u _ => u = v59)) <|
     an2 (ldn 3 m_9 (fun u _ => u = v60)) <|
     apd [Value.int IntKind.i64 0, Value.int IntKind.u64 0, Value.int IntKind.u64 0, Value.int IntKind.i64 0, Value.string { data := #[] }, Value.int IntKind.i64 0, Value.int IntKind.u64 0] 64 408 v75 v73 fun v76 =>
     nc l_a0 fun v77 =>
     fa v77 1 fun v78 =>
     st 1 v78 v76 <|
     k6))
    (ldn 4 tag_1 fun v79 =>
     cl Tryz.prog 224 [l_a0, v79] fun v80 =>
     k6))
theorem s108 {h : Hp} {rs : List SL} {m so : Nat} {reg : Int} {rows : Rws} {s0 : L3} {t : Tg} {ms : Value} {marks : List Mk} {M : SL} (hr : reg ≤ 1000) (hrl : rows.length ≤ 1000000) (hms : ∀ x ∈ marks, x.1.size ≤ 1000000000) (hml : marks.length ≤ 1000)
    (hM : ∀ h rs, Hs h (M :: rs) → Sr h 3 ms (marks.map Mk.c)) (h1 : s0.1.length + s0.2.1.length ≤ 900000) (h2 : s0.2.2.length ≤ 900000) (H : Hs h (refL m s0.1 s0.2.1 s0.2.2 :: refS so reg rows :: M :: rs)) :
    FnW Tryz.prog 108 #[pt m 0, pt so 0, .agg (Tg.c t).toArray, ms] (fun v h' => ∀ s1, s1 = marks.foldl (ent1 (fun k => (getRw k reg rows).home) (fun k => (getRw k reg rows).cnt) t) s0 → Hs h' (refL m s1.1 s1.2.1 s1.2.2 :: refS so reg rows :: M :: rs)) h := by
  refine c108 ?_
  unfold C108
  generalize hrh : (fun k => (getRw k reg rows).home) = rh
  generalize hrc : (fun k => ((getRw k reg rows).cnt : Int)) = rc
  refine bxS H fun x h H => ?_
  have H : Hs h (bk x (Tg.c t) :: refL m s0.1 s0.2.1 s0.2.2 :: refS so reg rows :: M :: rs) := by simpa [Value.cells] using H
  refine lp1 marks.length (fun i h => ∀ s1, s1 = (marks.take i).foldl (ent1 rh rc t) s0 → Hs h (bk x (Tg.c t) :: refL m s1.1 s1.2.1 s1.2.2 :: refS so reg rows :: M :: rs)) (by rintro s1 rfl; exact H) ?_
  rintro i h σ0 nx hi H hnx
  replace H := H _ rfl
  have hlen := ents_len rh rc t (marks.take i) s0
  rw [List.length_take] at hlen
  generalize hs1 : (marks.take i).foldl (ent1 rh rc t) s0 = s1 at H hlen
  have hS := fun h rs H => hM h rs H
  refine lnR (hS h _ H.p3) ?_
  rw [List.length_map]
  refine cn_lss (fun hlt => ?_) fun hge => ?_
  · have hlt : i < marks.length := by omega
    have hm : i < (marks.map Mk.c).length := by rw [List.length_map]; exact hlt
    have hkey := hms marks[i] (List.getElem_mem hlt)
    intro k6 hk6
    have next : ∀ h, Hs h (bk x (Tg.c t) :: refL m (ent1 rh rc t s1 marks[i]).1 (ent1 rh rc t s1 marks[i]).2.1 (ent1 rh rc t s1 marks[i]).2.2 :: refS so reg rows :: M :: rs) → k6 h := by
      intro h H
      refine hk6 h fun _ => nx_add i (by omega) (hnx h hlt ?_)
      rintro s2 rfl
      rw [List.take_succ_eq_append_getElem hlt, List.foldl_append, hs1]
      exact H
    refine ixR (hS h _ H.p3) i hm fun b o hrd => ?_
    rw [List.getElem_map] at hrd
    refine ldnR hrd rfl (alS H fun y h H => staS H rfl rfl (Mk.one _) fun h H => ?_)
    obtain ⟨a, b, c, H⟩ := Hs.refL.1 H.p2
    generalize marks[i] = mk at hkey next H
    have H : Hs h (bk m [a, b, c] :: cms a s1.1 :: cms b s1.2.1 :: tgs c s1.2.2 :: bk y (Mk.c mk) :: bk x (Tg.c t) :: refS so reg rows :: M :: rs) := H
    refine nc_s (fa_s (ld1S H a rfl (fa_s (ld1S H.p4 (.string mk.1) rfl (ldaS H.p5 rfl ?_)))))
    refine cl_s b225 (s225 (l := s1.1) (rs := bk m [a, b, c] :: cms b s1.2.1 :: tgs c s1.2.2 :: bk y (Mk.c mk) :: bk x (Tg.c t) :: refS so reg rows :: M :: rs) (by omega) (H.perm (by repeat (first | with_reducible exact List.Perm.refl _ | with_reducible refine pm0 ?_ | with_reducible refine pm1 ?_ | with_reducible refine pm2 ?_ | with_reducible refine pm3 ?_ | with_reducible refine pm4 ?_ | with_reducible refine pm5 ?_ | with_reducible refine pm6 ?_ | with_reducible refine pm7 ?_ | with_reducible refine pm8 ?_ | with_reducible refine pm9 ?_ | with_reducible refine pm10 ?_ | with_reducible refine pm11 ?_ | with_reducible refine pm12 ?_ | with_reducible refine pm13 ?_)))) ?_
    rintro _ h ⟨rfl, H⟩
    have back : ∀ h s2, s2 = ent1 rh rc t s1 mk → (∃ a b c, Hs h (bk m [a, b, c] :: cms a s2.1 :: cms b s2.2.1 :: tgs c s2.2.2 :: bk y (Mk.c mk) :: bk x (Tg.c t) :: refS so reg rows :: M :: rs)) → k6 h := by
      rintro h s2 rfl ⟨a, b, c, H⟩
      refine next h ?_
      have H2 : Hs h (refL m (ent1 rh rc t s1 mk).1 (ent1 rh rc t s1 mk).2.1 (ent1 rh rc t s1 mk).2.2 :: bk y (Mk.c mk) :: bk x (Tg.c t) :: refS so reg rows :: M :: rs) := Hs.refL.2 ⟨a, b, c, H⟩
      exact (H2.perm (rs' := bk y (Mk.c mk) :: bk x (Tg.c t) :: refL m (ent1 rh rc t s1 mk).1 (ent1 rh rc t s1 mk).2.1 (ent1 rh rc t s1 mk).2.2 :: refS so reg rows :: M :: rs) (by repeat (first | with_reducible exact List.Perm.refl _ | with_reducible refine pm0 ?_ | with_reducible refine pm1 ?_ | with_reducible refine pm2 ?_ | with_reducible refine pm3 ?_ | with_reducible refine pm4 ?_ | with_reducible refine pm5 ?_ | with_reducible refine pm6 ?_ | with_reducible refine pm7 ?_ | with_reducible refine pm8 ?_ | with_reducible refine pm9 ?_ | with_reducible refine pm10 ?_ | with_reducible refine pm11 ?_ | with_reducible refine pm12 ?_ | with_reducible refine pm13 ?_))).drop
    have stay : hasC s1.1 mk.1 t = true ∨ hasC s1.2.1 mk.1 t = true → ∀ h, Hs h (cms a s1.1 :: bk m [a, b, c] :: cms b s1.2.1 :: tgs c s1.2.2 :: bk y (Mk.c mk) :: bk x (Tg.c t) :: refS so reg rows :: M :: rs) → k6 h := by
      intro hh h H
      refine back h s1 ?_ ⟨a, b, c, H.perm (by repeat (first | with_reducible exact List.Perm.refl _ | with_reducible refine pm0 ?_ | with_reducible refine pm1 ?_ | with_reducible refine pm2 ?_ | with_reducible refine pm3 ?_ | with_reducible refine pm4 ?_ | with_reducible refine pm5 ?_ | with_reducible refine pm6 ?_ | with_reducible refine pm7 ?_ | with_reducible refine pm8 ?_ | with_reducible refine pm9 ?_ | with_reducible refine pm10 ?_ | with_reducible refine pm11 ?_ | with_reducible refine pm12 ?_ | with_reducible refine pm13 ?_))⟩
      have : (hasC s1.1 mk.1 t || hasC s1.2.1 mk.1 t) = true := by simpa using hh
      rw [ent1, if_pos this]
    have go : hasC s1.1 mk.1 t = false → hasC s1.2.1 mk.1 t = false → ∀ h, Hs h (bk m [a, b, c] :: cms a s1.1 :: cms b s1.2.1 :: tgs c s1.2.2 :: bk y (Mk.c mk) :: bk x (Tg.c t) :: refS so reg rows :: M :: rs) → G108 (pt m 0) (pt so 0) (pt x 0) (pt y 0) k6 h := by
      intro hn1 hn2 h H
      have hno : ¬ ((hasC s1.1 mk.1 t || hasC s1.2.1 mk.1 t) = true) := by simp [hn1, hn2]
      unfold G108
      refine fa_s (ld1S H.p4 (.string mk.1) rfl (ldaS H.p4 rfl (cl_s b83 (r83 (rows := rows) (rs := bk m [a, b, c] :: cms a s1.1 :: cms b s1.2.1 :: tgs c s1.2.2 :: bk y (Mk.c mk) :: bk x (Tg.c t) :: M :: rs) hr hkey (by omega) (H.perm (by repeat (first | with_reducible exact List.Perm.refl _ | with_reducible refine pm0 ?_ | with_reducible refine pm1 ?_ | with_reducible refine pm2 ?_ | with_reducible refine pm3 ?_ | with_reducible refine pm4 ?_ | with_reducible refine pm5 ?_ | with_reducible refine pm6 ?_ | with_reducible refine pm7 ?_ | with_reducible refine pm8 ?_ | with_reducible refine pm9 ?_ | with_reducible refine pm10 ?_ | with_reducible refine pm11 ?_ | with_reducible refine pm12 ?_ | with_reducible refine pm13 ?_)))) ?_)))
      rintro _ h ⟨rfl, H⟩
      refine ⟨ldaS H.p5 rfl rfl, ?_⟩
      refine cl_s b223 (s223 (a := .bool (getRw mk.1 reg rows).has) (b := (getRw mk.1 reg rows).sl) (rh := (getRw mk.1 reg rows).home) (rc := (getRw mk.1 reg rows).cnt) (m := mk) H) ?_
      rintro _ h ⟨rfl, H⟩
      have hrh' : (getRw mk.1 reg rows).home = rh mk.1 := by rw [← hrh]
      have hrc' : ((getRw mk.1 reg rows).cnt : Int) = rc mk.1 := by rw [← hrc]
      rw [hrh', hrc']
      have H := H.perm (rs' := bk m [a, b, c] :: cms a s1.1 :: cms b s1.2.1 :: tgs c s1.2.2 :: bk y (Mk.c mk) :: bk x (Tg.c t) :: refS so reg rows :: M :: rs) (by repeat (first | with_reducible exact List.Perm.refl _ | with_reducible refine pm0 ?_ | with_reducible refine pm1 ?_ | with_reducible refine pm2 ?_ | with_reducible refine pm3 ?_ | with_reducible refine pm4 ?_ | with_reducible refine pm5 ?_ | with_reducible refine pm6 ?_ | with_reducible refine pm7 ?_ | with_reducible refine pm8 ?_ | with_reducible refine pm9 ?_ | with_reducible refine pm10 ?_ | with_reducible refine pm11 ?_ | with_reducible refine pm12 ?_ | with_reducible refine pm13 ?_))
      refine cn_eql (fun h0 => ?_) fun h0 => cn_eql (fun h01 => ?_) fun h01 => ?_
      · refine nc_s (fa_s (ld1S H a rfl (ldaS H.p5 rfl (ldaS H.p4 rfl (bd_s (Cm.c (t, mk)) rfl ?_)))))
        have H := H.perm (rs' := vec 7 a (s1.1.map Cm.c) :: bk m [a, b, c] :: cms b s1.2.1 :: tgs c s1.2.2 :: bk y (Mk.c mk) :: bk x (Tg.c t) :: refS so reg rows :: M :: rs) (by repeat (first | with_reducible exact List.Perm.refl _ | with_reducible refine pm0 ?_ | with_reducible refine pm1 ?_ | with_reducible refine pm2 ?_ | with_reducible refine pm3 ?_ | with_reducible refine pm4 ?_ | with_reducible refine pm5 ?_ | with_reducible refine pm6 ?_ | with_reducible refine pm7 ?_ | with_reducible refine pm8 ?_ | with_reducible refine pm9 ?_ | with_reducible refine pm10 ?_ | with_reducible refine pm11 ?_ | with_reducible refine pm12 ?_ | with_reducible refine pm13 ?_))
        show AP3 zc7 64 408 7 (ld1 (pt m (0 + 0)) fun u _ => u = a) (fun X => an2 (ldn 4 (pt x 0) fun u _ => u = .agg (Tg.c t).toArray) (an2 (ldn 3 (pt y 0) fun u _ => u = .agg (Mk.c mk).toArray) X)) a (.agg (Cm.c (t, mk)).toArray) (fun v => nc (pt m 0) fun p => fa p 0 fun q => st 1 q v k6) h
        refine ap3 H rfl rfl zc7_1 rfl (Cm.one _) (by simp; omega) (by simp; omega) (fun h X Y H => ld1S H.p3 a rfl rfl) (fun h X Y Z H hZ => ⟨ldaS H.p7 rfl rfl, ldaS H.p6 rfl rfl, hZ⟩) fun a' h H => ?_
        refine nc_s (fa_s (st1S H.p2 H.vecC (by simp) fun h H => back h _ rfl ⟨a', b, c, ?_⟩))
        rw [ent1, if_neg hno, if_pos h0]
        have H : Hs h (bk m [a', b, c] :: vec 7 a' (s1.1.map Cm.c ++ [Cm.c (t, mk)]) :: vec 7 a (s1.1.map Cm.c) :: cms b s1.2.1 :: tgs c s1.2.2 :: bk y (Mk.c mk) :: bk x (Tg.c t) :: refS so reg rows :: M :: rs) := H
        show Hs h (bk m [a', b, c] :: vec 7 a' ((s1.1 ++ [(t, mk)]).map Cm.c) :: cms b s1.2.1 :: tgs c s1.2.2 :: bk y (Mk.c mk) :: bk x (Tg.c t) :: refS so reg rows :: M :: rs)
        rw [List.map_append]
        exact H.p2.drop
      · refine nc_s (fa_s (ld1S H b rfl (ldaS H.p5 rfl (ldaS H.p4 rfl (bd_s (Cm.c (t, mk)) rfl ?_)))))
        have H := H.perm (rs' := vec 7 b (s1.2.1.map Cm.c) :: bk m [a, b, c] :: cms a s1.1 :: tgs c s1.2.2 :: bk y (Mk.c mk) :: bk x (Tg.c t) :: refS so reg rows :: M :: rs) (by repeat (first | with_reducible exact List.Perm.refl _ | with_reducible refine pm0 ?_ | with_reducible refine pm1 ?_ | with_reducible refine pm2 ?_ | with_reducible refine pm3 ?_ | with_reducible refine pm4 ?_ | with_reducible refine pm5 ?_ | with_reducible refine pm6 ?_ | with_reducible refine pm7 ?_ | with_reducible refine pm8 ?_ | with_reducible refine pm9 ?_ | with_reducible refine pm10 ?_ | with_reducible refine pm11 ?_ | with_reducible refine pm12 ?_ | with_reducible refine pm13 ?_))
        show AP3 zc7 64 408 7 (ld1 (pt m (0 + 1)) fun u _ => u = b) (fun X => an2 (ldn 4 (pt x 0) fun u _ => u = .agg (Tg.c t).toArray) (an2 (ldn 3 (pt y 0) fun u _ => u = .agg (Mk.c mk).toArray) X)) b (.agg (Cm.c (t, mk)).toArray) (fun v => nc (pt m 0) fun p => fa p 1 fun q => st 1 q v k6) h
        refine ap3 H rfl rfl zc7_1 rfl (Cm.one _) (by simp; omega) (by simp; omega) (fun h X Y H => ld1S H.p3 b rfl rfl) (fun h X Y Z H hZ => ⟨ldaS H.p7 rfl rfl, ldaS H.p6 rfl rfl, hZ⟩) fun b' h H => ?_
        refine nc_s (fa_s (st1S H.p2 H.vecC (by simp) fun h H => back h _ rfl ⟨a, b', c, ?_⟩))
        rw [ent1, if_neg hno, if_neg h0, if_pos h01]
        have H : Hs h (bk m [a, b', c] :: vec 7 b' (s1.2.1.map Cm.c ++ [Cm.c (t, mk)]) :: vec 7 b (s1.2.1.map Cm.c) :: cms a s1.1 :: tgs c s1.2.2 :: bk y (Mk.c mk) :: bk x (Tg.c t) :: refS so reg rows :: M :: rs) := H
        show Hs h (bk m [a, b', c] :: cms a s1.1 :: vec 7 b' ((s1.2.1 ++ [(t, mk)]).map Cm.c) :: tgs c s1.2.2 :: bk y (Mk.c mk) :: bk x (Tg.c t) :: refS so reg rows :: M :: rs)
        rw [List.map_append, List.map_singleton]
        exact H.p2.drop.perm (by repeat (first | with_reducible exact List.Perm.refl _ | with_reducible refine pm0 ?_ | with_reducible refine pm1 ?_ | with_reducible refine pm2 ?_ | with_reducible refine pm3 ?_ | with_reducible refine pm4 ?_ | with_reducible refine pm5 ?_ | with_reducible refine pm6 ?_ | with_reducible refine pm7 ?_ | with_reducible refine pm8 ?_ | with_reducible refine pm9 ?_ | with_reducible refine pm10 ?_ | with_reducible refine pm11 ?_ | with_reducible refine pm12 ?_ | with_reducible refine pm13 ?_))
      · refine ldaS H.p5 rfl (cl_s b224 (s224 (l := s1.2.2) (a := a) (b := b) (s := c) (rs := cms a s1.1 :: cms b s1.2.1 :: bk y (Mk.c mk) :: bk x (Tg.c t) :: refS so reg rows :: M :: rs) (by omega) (H.perm (by repeat (first | with_reducible exact List.Perm.refl _ | with_reducible refine pm0 ?_ | with_reducible refine pm1 ?_ | with_reducible refine pm2 ?_ | with_reducible refine pm3 ?_ | with_reducible refine pm4 ?_ | with_reducible refine pm5 ?_ | with_reducible refine pm6 ?_ | with_reducible refine pm7 ?_ | with_reducible refine pm8 ?_ | with_reducible refine pm9 ?_ | with_reducible refine pm10 ?_ | with_reducible refine pm11 ?_ | with_reducible refine pm12 ?_ | with_reducible refine pm13 ?_)))) ?_)
        rintro _ h ⟨c', H⟩
        refine back h _ rfl ⟨a, b, c', ?_⟩
        rw [ent1, if_neg hno, if_neg h0, if_neg h01]
        exact H.perm (by repeat (first | with_reducible exact List.Perm.refl _ | with_reducible refine pm0 ?_ | with_reducible refine pm1 ?_ | with_reducible refine pm2 ?_ | with_reducible refine pm3 ?_ | with_reducible refine pm4 ?_ | with_reducible refine pm5 ?_ | with_reducible refine pm6 ?_ | with_reducible refine pm7 ?_ | with_reducible refine pm8 ?_ | with_reducible refine pm9 ?_ | with_reducible refine pm10 ?_ | with_reducible refine pm11 ?_ | with_reducible refine pm12 ?_ | with_reducible refine pm13 ?_))
    cases hh1 : hasC s1.1 mk.1 t with
    | true =>
      have e1 : (s1.1.any fun c => decide (c.2.1 = mk.1 ∧ c.1 = t)) = true := hh1
      rw [e1]
      refine gd_f (by simp) (gd_f (by simp) (gd_f (by simp) (gd_f (by simp) (gd_f (by simp) (gd_f (by simp) (gd_f (by simp) (gd_f (by simp) (pk_s (cn_t (stay (.inl hh1) h H))))))))))
    | false =>
      have e1 : (s1.1.any fun c => decide (c.2.1 = mk.1 ∧ c.1 = t)) = false := hh1
      rw [e1]
      refine gd_t (gd_t (nc_s (gd_t (fa_s (gd_t (ld1S H.p1 b rfl (gd_t (fa_s (gd_t (ld1S H.p4 (.string mk.1) rfl (gd_t (ldaS H.p5 rfl (gd_t ?_)))))))))))))
      refine cl_s b225 (s225 (l := s1.2.1) (rs := cms a s1.1 :: bk m [a, b, c] :: tgs c s1.2.2 :: bk y (Mk.c mk) :: bk x (Tg.c t) :: refS so reg rows :: M :: rs) (by omega) (H.perm (by repeat (first | with_reducible exact List.Perm.refl _ | with_reducible refine pm0 ?_ | with_reducible refine pm1 ?_ | with_reducible refine pm2 ?_ | with_reducible refine pm3 ?_ | with_reducible refine pm4 ?_ | with_reducible refine pm5 ?_ | with_reducible refine pm6 ?_ | with_reducible refine pm7 ?_ | with_reducible refine pm8 ?_ | with_reducible refine pm9 ?_ | with_reducible refine pm10 ?_ | with_reducible refine pm11 ?_ | with_reducible refine pm12 ?_ | with_reducible refine pm13 ?_)))) ?_
      rintro _ h ⟨rfl, H⟩
      have H := H.perm (rs' := cms a s1.1 :: bk m [a, b, c] :: cms b s1.2.1 :: tgs c s1.2.2 :: bk y (Mk.c mk) :: bk x (Tg.c t) :: refS so reg rows :: M :: rs) (by repeat (first | with_reducible exact List.Perm.refl _ | with_reducible refine pm0 ?_ | with_reducible refine pm1 ?_ | with_reducible refine pm2 ?_ | with_reducible refine pm3 ?_ | with_reducible refine pm4 ?_ | with_reducible refine pm5 ?_ | with_reducible refine pm6 ?_ | with_reducible refine pm7 ?_ | with_reducible refine pm8 ?_ | with_reducible refine pm9 ?_ | with_reducible refine pm10 ?_ | with_reducible refine pm11 ?_ | with_reducible refine pm12 ?_ | with_reducible refine pm13 ?_))
      refine pk_s (cn_s (fun h3 => ?_) fun h3 => ?_)
      · exact stay (.inr h3) h H
      · exact go hh1 h3 h (H.perm (by repeat (first | with_reducible exact List.Perm.refl _ | with_reducible refine pm0 ?_ | with_reducible refine pm1 ?_ | with_reducible refine pm2 ?_ | with_reducible refine pm3 ?_ | with_reducible refine pm4 ?_ | with_reducible refine pm5 ?_ | with_reducible refine pm6 ?_ | with_reducible refine pm7 ?_ | with_reducible refine pm8 ?_ | with_reducible refine pm9 ?_ | with_reducible refine pm10 ?_ | with_reducible refine pm11 ?_ | with_reducible refine pm12 ?_ | with_reducible refine pm13 ?_)))
  · have : i = marks.length := by omega
    subst this
    rw [List.take_length] at hs1
    intro s2 hs2
    rw [hs2, hs1]
    exact H.drop
/-! Moved -/
def G107 (l_a0 c_54 v58 left_41 : Value) (k48 : Cur 1) : A :=
 bn .eql v58 (Value.int IntKind.i64 0) fun v69 =>
    cn v69
    (nc l_a0 fun v70 =>
     fa v70 0 fun v71 =>
     ld1 v71 fun v72 =>
     ldn 7 c_54 fun v73 =>
     an2 (bsl [Value.int IntKind.i64 0, Value.int IntKind.u64 0, Value.int IntKind.u64 0, Value.int IntKind.i64 0, Value.string { data := #[] }, Value.int IntKind.i64 0, Value.int IntKind.u64 0] 408 0 [] fun v74 =>
     an2 (ld1 v71 (fun u _ => u = v72)) <|
     an2 (ldn 7 c_54 (fun u _ => u = v73)) <|
     an2 (apd [Value.int IntKind.i64 0, Value.int IntKind.u64 0, Value.int IntKind.u64 0, Value.int IntKind.i64 0, Value.string { data := #[] }, Value.int IntKind.i64 0, Value.int IntKind.u64 0] 64 408 v74 v72 fun v75 =>
     an2 (ldn 7 c_54 (fun u _ => u = v73)) <|
     bsl [Value.int IntKind.i64 0, Value.int IntKind.u64 0, Value.int IntKind.u64 0, Value.int IntKind.i64 0, Value.string { data := #[] }, Value.int IntKind.i64 0, Value.int IntKind.u64 0] 408 1 [(0, 7, v73)] fun v76 =>
     an2 (ld1 v71 (fun u _ => u = v72)) <|
     apd [Value.int IntKind.i64 0, Value.int IntKind.u64 0, Value.int IntKind.u64 0, Value.int IntKind.i64 0, Value.string { data := #[] }, Value.int IntKind.i64 0, Value.int IntKind.u64 0] 64 408 v75 v76 fun v77 =>
     nc l_a0 fun v78 =>
     fa v78 0 fun v79 =>
     st 1 v79 v77 <|
     k48 left_41) (bsl [Value.int IntKind.i64 0, Value.int IntKind.u64 0, Value.int IntKind.u64 0, Value.int IntKind.i64 0, Value.string { data := #[] }, Value.int IntKind.i64 0, Value.int IntKind.u64 0] 408 1 [(0, 7, v73)] fun v80 =>
     an2 (ld1 v71 (fun u _ => u = v72)) <|
     apd [Value.int IntKind.i64 0, Value.int IntKind.u64 0, Value.int IntKind.u64 0, Value.int IntKind.i64 0, Value.string { data := #[] }, Value.int IntKind.i64 0, Value.int IntKind.u64 0] 64 408 v74 v72 fun v81 =>
     an2 (ldn 7 c_54 (fun u _ => u = v73)) <|
     apd [Value.int IntKind.i64 0, Value.int IntKind.u64 0, Value.int IntKind.u64 0, Value.int IntKind.i64 0, Value.string { data := #[] }, Value.int IntKind.i64 0, Value.int IntKind.u64 0] 64 408 v81 v80 fun v82 =>
     nc l_a0 fun v83 =>
     fa v83 0 fun v84 =>
     st 1 v84 v82 <|
     k48 left_41)) (bsl [Value.int IntKind.i64 0, Value.int IntKind.u64 0, Value.int IntKind.u64 0, Value.int IntKind.i64 0, Value.string { data := #[] }, Value.int IntKind.i64 0, Value.int IntKind.u64 0] 408 1 [(0, 7, v73)] fun v85 =>
     an2 (ld1 v71 (fun u _ => u = v72)) <|
     bsl [Value.int IntKind.i64 0, Value.int IntKind.u64 0, Value.int IntKind.u64 0, Value.int IntKind.i64 0, Value.string { data := #[] }, Value.int IntKind.i64 0, Value.int IntKind.u64 0] 408 0 [] fun v86 =>
     an2 (ld1 v71 (fun u _ => u = v72)) <|
     an2 (ldn 7 c_54 (fun u _ => u = v73)) <|
     apd [Value.int IntKind.i64 0, Value.int IntKind.u64 0, Value.int IntKind.u64 0, Value.int IntKind.i64 0, Value.string { data := #[] }, Value.int IntKind.i64 0, Value.int IntKind.u64 0] 64 408 v86 v72 fun v87 =>
     an2 (ldn 7 c_54 (fun u _ => u = v73)) <|
     apd [Value.int IntKind.i64 0, Value.int IntKind.u64 0, Value.int IntKind.u64 0, Value.int IntKind.i64 0, Value.string { data := #[] }, Value.int IntKind.i64 0, Value.int IntKind.u64 0] 64 408 v87 v85 fun v88 =>
     nc l_a0 fun v89 =>
     fa v89 0 fun v90 =>
     st 1 v90 v88 <|
     k48 left_41))
    (fa c_54 0 fun v91 =>
     ldn 4 v91 fun v92 =>
     cl Tryz.prog 224 [l_a0, v92] fun v93 =>
     k48 left_41)
def mov1 (rh rc : Int) (k : ByteArray) (d : List Tg) (c : Cm) : List Tg := if c.2.1 = k ∧ lk rh rc c.2 ≠ 0 then dm c.1 d else d
/-- line, left, doomed. -/
def mov2 (rh rc : Int) (k : ByteArray) (s : L3) (c : Cm) : L3 :=
  if c.2.1 ≠ k ∨ lk rh rc c.2 = 1 then (s.1, s.2.1 ++ [c], s.2.2)
  else if lk rh rc c.2 = 0 then (s.1 ++ [c], s.2.1, s.2.2)
  else (s.1, s.2.1, dm c.1 s.2.2)
theorem mov1_len (rh rc : Int) (k : ByteArray) : ∀ (l : List Cm) (d : List Tg), (l.foldl (mov1 rh rc k) d).length ≤ d.length + l.length
  | [], d => by simp
  | c :: l, d => by
    have h1 : (mov1 rh rc k d c).length ≤ d.length + 1 := by
      have := dm_len c.1 d
      unfold mov1; split <;> omega
    have h2 := mov1_len rh rc k l (mov1 rh rc k d c)
    simp only [List.foldl_cons, List.length_cons]; omega
theorem mov2_len (rh rc : Int) (k : ByteArray) : ∀ (l : List Cm) (s : L3), (l.foldl (mov2 rh rc k) s).1.length + (l.foldl (mov2 rh rc k) s).2.1.length ≤ s.1.length + s.2.1.length + l.length ∧ (l.foldl (mov2 rh rc k) s).2.2.length ≤ s.2.2.length + l.length
  | [], s => by simp
  | c :: l, s => by
    have h1 : (mov2 rh rc k s c).1.length + (mov2 rh rc k s c).2.1.length ≤ s.1.length + s.2.1.length + 1 ∧ (mov2 rh rc k s c).2.2.length ≤ s.2.2.length + 1 := by
      have := dm_len c.1 s.2.2
      unfold mov2
      split
      · simp; omega
      · split
        · simp; omega
        · simp; omega
    have h2 := mov2_len rh rc k l (mov2 rh rc k s c)
    simp only [List.foldl_cons, List.length_cons]; omega
def movL (rh rc : Int) (k : ByteArray) (s : L3) : L3 := s.2.1.foldl (mov2 rh rc k) (s.1, [], s.1.foldl (mov1 rh rc k) s.2.2)
theorem s107 {h : Hp} {rs : List SL} {m so : Nat} {reg : Int} {rows : Rws} {s0 : L3} {k : ByteArray} (hr : reg ≤ 1000) (hrl : rows.length ≤ 1000000) (hk : k.size ≤ 1000000000)
    (h1 : s0.1.length + s0.2.1.length ≤ 400000) (h2 : s0.2.2.length ≤ 400000) (H : Hs h (refL m s0.1 s0.2.1 s0.2.2 :: refS so reg rows :: rs)) :
    FnW Tryz.prog 107 #[pt m 0, pt so 0, .string k] (fun v h' => ∀ s1, s1 = movL (getRw k reg rows).home (getRw k reg rows).cnt k s0 → Hs h' (refL m s1.1 s1.2.1 s1.2.2 :: refS so reg rows :: rs)) h := by
  refine c107 ?_
  unfold C107
  refine cl_s b83 (r83 (rows := rows) (rs := refL m s0.1 s0.2.1 s0.2.2 :: rs) hr hk (by omega) H.p1) ?_
  rintro _ h ⟨rfl, H⟩
  have hone : oneC (getRw k reg rows).sl = true := by
    obtain ⟨s, _, h2, _⟩ := Hs.refS.1 H
    exact getRw_one h2
  have hok := Rw.ok hone k
  refine alS H fun x h H => staS H rfl rfl hok.2 fun h H => ?_
  generalize getRw k reg rows = r at H hok hone
  obtain ⟨a, b, c, H⟩ := Hs.refL.1 H.p2
  have b1 := mov1_len r.home r.cnt k
  refine lp1 s0.1.length (fun i h => ∃ c, Hs h (bk m [a, b, c] :: cms a s0.1 :: cms b s0.2.1 :: tgs c ((s0.1.take i).foldl (mov1 r.home r.cnt k) s0.2.2) :: bk x r.c :: refS so reg rows :: rs)) ⟨c, by simpa using H⟩ ?_
  clear H c
  rintro i h σ0 nx hi ⟨c, H⟩ hnx
  have bl1 := b1 (s0.1.take i) s0.2.2
  rw [List.length_take] at bl1
  refine nc_s (fa_s (ld1S H a rfl (lnV H.p1 ?_)))
  rw [List.length_map]
  refine cn_lss (fun hlt => ?_) fun hge => ?_
  · have hlt : i < s0.1.length := by omega
    have hm : i < (s0.1.map Cm.c).length := by rw [List.length_map]; exact hlt
    intro k10 hk10
    have next : ∀ h c, Hs h (bk m [a, b, c] :: cms a s0.1 :: cms b s0.2.1 :: tgs c (mov1 r.home r.cnt k ((s0.1.take i).foldl (mov1 r.home r.cnt k) s0.2.2) s0.1[i]) :: bk x r.c :: refS so reg rows :: rs) → k10 h := by
      intro h c H
      refine hk10 h fun _ => nx_add i (by omega) (hnx h hlt ⟨c, ?_⟩)
      rw [List.take_succ_eq_append_getElem hlt, List.foldl_append]
      exact H
    refine nc_s (fa_s (ld1S H a rfl (ixV H.p1 i rfl hm fun b' hrd => fa_s (fa_s ?_))))
    rw [List.getElem_map] at hrd
    refine ld1R (hrd.nth 4 1 [.string s0.1[i].2.1] rfl (by simp [Cm.len])) (bn_s (.bool (decide (s0.1[i].2.1 = k))) (by simp [binV, strV, toList_beq]) ?_)
    generalize hd : (s0.1.take i).foldl (mov1 r.home r.cnt k) s0.2.2 = dd at *
    by_cases hk1 : s0.1[i].2.1 = k
    · rw [decide_eq_true hk1]
      refine gd_t (ldaS H.p4 rfl (gd_t (gd_t (nc_s (gd_t (fa_s (gd_t (ld1S H a rfl (gd_t (gd_t (ixV H.p1 i rfl hm fun b' hrd => gd_t (fa_s (gd_t (ldnR (vs := Mk.c s0.1[i].2) ?_ rfl (gd_t ?_)))))))))))))))
      · rw [List.getElem_map] at hrd
        exact hrd.nth 4 3 _ rfl (by simp [Cm.len])
      · refine cl_s b223 (s223 (a := .bool r.has) (b := r.sl) (rh := r.home) (rc := r.cnt) (m := s0.1[i].2) H) ?_
        rintro _ h ⟨rfl, H⟩
        refine gd_t (bn_s (.bool (lk r.home r.cnt s0.1[i].2 != 0)) (by simp [binV, intV]) (pk_s (cn_s (fun he => ?_) fun he => ?_)))
        · have he : ¬ lk r.home r.cnt s0.1[i].2 = 0 := by simpa using he
          refine nc_s (fa_s (ld1S H a rfl (ixV H.p1 i rfl hm fun b' hrd => fa_s (ldnR (vs := Tg.c s0.1[i].1) ?_ rfl ?_))))
          · rw [List.getElem_map] at hrd
            exact hrd.nth 0 4 _ rfl (by simp [Cm.len])
          refine cl_s b224 (s224 (l := dd) (a := a) (b := b) (s := c) (rs := cms a s0.1 :: cms b s0.2.1 :: bk x r.c :: refS so reg rows :: rs) (by omega) (H.perm (by repeat (first | with_reducible exact List.Perm.refl _ | with_reducible refine pm0 ?_ | with_reducible refine pm1 ?_ | with_reducible refine pm2 ?_ | with_reducible refine pm3 ?_ | with_reducible refine pm4 ?_ | with_reducible refine pm5 ?_ | with_reducible refine pm6 ?_ | with_reducible refine pm7 ?_ | with_reducible refine pm8 ?_ | with_reducible refine pm9 ?_ | with_reducible refine pm10 ?_ | with_reducible refine pm11 ?_ | with_reducible refine pm12 ?_ | with_reducible refine pm13 ?_)))) ?_
          rintro _ h ⟨c', H⟩
          refine next h c' ?_
          rw [mov1, if_pos ⟨hk1, he⟩]
          exact H.perm (by repeat (first | with_reducible exact List.Perm.refl _ | with_reducible refine pm0 ?_ | with_reducible refine pm1 ?_ | with_reducible refine pm2 ?_ | with_reducible refine pm3 ?_ | with_reducible refine pm4 ?_ | with_reducible refine pm5 ?_ | with_reducible refine pm6 ?_ | with_reducible refine pm7 ?_ | with_reducible refine pm8 ?_ | with_reducible refine pm9 ?_ | with_reducible refine pm10 ?_ | with_reducible refine pm11 ?_ | with_reducible refine pm12 ?_ | with_reducible refine pm13 ?_))
        · have he : lk r.home r.cnt s0.1[i].2 = 0 := by simpa using he
          refine next h c ?_
          rw [mov1, if_neg (by rintro ⟨_, h2⟩; exact h2 he)]
          exact H
    · rw [decide_eq_false hk1]
      refine gd_f (by simp) (gd_f (by simp) (gd_f (by simp) (gd_f (by simp) (gd_f (by simp) (gd_f (by simp) (gd_f (by simp) (gd_f (by simp) (gd_f (by simp) (gd_f (by simp) (gd_f (by simp) (pk_s (cn_f (next h c ?_)))))))))))))
      rw [mov1, if_neg (by rintro ⟨h1, _⟩; exact hk1 h1)]
      exact H
  · have : i = s0.1.length := by omega
    subst this
    rw [List.take_length] at H bl1
    have e0 : movL r.home r.cnt k s0 = s0.2.1.foldl (mov2 r.home r.cnt k) (s0.1, [], s0.1.foldl (mov1 r.home r.cnt k) s0.2.2) := rfl
    generalize s0.1.foldl (mov1 r.home r.cnt k) s0.2.2 = dd at *
    have b2 := mov2_len r.home r.cnt k
    refine bslS H [] rfl fun o h H => ?_
    have H : Hs h (cms (sl o 0 0 0) [] :: bk m [a, b, c] :: cms a s0.1 :: cms b s0.2.1 :: tgs c dd :: bk x r.c :: refS so reg rows :: rs) := Hs.vec1 (v00 7) H
    refine lp2 s0.2.1.length (fun i o h => ∃ a c, ∀ s1, s1 = (s0.2.1.take i).foldl (mov2 r.home r.cnt k) (s0.1, [], dd) → Hs h (cms o s1.2.1 :: bk m [a, b, c] :: cms a s1.1 :: cms b s0.2.1 :: tgs c s1.2.2 :: bk x r.c :: refS so reg rows :: rs)) ⟨a, c, by rintro s1 rfl; exact H⟩ ?_
    clear H
    rintro i o h σ0 nx hi ⟨a, c, H⟩ hnx
    replace H := H _ rfl
    have bl2 := b2 (s0.2.1.take i) (s0.1, [], dd)
    rw [List.length_take] at bl2
    simp only [List.length_nil] at bl2
    generalize hs1 : (s0.2.1.take i).foldl (mov2 r.home r.cnt k) (s0.1, [], dd) = s1 at H bl2
    refine nc_s (fa_s (ld1S H.p1 b rfl (lnV H.p3 ?_)))
    rw [List.length_map]
    refine cn_lss (fun hlt => ?_) fun hge => ?_
    · have hlt : i < s0.2.1.length := by omega
      have hm : i < (s0.2.1.map Cm.c).length := by rw [List.length_map]; exact hlt
      intro k48 hk48
      have next : ∀ h o, (∃ a c, ∀ s2, s2 = mov2 r.home r.cnt k s1 s0.2.1[i] → Hs h (cms o s2.2.1 :: bk m [a, b, c] :: cms a s2.1 :: cms b s0.2.1 :: tgs c s2.2.2 :: bk x r.c :: refS so reg rows :: rs)) → k48 o h := by
        rintro h o ⟨a, c, H⟩
        refine hk48 o h fun _ => nx_add i (by omega) (hnx o h hlt ⟨a, c, ?_⟩)
        rintro s2 rfl
        rw [List.take_succ_eq_append_getElem hlt, List.foldl_append, hs1]
        exact H _ rfl
      refine nc_s (fa_s (ld1S H.p1 b rfl (ixV H.p3 i rfl hm fun b' hrd => ldnR hrd (by rw [List.getElem_map]; rfl) ?_)))
      rw [List.getElem_map]
      generalize s0.2.1[i] = cc at next
      refine alS H fun y h H => staS H rfl rfl (Cm.one _) fun h H => ?_
      have hy3 : ((Cm.c cc).drop 4).take 3 = Mk.c cc.2 := rfl
      refine ldaS H.p6 rfl (fa_s (ldnS H (Mk.c cc.2) (by simp [Cm.len]) hy3 ?_))
      refine cl_s b223 (s223 (a := .bool r.has) (b := r.sl) (rh := r.home) (rc := r.cnt) (m := cc.2) H) ?_
      rintro _ h ⟨rfl, H⟩
      have stay : (cc.2.1 ≠ k ∨ lk r.home r.cnt cc.2 = 1) → ∀ h, Hs h (bk y (Cm.c cc) :: cms o s1.2.1 :: bk m [a, b, c] :: cms a s1.1 :: cms b s0.2.1 :: tgs c s1.2.2 :: bk x r.c :: refS so reg rows :: rs) →
          (ldn 7 (pt y 0) fun v66 => bsl zc7 408 1 [(0, 7, v66)] fun v67 => apd zc7 64 408 o v67 fun v68 => k48 v68) h := by
        intro hh h H
        refine ldaS H rfl (bslS H (Cm.c cc) (by simp [fill2, rep, Value.cells, Cm.c, Tg.c, Mk.c]) fun z h H => ?_)
        have H := H.perm (rs' := cms o s1.2.1 :: bk z (Cm.c cc) :: bk y (Cm.c cc) :: bk m [a, b, c] :: cms a s1.1 :: cms b s0.2.1 :: tgs c s1.2.2 :: bk x r.c :: refS so reg rows :: rs) (by repeat (first | with_reducible exact List.Perm.refl _ | with_reducible refine pm0 ?_ | with_reducible refine pm1 ?_ | with_reducible refine pm2 ?_ | with_reducible refine pm3 ?_ | with_reducible refine pm4 ?_ | with_reducible refine pm5 ?_ | with_reducible refine pm6 ?_ | with_reducible refine pm7 ?_ | with_reducible refine pm8 ?_ | with_reducible refine pm9 ?_ | with_reducible refine pm10 ?_ | with_reducible refine pm11 ?_ | with_reducible refine pm12 ?_ | with_reducible refine pm13 ?_))
        refine ap1 zc7 H rfl zc7_1 rfl (Cm.one _) (by simp; omega) (by simp; omega) fun o' h H => next h o' ⟨a, c, ?_⟩
        rintro s2 rfl
        rw [mov2, if_pos hh]
        show Hs h (vec 7 o' ((s1.2.1 ++ [cc]).map Cm.c) :: bk m [a, b, c] :: cms a s1.1 :: cms b s0.2.1 :: tgs c s1.2.2 :: bk x r.c :: refS so reg rows :: rs)
        rw [List.map_append]
        exact H.p1.drop
      have go : ¬ (cc.2.1 ≠ k ∨ lk r.home r.cnt cc.2 = 1) → ∀ h, Hs h (bk y (Cm.c cc) :: cms o s1.2.1 :: bk m [a, b, c] :: cms a s1.1 :: cms b s0.2.1 :: tgs c s1.2.2 :: bk x r.c :: refS so reg rows :: rs) →
          G107 (pt m 0) (pt y 0) (vi (lk r.home r.cnt cc.2)) o k48 h := by
        intro hn h H
        unfold G107
        refine cn_eql (fun h0 => ?_) fun h0 => ?_
        · refine nc_s (fa_s (ld1S H.p2 a rfl (ldaS H rfl ?_)))
          have H := H.perm (rs' := vec 7 a (s1.1.map Cm.c) :: bk y (Cm.c cc) :: cms o s1.2.1 :: bk m [a, b, c] :: cms b s0.2.1 :: tgs c s1.2.2 :: bk x r.c :: refS so reg rows :: rs) (by repeat (first | with_reducible exact List.Perm.refl _ | with_reducible refine pm0 ?_ | with_reducible refine pm1 ?_ | with_reducible refine pm2 ?_ | with_reducible refine pm3 ?_ | with_reducible refine pm4 ?_ | with_reducible refine pm5 ?_ | with_reducible refine pm6 ?_ | with_reducible refine pm7 ?_ | with_reducible refine pm8 ?_ | with_reducible refine pm9 ?_ | with_reducible refine pm10 ?_ | with_reducible refine pm11 ?_ | with_reducible refine pm12 ?_ | with_reducible refine pm13 ?_))
          show AP3 zc7 64 408 7 (ld1 (pt m (0 + 0)) fun u _ => u = a) (fun X => an2 (ldn 7 (pt y 0) fun u _ => u = .agg (Cm.c cc).toArray) X) a (.agg (Cm.c cc).toArray) (fun v => nc (pt m 0) fun p => fa p 0 fun q => st 1 q v <| k48 o) h
          refine ap3 H rfl rfl zc7_1 rfl (Cm.one _) (by simp; omega) (by simp; omega) (fun h X Y H => ld1S H.p5 a rfl rfl) (fun h X Y Z H hZ => ⟨ldaS H.p3 rfl rfl, hZ⟩) fun a' h H => ?_
          refine nc_s (fa_s (st1S H.p4 H.vecC (by simp) fun h H => next h o ⟨a', c, ?_⟩))
          rintro s2 rfl
          rw [mov2, if_neg hn, if_pos h0]
          have H : Hs h (bk m [a', b, c] :: vec 7 a' (s1.1.map Cm.c ++ [Cm.c cc]) :: vec 7 a (s1.1.map Cm.c) :: bk y (Cm.c cc) :: cms o s1.2.1 :: cms b s0.2.1 :: tgs c s1.2.2 :: bk x r.c :: refS so reg rows :: rs) := H
          show Hs h (cms o s1.2.1 :: bk m [a', b, c] :: vec 7 a' ((s1.1 ++ [cc]).map Cm.c) :: cms b s0.2.1 :: tgs c s1.2.2 :: bk x r.c :: refS so reg rows :: rs)
          rw [List.map_append, List.map_singleton]
          exact (H.perm (rs' := vec 7 a (s1.1.map Cm.c) :: bk y (Cm.c cc) :: cms o s1.2.1 :: bk m [a', b, c] :: vec 7 a' (s1.1.map Cm.c ++ [Cm.c cc]) :: cms b s0.2.1 :: tgs c s1.2.2 :: bk x r.c :: refS so reg rows :: rs) (by repeat (first | with_reducible exact List.Perm.refl _ | with_reducible refine pm0 ?_ | with_reducible refine pm1 ?_ | with_reducible refine pm2 ?_ | with_reducible refine pm3 ?_ | with_reducible refine pm4 ?_ | with_reducible refine pm5 ?_ | with_reducible refine pm6 ?_ | with_reducible refine pm7 ?_ | with_reducible refine pm8 ?_ | with_reducible refine pm9 ?_ | with_reducible refine pm10 ?_ | with_reducible refine pm11 ?_ | with_reducible refine pm12 ?_ | with_reducible refine pm13 ?_))).drop.drop
        · refine fa_s (ldnS H (Tg.c cc.1) (by simp [Cm.len]) rfl (cl_s b224 (s224 (l := s1.2.2) (a := a) (b := b) (s := c) (rs := bk y (Cm.c cc) :: cms o s1.2.1 :: cms a s1.1 :: cms b s0.2.1 :: bk x r.c :: refS so reg rows :: rs) (by omega) (H.perm (by repeat (first | with_reducible exact List.Perm.refl _ | with_reducible refine pm0 ?_ | with_reducible refine pm1 ?_ | with_reducible refine pm2 ?_ | with_reducible refine pm3 ?_ | with_reducible refine pm4 ?_ | with_reducible refine pm5 ?_ | with_reducible refine pm6 ?_ | with_reducible refine pm7 ?_ | with_reducible refine pm8 ?_ | with_reducible refine pm9 ?_ | with_reducible refine pm10 ?_ | with_reducible refine pm11 ?_ | with_reducible refine pm12 ?_ | with_reducible refine pm13 ?_)))) ?_))
          rintro _ h ⟨c', H⟩
          refine next h o ⟨a, c', ?_⟩
          rintro s2 rfl
          rw [mov2, if_neg hn, if_neg h0]
          exact (H.perm (rs' := bk y (Cm.c cc) :: cms o s1.2.1 :: bk m [a, b, c'] :: cms a s1.1 :: cms b s0.2.1 :: tgs c' (dm cc.1 s1.2.2) :: bk x r.c :: refS so reg rows :: rs) (by repeat (first | with_reducible exact List.Perm.refl _ | with_reducible refine pm0 ?_ | with_reducible refine pm1 ?_ | with_reducible refine pm2 ?_ | with_reducible refine pm3 ?_ | with_reducible refine pm4 ?_ | with_reducible refine pm5 ?_ | with_reducible refine pm6 ?_ | with_reducible refine pm7 ?_ | with_reducible refine pm8 ?_ | with_reducible refine pm9 ?_ | with_reducible refine pm10 ?_ | with_reducible refine pm11 ?_ | with_reducible refine pm12 ?_ | with_reducible refine pm13 ?_))).drop
      refine fa_s (fa_s (ld1S H (.string cc.2.1) rfl (bn_s (.bool (!decide (cc.2.1 = k))) (by simp [binV, strV, toList_beq]) ?_)))
      by_cases hk1 : cc.2.1 = k
      · rw [decide_eq_true hk1]
        refine gd_t (gd_t (bn_s (.bool (lk r.home r.cnt cc.2 == 1)) (by simp [binV, intV]) (pk_s (cn_s (fun he => ?_) fun he => ?_))))
        · exact stay (.inr (by simpa using he)) h H
        · exact go (by rintro (h1 | h1); exact h1 hk1; rw [h1] at he; simp at he) h H
      · rw [decide_eq_false hk1]
        exact gd_f (by simp) (gd_f (by simp) (pk_s (cn_t (stay (.inl hk1) h H))))
    · have : i = s0.2.1.length := by omega
      subst this
      rw [List.take_length] at hs1
      refine nc_s (fa_s (st1S H.p1 H.vecC (by simp) fun h H => ?_))
      rintro s2 rfl
      rw [e0, hs1]
      refine (Hs.refL.2 ⟨a, o, c, ?_⟩ : Hs h (refL m s1.1 s1.2.1 s1.2.2 :: refS so reg rows :: rs))
      have H : Hs h (bk m [a, o, c] :: cms o s1.2.1 :: cms a s1.1 :: cms b s0.2.1 :: tgs c s1.2.2 :: bk x r.c :: refS so reg rows :: rs) := H
      exact (H.perm (rs' := cms b s0.2.1 :: bk x r.c :: bk m [a, o, c] :: cms a s1.1 :: cms o s1.2.1 :: tgs c s1.2.2 :: refS so reg rows :: rs) (by repeat (first | with_reducible exact List.Perm.refl _ | with_reducible refine pm0 ?_ | with_reducible refine pm1 ?_ | with_reducible refine pm2 ?_ | with_reducible refine pm3 ?_ | with_reducible refine pm4 ?_ | with_reducible refine pm5 ?_ | with_reducible refine pm6 ?_ | with_reducible refine pm7 ?_ | with_reducible refine pm8 ?_ | with_reducible refine pm9 ?_ | with_reducible refine pm10 ?_ | with_reducible refine pm11 ?_ | with_reducible refine pm12 ?_ | with_reducible refine pm13 ?_))).drop.drop
end Go.Proofs.YtalknmdbamlabaaGreat.Q
