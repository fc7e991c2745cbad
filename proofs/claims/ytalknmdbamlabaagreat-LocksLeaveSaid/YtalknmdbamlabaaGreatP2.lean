/- Putting into, cloning and cutting slices that own their memory. Conditions: none. -/
import Derived.Test.YtalknmdbamlabaaGreatP1
import Derived.Laws.Externs
namespace Go.Proofs.YtalknmdbamlabaaGreat.Q
open Go
open SL (bk bkn mp old exS puS emS stS)
theorem Hs.bkn {h : Hp} {b : Nat} {cs : List Value} {rs : List SL} (H : Hs h (SL.bkn b cs :: rs)) : Hs h (bk b cs :: rs) :=
  H.imp fun F hF => ⟨hF.1, by obtain ⟨e, he⟩ := hF.2; exact ⟨e, (0, 0), he, fun i _ => by simp⟩⟩
theorem Hs.newN {h : Hp} {cs : Array Value} {e : TypeId} {rs : List SL} (H : Hs h rs) : Hs (h.push (.cells cs e)) (SL.bkn h.size cs.toList :: rs) := by
  have hn := New.mk' h cs e
  obtain ⟨F, H⟩ := H
  refine ⟨fun x => x = h.size ∨ F x, (· = h.size), F, fun x => Iff.rfl, fun x h1 h2 => ?_, ⟨fun x => Iff.rfl, e, by simp⟩, (sep rs).loc h _ F H hn.ext.size fun x hx => (hn.ext.same x ((sep rs).lt h F H x hx) id)⟩
  have := (sep rs).lt h F H x h2
  rw [h1] at this; exact Nat.lt_irrefl _ this
section
variable {P : Program} {h : Hp} {K : Value → A} {X Y : A} {rs : List SL}
theorem bslN {z : List Value} {e n : Nat} {ps : List (Nat × Nat × Value)} (H : Hs h rs) (cs : List Value) (hf : fill2 (rep z n) ps = some cs) (k : ∀ b h', Hs h' (bkn b cs :: rs) → K (sl b 0 n n) h') : bsl z e n ps K h :=
  ⟨cs, hf, k _ _ (by have := H.newN (cs := cs.toArray) (e := e); simpa using this)⟩
theorem slc0 {sz u n c b o : Nat} {hi : Option Value} (hu : bnd hi n u) (h2 : u ≤ c) (k : K (sl b o u c) h) : slc sz none hi none (sl b o n c) K h := by
  refine slc_s (l := 0) rfl hu (Nat.zero_le _) h2 ?_
  simpa using k
theorem slcL {sz l u n c b o : Nat} {hi : Option Value} (hu : bnd hi n u) (h1 : l ≤ u) (h2 : u ≤ c) (h3 : l < c) (k : K (sl b (o + l * sz) (u - l) (c - l)) h) : slc sz (some (vi l)) hi none (sl b o n c) K h := by
  refine slc_s (l := l) ⟨_, rfl⟩ hu h1 h2 ?_
  rw [if_neg (by omega)]; exact k
theorem slcN {sz : Nat} {lo hi : Option Value} (hl : bnd lo 0 0) (hu : bnd hi 0 0) (k : K nilS h) : slc sz lo hi none nilS K h :=
  ⟨none, 0, 0, 0, 0, 0, rfl, rfl, hu, hl, Nat.le_refl _, Nat.le_refl _, Nat.le_refl _, by simp, by simpa using k⟩
/-- a check of bounds alone. -/
theorem slcC {sz l u n c : Nat} {a : Option Addr} {lo hi : Option Value} (hl : bnd lo 0 l) (hu : bnd hi n u) (h1 : l ≤ u) (h2 : u ≤ c) (k : ∀ v, K v h) : slc sz lo hi none (.slice a n c) K h :=
  ⟨a, n, c, l, u, c, rfl, rfl, hu, hl, h1, h2, Nat.le_refl _, by simp, k _⟩
theorem Hs.blk2 {b b' : Nat} {cs cs' : List Value} (H : Hs h (bk b cs :: bk b' cs' :: rs)) : b ≠ b' := H.ne
theorem ovl {f t e : TypeId} {fn : Func} {i : TypeInfo} (hf : P.funcs[f]? = some fn) (hname : (fn.name == "runtime.NumGoroutine") = false) (hb : fn.body.isNone = true) (hn : Extern.findNext fn = none)
    (he : Extern.find fn = some (Extern.SlicesOverlaps.overlaps #[t, t] #[4])) (ht : P.underlying t = some (.slice e)) (hi : P.info? e = some i)
    {bx lx cx b o n c : Nat} {ce cs : List Value} (H : Hs h (bkn bx ce :: bk b cs :: rs)) (hne : cs ≠ []) (k : K (.bool false) h) : cl P f [sl bx 0 lx cx, sl b o n c] K h := by
  refine .inr fun w hw => ⟨.bool false, w, ?_, by rw [hw]; exact k, KW.refl _⟩
  rw [run_callFunc_extern hf hname hb hn he]
  subst hw
  obtain ⟨F, F1, F2, _, d, ⟨hF1, e1, hb1⟩, F3, F4, e', d', ⟨hF3, e2, fz, hb2, _⟩, H4⟩ := H
  have hbb : bx ≠ b := by intro he; exact d bx ((hF1 bx).2 rfl) ((e' bx).2 (.inl ((hF3 bx).2 he)))
  have s1 : w.shape? bx = some (e1, ce.length) := by simp [World.shape?, hb1]
  have s2 : w.shape? b = some (e2, cs.length) := by simp [World.shape?, hb2]
  have f1 : ∀ o, w.frozen? ⟨bx, o, none⟩ = false := by intro o; simp [World.frozen?, hb1]
  have hnb : (bx != b) = true := by simpa using hbb
  have hcl : ¬ cs.length = 0 := by simpa using hne
  have nv : ∀ (r o : Nat) q, w.shape? r = some q → (noView ⟨r, o, none⟩).run P w = .ok () w := by
    intro r o q hq
    simp only [noView, viewAt, Sem.run_bind, run_shape, hq, Result.andThen, Option.isSome, if_true, Sem.run_pure, Bool.false_eq_true, if_false]
  have sa : (stringish ⟨bx, 0, none⟩).run P w = .ok false w := by
    simp only [stringish, Sem.run_bind, run_shape, run_frozen, s1, f1, Result.andThen, Sem.run_pure, Bool.false_eq_true, if_false]
  have sb : ∃ x, (stringish ⟨b, o, none⟩).run P w = .ok x w := by
    simp only [stringish, Sem.run_bind, run_shape, run_frozen, Result.andThen]
    split
    · exact ⟨_, rfl⟩
    · simp only [Sem.run_bind, run_shape, s2, Result.andThen, run_frozen]; exact ⟨_, rfl⟩
  obtain ⟨x, sb⟩ := sb
  have mb : (mayBeOne ⟨bx, 0, none⟩ ⟨b, o, none⟩).run P w = .ok false w := by
    obtain ⟨m, hm⟩ := Nat.exists_eq_succ_of_ne_zero hcl
    rw [hm] at s2
    unfold mayBeOne
    simp only [Sem.run_bind, sa, sb, Result.andThen, run_shape, s1, s2, Sem.run_pure, Bool.false_and, Bool.false_or, Bool.and_false]
  show ((do
    let .slice elem ← underlying t | stuck "slices.overlaps: slice type expected"
    let size ← sizeOf elem
    if lx = 0 ∨ n = 0 ∨ size = 0 then pure (.bool false)
    else if bx != b && (← frozen ⟨bx, 0, none⟩) && (← frozen ⟨b, o, none⟩) then unsupported .addressObserved
    else do
      if bx != b then do
        noView ⟨bx, 0, none⟩; noView ⟨b, o, none⟩
        if ← mayBeOne ⟨bx, 0, none⟩ ⟨b, o, none⟩ then return .bool ((← choose (.extern "sameAddr.stringBytes" 2)) == 1)
      pure (.bool (bx == b && 0 < o + n * size && o < 0 + lx * size)) : Sem Value).run P w).andThen _ = _
  simp only [Sem.run_bind, run_und ht, Result.andThen, run_sz hi]
  by_cases hc : lx = 0 ∨ n = 0 ∨ i.size = 0
  · rw [if_pos hc]; rfl
  · have hbf : (bx == b) = false := by simpa using hbb
    rw [if_neg hc]
    simp only [Sem.run_bind, run_frozen, f1, Result.andThen, hnb, Bool.true_and, Bool.false_and, Bool.and_false, Bool.false_eq_true, if_false, if_true, nv _ _ _ s1, nv _ _ _ s2, mb, Sem.run_pure, hbf]
end
def CIns (P : Program) (zl : List Value) (by_ e t fo fr : Nat) (s_a0 i_a1 v_a2 : Value) (R : Value → A) : A :=
 slc zl.length (some i_a1) none none s_a0 fun v1 =>
 lnS v_a2 fun v2 =>
 bn .eql v2 (Value.int IntKind.i64 0) fun v3 =>
 cn v3
 (R s_a0)
 (lnS s_a0 fun v4 =>
 bn .eql i_a1 v4 fun v5 =>
 cn v5
 (apd zl by_ e s_a0 v_a2 fun v6 =>
  R v6)
 (bn .add v4 v2 fun v7 =>
 pp P (Builtin.cap_ #[t] 3 #[s_a0]) fun v8 =>
 bn .gtr v7 v8 fun v9 =>
 cn v9
 (slc zl.length none (some i_a1) none s_a0 fun v10 =>
  bn .add v4 v2 fun v11 =>
  bn .sub v11 i_a1 fun v12 =>
  ru P (Builtin.append_ #[t, 3] t #[v10, v12]) fun v13 =>
  slc zl.length (some i_a1) none none v13 fun v14 =>
  ru P (Builtin.copy_ #[t, t] 3 #[v14, v_a2]) fun v15 =>
  bn .add i_a1 v2 fun v16 =>
  slc zl.length (some v16) none none v13 fun v17 =>
  slc zl.length (some i_a1) none none s_a0 fun v18 =>
  ru P (Builtin.copy_ #[t, t] 3 #[v17, v18]) fun v19 =>
  R v13)
 (bn .add v4 v2 fun v20 =>
 slc zl.length none (some v20) none s_a0 fun v21 =>
 bn .add i_a1 v2 fun v22 =>
 slc zl.length (some v22) none none v21 fun v23 =>
 cl P fo [v_a2, v23] fun v24 =>
 un .not v24 fun v25 =>
 cn v25
 (bn .add i_a1 v2 fun v26 =>
  slc zl.length (some v26) none none v21 fun v27 =>
  slc zl.length (some i_a1) none none v21 fun v28 =>
  ru P (Builtin.copy_ #[t, t] 3 #[v27, v28]) fun v29 =>
  slc zl.length (some i_a1) none none v21 fun v30 =>
  ru P (Builtin.copy_ #[t, t] 3 #[v30, v_a2]) fun v31 =>
  R v21)
 (slc zl.length (some v4) none none v21 fun v32 =>
 ru P (Builtin.copy_ #[t, t] 3 #[v32, v_a2]) fun v33 =>
 slc zl.length (some i_a1) none none v21 fun v34 =>
 cl P fr [v34, v2] fun v35 =>
 R v21))))
theorem C424_eq : C424 = CIns Tryz.prog [.string ⟨#[]⟩, .bool false, nilS, vi 0, vu 0] 64 506 400 449 450 := rfl
theorem C425_eq : C425 = CIns Tryz.prog [.pointer none] 8 399 401 451 452 := rfl
theorem splice_mid (A B vs : List Value) : splice (A ++ B) A.length vs = A ++ vs ++ B.drop vs.length := by
  unfold splice; rw [List.take_left, List.drop_length_add_append]
theorem splice_mid' {A B vs : List Value} {n : Nat} (h : A.length = n) : splice (A ++ B) n vs = A ++ vs ++ B.drop vs.length := h ▸ splice_mid A B vs
/-- what a type is, for slices of it. -/
structure El (P : Program) (zl : List Value) (by_ e t : Nat) : Prop where
  ht : P.underlying t = some (.slice e)
  inf : ∃ i zv, P.info? e = some i ∧ i.zero = some zv ∧ zv.cells = zl.toArray ∧ i.size = zl.length ∧ i.bytes = by_
  z0 : zl ≠ []
  z1 : ∀ u ∈ zl, oneC u = true
structure Ov (P : Program) (t f : Nat) : Prop where
  h : ∃ fn, P.funcs[f]? = some fn ∧ (fn.name == "runtime.NumGoroutine") = false ∧ fn.body.isNone = true ∧ Extern.findNext fn = none ∧ Extern.find fn = some (Extern.SlicesOverlaps.overlaps #[t, t] #[4])
section
variable {P : Program} {h : Hp} {rs : List SL}
theorem slcVc {z i sz : Nat} {s : Value} {es : List (List Value)} {K : Value → A} (H : Hs h (vec z s es :: rs)) (hi : i ≤ es.length) (k : ∀ v, K v h) : slc sz (some (vi i)) none none s K h := by
  rcases H.vec with ⟨rfl, rfl, _⟩ | ⟨b, c, tl, rfl, hv, _⟩
  · have : i = 0 := by simpa using hi
    subst this
    exact slcC (l := 0) (u := 0) ⟨_, rfl⟩ rfl (Nat.le_refl _) (Nat.le_refl _) k
  · exact slcC (l := i) (u := es.length) ⟨_, rfl⟩ rfl hi hv.cap k
theorem insC {zl : List Value} {by_ e t fo fr : Nat} (E : El P zl by_ e t) (hint : P.underlying 3 = some (.int .i64)) (O : Ov P t fo) {s : Value} {es : List (List Value)} {bx : Nat} {x : List Value} {i : Nat} {R : Value → A}
    (H : Hs h (vec zl.length s es :: bkn bx x :: rs)) (hxl : x.length = zl.length) (hx1 : ∀ u ∈ x, oneC u = true) (hi : i ≤ es.length) (hb : (es.length + 1) * by_ ≤ 140737488355328) (hb' : es.length ≤ 1152921504606846976)
    (k : ∀ s' h', Hs h' (vec zl.length s' (es.take i ++ x :: es.drop i) :: bkn bx x :: rs) → R s' h') : CIns P zl by_ e t fo fr s (vi i) (sl bx 0 1 1) R h := by
  obtain ⟨ti, zv, hti, hzv, hzc, hsz, hby⟩ := E.inf
  have z0 : 0 < zl.length := List.length_pos_iff.2 E.z0
  unfold CIns
  have hmem : ∀ e' ∈ es, e'.length = zl.length := H.vecLen
  have fl := flat_len hmem
  refine slcVc H hi fun v1 => ?_
  refine lnS_s (bn_s (.bool false) rfl (cn_f (lnV H (bn_s (.bool (decide ((i : Int) = es.length))) ?_ (cn_s (fun hc => ?_) fun hc => ?_)))))
  · simp [binV, intV]; rfl
  · simp only [decide_eq_true_eq] at hc
    have hie : i = es.length := by omega
    subst hie
    refine apV (new := [x]) H E.z1 ?_ (by simpa using hxl) (by simpa using hx1) (by simpa using hb) (by simp; omega) fun s' h' H' => k s' h' (by simpa using H')
    have := srcRd (b := bx) (o := 0) (n := 1) (c := 1) (sz := zl.length) (H.p1.bkn.blk.rd) (by simpa using hxl)
    simpa using this
  · simp only [decide_eq_false_iff_not] at hc
    have hil : i < es.length := by omega
    obtain ⟨b, c, tl, rfl, hv, H⟩ := H.vecW hil
    have hroom := hv.room
    have hcap := hv.cap
    have hrep := fun n => rep_len zl n
    have hA : (es.take i).flatten.length = i * zl.length := by
      rw [flat_len fun e' he => hmem e' (List.mem_of_mem_take he), List.length_take, Nat.min_eq_left hi]
    have hD : (es.drop i).flatten.length = (es.length - i) * zl.length := by
      rw [flat_len fun e' he => hmem e' (List.mem_of_mem_drop he), List.length_drop]
    have hrdD : ∀ {h : Hp} {rs : List SL}, Hs h (bk b (es.flatten ++ tl) :: rs) → Rd h b (0 + i * zl.length) (es.drop i).flatten := by
      intro h rs H
      have hle : i * zl.length ≤ es.length * zl.length := Nat.mul_le_mul_right _ hi
      rw [Nat.zero_add]
      refine H.blk.rdAt _ _ ?_ ?_
      · rw [hD, List.length_append, fl, ← Nat.add_mul]
        have : (i + (es.length - i)) = es.length := by omega
        rw [this]; omega
      · rw [List.drop_append_of_le_length (by rw [fl]; exact hle), flat_drop i hmem, List.take_left]
    refine bn_s (vi (es.length + 1 : Nat)) ?_ (capS E.ht (bn_s (.bool (decide (c < es.length + 1))) ?_ (cn_s (fun hc2 => ?_) fun hc2 => ?_)))
    · simp only [binV, intV, if_true]; rw [w64_id (by omega) (by omega)]; rfl
    · simp only [binV, intV, if_true]; congr 2; exact decide_eq_decide.2 (by omega)
    · simp only [decide_eq_true_eq] at hc2
      refine slc0 ⟨_, rfl⟩ (by omega) (bn_s (vi (es.length + 1 : Nat)) ?_ (bn_s (vi (es.length + 1 - i : Nat)) ?_ ?_))
      · simp only [binV, intV, if_true]; rw [w64_id (by omega) (by omega)]; rfl
      · simp only [binV, intV, if_true]; rw [w64_id (by omega) (by omega)]; congr 2; omega
      have hA' : ((es.take i).flatten).length = i * zl.length := hA
      refine apM (len := i) (n := es.length + 1 - i) (vs := (es.take i).flatten) E.ht hint hti hzv hzc E.z0 hsz (by omega) ?_ (by omega) H ?_ hA ?_
      · rw [hby, show i + (es.length + 1 - i) = es.length + 1 from by omega]; exact hb
      · refine H.blk.rdAt 0 _ ?_ ?_
        · rw [hA, List.length_append, fl]; have : i * zl.length ≤ es.length * zl.length := Nat.mul_le_mul_right _ hi; omega
        · rw [List.drop_zero, hA, ← flat_take i hmem, List.take_append_of_le_length (by rw [fl]; exact Nat.mul_le_mul_right _ hi)]
      intro b' c' h' hc' H'
      rw [show i + (es.length + 1 - i) = es.length + 1 from by omega] at *
      refine slcL (l := i) rfl (by omega) (by omega) (by omega) ?_
      rw [Nat.zero_add]
      have hB : (rep zl (es.length + 1 - i) ++ rep zl (c' - (es.length + 1))).length = (c' - i) * zl.length := by
        rw [List.length_append, hrep, hrep, ← Nat.add_mul]; congr 1; omega
      have hz1 : zl.length ≤ (c' - i) * zl.length := by
        have := Nat.mul_le_mul_right zl.length (show 1 ≤ c' - i by omega); omega
      refine cpS (i := ti) (vs := x) E.ht hti H' ?_ ?_ ?_ hx1 fun h2 H2 => ?_
      · have := H'.p2.bkn.blk.rd; exact this
      · rw [hsz, show min 1 (es.length + 1 - i) = 1 from by omega, Nat.one_mul]; exact hxl
      · rw [List.append_assoc, List.length_append, hA, hB, hxl]; omega
      rw [List.append_assoc, splice_mid' hA] at H2
      refine bn_s (vi (i + 1 : Nat)) ?_ (slcL (l := i + 1) rfl (by omega) (by omega) (by omega) (slcL (l := i) rfl hi hcap (by omega) ?_))
      · simp only [binV, intV, if_true]; rw [w64_id (by omega) (by omega)]; rfl
      have hAx : ((es.take i).flatten ++ x).length = 0 + (i + 1) * zl.length := by rw [List.length_append, hA, hxl, Nat.add_mul]; omega
      refine cpS (i := ti) (vs := (es.drop i).flatten) E.ht hti H2 (hrdD H2.p1) ?_ ?_ ?_ fun h3 H3 => ?_
      · rw [hD, hsz]; congr 1; omega
      · rw [hD, List.length_append, hAx, List.length_drop, hB, hxl]
        have : (es.length - i) * zl.length + zl.length ≤ (c' - i) * zl.length := by
          have := Nat.mul_le_mul_right zl.length (show es.length - i + 1 ≤ c' - i by omega); rwa [Nat.add_mul, Nat.one_mul] at this
        omega
      · intro u hu; obtain ⟨e', he', hu⟩ := List.mem_flatten.1 hu; exact hv.ones e' (List.mem_of_mem_drop he') u hu
      rw [splice_mid' hAx] at H3
      have hes : (es.take i).flatten ++ x ++ (es.drop i).flatten = (es.take i ++ x :: es.drop i).flatten := by simp
      rw [hes] at H3
      have hlen : (es.take i ++ x :: es.drop i).length = es.length + 1 := by simp; omega
      have hv' : VOk zl.length (es.take i ++ x :: es.drop i) c' (List.drop (es.drop i).flatten.length (List.drop x.length (rep zl (es.length + 1 - i) ++ rep zl (c' - (es.length + 1))))) := by
        refine ⟨?_, ?_, by rw [hlen]; exact hc', ?_⟩
        · intro e' he; rcases List.mem_append.1 he with he | he
          · exact hmem e' (List.mem_of_mem_take he)
          · rcases List.mem_cons.1 he with rfl | he
            · exact hxl
            · exact hmem e' (List.mem_of_mem_drop he)
        · intro e' he; rcases List.mem_append.1 he with he | he
          · exact hv.ones e' (List.mem_of_mem_take he)
          · rcases List.mem_cons.1 he with rfl | he
            · exact hx1
            · exact hv.ones e' (List.mem_of_mem_drop he)
        · rw [hlen, List.length_drop, List.length_drop, hB, hD, hxl]
          have e1 : (c' - i) * zl.length = c' * zl.length - i * zl.length := Nat.mul_sub_right_distrib ..
          have e2 : (es.length - i) * zl.length = es.length * zl.length - i * zl.length := Nat.mul_sub_right_distrib ..
          have e3 : i * zl.length ≤ es.length * zl.length := Nat.mul_le_mul_right _ hi
          have e4 : (es.length + 1) * zl.length ≤ c' * zl.length := Nat.mul_le_mul_right _ hc'
          rw [Nat.add_mul, Nat.one_mul] at e4 ⊢
          omega
      have := Hs.vec1 hv' H3
      rw [hlen] at this
      exact k _ _ this.p1.drop
    · simp only [decide_eq_false_iff_not] at hc2
      have hc' : es.length + 1 ≤ c := by omega
      obtain ⟨fn, o1, o2, o3, o4, o5⟩ := O.h
      have hle : i * zl.length ≤ es.length * zl.length := Nat.mul_le_mul_right _ hi
      have hle1 : (es.length + 1) * zl.length ≤ c * zl.length := Nat.mul_le_mul_right _ hc'
      rw [Nat.add_mul, Nat.one_mul] at hle1
      have e2 : (es.length - i) * zl.length = es.length * zl.length - i * zl.length := Nat.mul_sub_right_distrib ..
      have e5 : i * zl.length + zl.length ≤ es.length * zl.length := by
        have := Nat.mul_le_mul_right zl.length (show i + 1 ≤ es.length by omega); rwa [Nat.add_mul, Nat.one_mul] at this
      refine bn_s (vi (es.length + 1 : Nat)) ?_ (slc0 ⟨_, rfl⟩ hc' (bn_s (vi (i + 1 : Nat)) ?_ (slcL (l := i + 1) rfl (by omega) hc' (by omega) ?_)))
      · simp only [binV, intV, if_true]; rw [w64_id (by omega) (by omega)]; rfl
      · simp only [binV, intV, if_true]; rw [w64_id (by omega) (by omega)]; rfl
      refine ovl o1 o2 o3 o4 o5 E.ht hti (bx := bx) (ce := x) (b := b) H.p1 ?_ ?_
      · intro he
        have := congrArg List.length he
        rw [List.length_append, fl, List.length_nil] at this; omega
      refine un_s (.bool true) rfl (cn_t (bn_s (vi (i + 1 : Nat)) ?_ (slcL (l := i + 1) rfl (by omega) hc' (by omega) (slcL (l := i) rfl (by omega) hc' (by omega) ?_))))
      · simp only [binV, intV, if_true]; rw [w64_id (by omega) (by omega)]; rfl
      have hsp : es.flatten ++ tl = ((es.take i).flatten ++ ((es.drop i).flatten ++ tl).take zl.length) ++ ((es.drop i).flatten ++ tl).drop zl.length := by
        rw [List.append_assoc, List.take_append_drop, ← List.append_assoc, ← List.flatten_append, List.take_append_drop]
      have hA1 : ((es.take i).flatten ++ ((es.drop i).flatten ++ tl).take zl.length).length = 0 + (i + 1) * zl.length := by
        rw [List.length_append, hA, List.length_take, List.length_append, hD, Nat.add_mul]; omega
      refine cpS (i := ti) (vs := (es.drop i).flatten) E.ht hti H (hrdD H) ?_ ?_ ?_ fun h2 H2 => ?_
      · rw [hD, hsz]; congr 1; omega
      · rw [hD, List.length_append, fl, Nat.add_mul]; omega
      · intro u hu; obtain ⟨e', he', hu⟩ := List.mem_flatten.1 hu; exact hv.ones e' (List.mem_of_mem_drop he') u hu
      rw [hsp, splice_mid' hA1] at H2
      refine slcL (l := i) rfl (by omega) hc' (by omega) ?_
      have hx2 : Rd h2 bx 0 x := H2.p1.bkn.blk.rd
      rw [List.append_assoc, List.append_assoc] at H2
      refine cpS (i := ti) (vs := x) E.ht hti H2 hx2 ?_ ?_ hx1 fun h3 H3 => ?_
      · rw [hsz, show min 1 (es.length + 1 - i) = 1 from by omega, Nat.one_mul]; exact hxl
      · rw [hxl, List.length_append, hA, List.length_append, List.length_take, List.length_append, hD]; omega
      rw [splice_mid' (by rw [hA]; omega)] at H3
      rw [List.drop_append_of_le_length (by rw [hxl, List.length_take, List.length_append, hD]; omega), List.drop_of_length_le (by rw [hxl, List.length_take]; omega), List.nil_append, ← List.append_assoc] at H3
      have hes : (es.take i).flatten ++ x ++ (es.drop i).flatten = (es.take i ++ x :: es.drop i).flatten := by simp
      rw [hes] at H3
      have hlen : (es.take i ++ x :: es.drop i).length = es.length + 1 := by simp; omega
      have hv' : VOk zl.length (es.take i ++ x :: es.drop i) c (List.drop (es.drop i).flatten.length (List.drop zl.length ((es.drop i).flatten ++ tl))) := by
        refine ⟨?_, ?_, by rw [hlen]; exact hc', ?_⟩
        · intro e' he; rcases List.mem_append.1 he with he | he
          · exact hmem e' (List.mem_of_mem_take he)
          · rcases List.mem_cons.1 he with rfl | he
            · exact hxl
            · exact hmem e' (List.mem_of_mem_drop he)
        · intro e' he; rcases List.mem_append.1 he with he | he
          · exact hv.ones e' (List.mem_of_mem_take he)
          · rcases List.mem_cons.1 he with rfl | he
            · exact hx1
            · exact hv.ones e' (List.mem_of_mem_drop he)
        · rw [hlen, List.length_drop, List.length_drop, List.length_append, hD, Nat.add_mul, Nat.one_mul]
          omega
      have := Hs.vec1 hv' H3
      rw [hlen] at this
      exact k _ _ this
theorem slcC3 {sz l u m n c : Nat} {a : Option Addr} {lo hi mx : Option Value} {K : Value → A} (hm : bnd mx c m) (hl : bnd lo 0 l) (hu : bnd hi n u) (h1 : l ≤ u) (h2 : u ≤ m) (h3 : m ≤ c) (h4 : hi.isSome = true) (k : ∀ v, K v h) : slc sz lo hi mx (.slice a n c) K h :=
  ⟨a, n, c, l, u, m, rfl, hm, hu, hl, h1, h2, h3, fun _ => h4, k _⟩
end
def CDel (P : Program) (zl : List Value) (by_ e t : Nat) (s_a0 i_a1 j_a2 : Value) (R : Value → A) : A :=
 lnS s_a0 fun v1 =>
 slc zl.length (some i_a1) (some j_a2) (some v1) s_a0 fun v2 =>
 bn .eql i_a1 j_a2 fun v3 =>
 cn v3
 (R s_a0)
 (lnS s_a0 fun v4 =>
 slc zl.length none (some i_a1) none s_a0 fun v5 =>
 slc zl.length (some j_a2) none none s_a0 fun v6 =>
 apd zl by_ e v5 v6 fun v7 =>
 lnS v7 fun v8 =>
 slc zl.length (some v8) (some v4) none v7 fun v9 =>
 ru P (Builtin.clear_ #[t] 0 #[v9]) fun v10 =>
 R v7)
def CClo (P : Program) (zl : List Value) (by_ e t : Nat) (s_a0 : Value) (R : Value → A) : A :=
 be P t false s_a0 (Value.slice none 0 0) fun v1 =>
 cn v1
 (R (Value.slice none 0 0))
 (bsl zl e 0 [] fun v2 =>
 apd zl by_ e v2 s_a0 fun v3 =>
 R v3)
theorem C421_eq : C421 = CDel Tryz.prog [.string ⟨#[]⟩, .bool false, nilS, vi 0, vu 0] 64 506 400 := rfl
theorem C448_eq : C448 = CDel Tryz.prog [.pointer none] 8 399 401 := rfl
theorem C426_eq : C426 = CClo Tryz.prog [.string ⟨#[]⟩, .bool false, nilS, vi 0, vu 0] 64 506 400 := rfl
theorem C427_eq : C427 = CClo Tryz.prog [.pointer none] 8 399 401 := rfl
section
variable {P : Program} {h : Hp} {rs : List SL}
theorem cloC {zl : List Value} {by_ e t : Nat} (E : El P zl by_ e t) {a : Option Addr} {n c : Nat} {new : List (List Value)} {R : Value → A} (H : Hs h rs)
    (hs : srcOf h zl.length (.slice a n c) = some (new.length, new.flatten)) (hl : ∀ e ∈ new, e.length = zl.length) (h1 : ∀ e ∈ new, ∀ u ∈ e, oneC u = true) (hb : new.length * by_ ≤ 140737488355328) (hb' : new.length ≤ 1152921504606846976)
    (k : ∀ s' h', Hs h' (vec zl.length s' new :: rs) → R s' h') : CClo P zl by_ e t (.slice a n c) R h := by
  unfold CClo
  cases a with
  | none =>
    refine beS E.ht (cn_t ?_)
    have : new = [] := by
      simp only [srcOf] at hs
      split at hs
      · simp at hs; exact List.eq_nil_of_length_eq_zero (by omega)
      · cases hs
    subst this
    exact k _ _ (Hs.vec0 H)
  | some a =>
    refine beS E.ht (cn_f (bsl_s [] rfl fun h' b hn => ?_))
    have H0 := H.new hn
    have hv : VOk zl.length [] 0 [] := ⟨by simp, by simp, by simp, by simp⟩
    have H1 : Hs h' (vec zl.length (sl b 0 0 0) [] :: rs) := Hs.vec1 hv H0
    refine apV (new := new) H1 E.z1 ?_ hl h1 (by simpa using hb) (by simp; omega) fun s' h' H' => k s' h' (by simpa using H')
    -- the source is as it was
    have hcel : ∀ a v, cel h a = some v → cel h' a = some v := by
      intro a v hc
      have hlt : a.block < h.size := by
        unfold cel at hc; split at hc
        · rename_i heq; exact lt_of_get heq
        · cases hc
      unfold cel at hc ⊢
      rw [hn.ext.same _ hlt id]; exact hc
    have hcels : ∀ n i vs, cels h a i n = some vs → cels h' a i n = some vs := by
      intro n
      induction n with
      | zero => intro i vs hv; exact hv
      | succ n ih =>
        intro i vs hv
        simp only [cels] at hv ⊢
        split at hv
        · rename_i v hc
          rw [hcel _ _ hc]
          obtain ⟨vs', h1, rfl⟩ := Option.map_eq_some_iff.1 hv
          simp only [ih _ _ h1, Option.map_some]
        · cases hv
    simp only [srcOf, Option.map_eq_some_iff] at hs ⊢
    obtain ⟨l, h1, h2⟩ := hs
    exact ⟨l, hcels _ _ _ h1, h2⟩
theorem delC {zl : List Value} {by_ e t : Nat} (E : El P zl by_ e t) {s : Value} {es : List (List Value)} {i j : Nat} {R : Value → A} (H : Hs h (vec zl.length s es :: rs))
    (hij : i ≤ j) (hj : j ≤ es.length) (hb' : es.length ≤ 1152921504606846976)
    (k : ∀ s' h', Hs h' (vec zl.length s' (es.take i ++ es.drop j) :: rs) → R s' h') : CDel P zl by_ e t s (vi i) (vi j) R h := by
  obtain ⟨ti, zv, hti, hzv, hzc, hsz, hby⟩ := E.inf
  have z0 : 0 < zl.length := List.length_pos_iff.2 E.z0
  unfold CDel
  refine lnV H ?_
  have chk : ∀ K : Value → A, (∀ v, K v h) → slc zl.length (some (vi i)) (some (vi j)) (some (vi es.length)) s K h := by
    intro K hK
    rcases H.vec with ⟨rfl, rfl, _⟩ | ⟨b, c, tl, rfl, hv, _⟩
    · exact slcC3 (l := i) (u := j) (m := 0) ⟨_, rfl⟩ ⟨_, rfl⟩ ⟨_, rfl⟩ hij (by simpa using hj) (Nat.le_refl _) rfl hK
    · exact slcC3 (l := i) (u := j) (m := es.length) ⟨_, rfl⟩ ⟨_, rfl⟩ ⟨_, rfl⟩ hij hj hv.cap rfl hK
  refine chk _ fun v2 => bn_s (.bool (decide ((i : Int) = j))) ?_ (cn_s (fun hc => ?_) fun hc => ?_)
  · simp [binV, intV]; rfl
  · simp only [decide_eq_true_eq] at hc
    have : j = i := by omega
    subst this
    exact k s h (by rw [List.take_append_drop]; exact H)
  · simp only [decide_eq_false_iff_not] at hc
    obtain ⟨b, c, tl, rfl, hv, H⟩ := H.vecW (i := i) (by omega)
    have hroom := hv.room
    have hcap := hv.cap
    have hmem := hv.lens
    have fl := flat_len hmem
    have hA : (es.take i).flatten.length = i * zl.length := by
      rw [flat_len fun e' he => hmem e' (List.mem_of_mem_take he), List.length_take, Nat.min_eq_left (by omega)]
    have hD : (es.drop j).flatten.length = (es.length - j) * zl.length := by
      rw [flat_len fun e' he => hmem e' (List.mem_of_mem_drop he), List.length_drop]
    have hDi : (es.drop i).flatten.length = (es.length - i) * zl.length := by
      rw [flat_len fun e' he => hmem e' (List.mem_of_mem_drop he), List.length_drop]
    have e1 : (es.length - j) * zl.length = es.length * zl.length - j * zl.length := Nat.mul_sub_right_distrib ..
    have e2 : i * zl.length + zl.length ≤ j * zl.length := by
      have := Nat.mul_le_mul_right zl.length (show i + 1 ≤ j by omega); rwa [Nat.add_mul, Nat.one_mul] at this
    have e3 : j * zl.length ≤ es.length * zl.length := Nat.mul_le_mul_right _ hj
    have e4 : (es.length - i) * zl.length = es.length * zl.length - i * zl.length := Nat.mul_sub_right_distrib ..
    have ones : ∀ u ∈ (es.drop j).flatten, oneC u = true := by
      intro u hu; obtain ⟨e', he', hu⟩ := List.mem_flatten.1 hu; exact hv.ones e' (List.mem_of_mem_drop he') u hu
    have hsrc : ∃ a' c', (∀ K : Value → A, K (.slice a' (es.length - j) c') h → slc zl.length (some (vi j)) none none (sl b 0 es.length c) K h) ∧ srcOf h zl.length (.slice a' (es.length - j) c') = some (es.length - j, (es.drop j).flatten) := by
      by_cases hjc : j < c
      · refine ⟨some ⟨b, 0 + j * zl.length, none⟩, c - j, fun K hK => slcL (l := j) rfl hj hcap hjc hK, srcRd (H.blk.rdAt _ _ ?_ ?_) hD⟩
        · rw [hD, List.length_append, fl]; omega
        · rw [Nat.zero_add, List.drop_append_of_le_length (by rw [fl]; exact e3), flat_drop j hmem, List.take_left]
      · have hje : j = es.length := by omega
        refine ⟨some ⟨b, 0, none⟩, c - j, fun K hK => slc_s (l := j) (u := es.length) ⟨_, rfl⟩ rfl hj hcap (by rw [if_pos (by omega)]; exact hK), ?_⟩
        have h0 : (es.drop j).flatten = [] := by rw [hje]; simp
        have h00 : es.length - j = 0 := by omega
        rw [h0, h00]
        show (cels h _ 0 (0 * zl.length)).map _ = _
        rw [Nat.zero_mul]; rfl
    obtain ⟨a', c', hslc, hsrc⟩ := hsrc
    refine lnS_s (slc0 ⟨_, rfl⟩ (by omega) (hslc _ ?_))
    obtain ⟨h', h2, h3⟩ := Blk.stcs (b := b) (o := i * zl.length) (es.drop j).flatten 0 h _ H.blk (by rw [hD, List.length_append, fl]; omega) ones
    refine ⟨some ⟨b, 0, none⟩, i, c, es.length - j, (es.drop j).flatten, rfl, hsrc, fun _ => ⟨fun hh => (by cases hh), fun a ha => ?_⟩, fun hlt => absurd hlt (by omega)⟩
    cases ha
    refine ⟨h', by rw [add_mk, Nat.zero_add]; exact h2, ?_⟩
    have H1 := H.upd h3
    rw [Nat.add_zero] at H1
    have hsp : es.flatten ++ tl = (es.take i).flatten ++ ((es.drop i).flatten ++ tl) := by
      rw [← List.append_assoc, ← List.flatten_append, List.take_append_drop]
    rw [hsp, splice_mid' hA] at H1
    have hAD : ((es.take i).flatten ++ (es.drop j).flatten).length = 0 + (i + (es.length - j)) * zl.length := by rw [List.length_append, hA, hD, Nat.zero_add, Nat.add_mul]
    have e5 : (es.length - (i + (es.length - j))) * zl.length = j * zl.length - i * zl.length := by
      rw [show es.length - (i + (es.length - j)) = j - i from by omega]; exact Nat.mul_sub_right_distrib ..
    refine lnS_s (slcL (l := i + (es.length - j)) ⟨_, rfl⟩ (by omega) hcap (by omega) ?_)
    refine clrS E.ht hti hzv hzc E.z0 H1 ?_ (rep_one zl E.z1 _) (rep_len zl _) fun h4 H4 => ?_
    · rw [e5, List.length_append, hAD, List.length_drop, hD, List.length_append, hDi, Nat.zero_add, Nat.add_mul]; omega
    rw [splice_mid' hAD] at H4
    rw [← List.flatten_append, List.append_assoc] at H4
    have hlen : (es.take i ++ es.drop j).length = i + (es.length - j) := by simp; omega
    have hv' := Hs.vec1 (z := zl.length) (es := es.take i ++ es.drop j) (c := c) (h := h4) (rs := rs) (b := b) ?_ H4
    · rw [hlen] at hv'; exact k _ _ hv'
    · refine ⟨?_, ?_, by rw [hlen]; omega, ?_⟩
      · intro e' he; rcases List.mem_append.1 he with he | he
        · exact hmem e' (List.mem_of_mem_take he)
        · exact hmem e' (List.mem_of_mem_drop he)
      · intro e' he; rcases List.mem_append.1 he with he | he
        · exact hv.ones e' (List.mem_of_mem_take he)
        · exact hv.ones e' (List.mem_of_mem_drop he)
      · rw [hlen, List.length_append, rep_len, e5, List.length_drop, List.length_drop, hD, List.length_append, hDi, Nat.add_mul]; omega
end
theorem El506 : El Tryz.prog [.string ⟨#[]⟩, .bool false, nilS, vi 0, vu 0] 64 506 400 :=
  ⟨by kernel_rfl, ⟨_, _, (by kernel_rfl : Tryz.prog.info? 506 = some (Tryz.prog.info? 506).get!), (by kernel_rfl : _ = some (.agg #[.string ⟨#[]⟩, .bool false, nilS, vi 0, vu 0])), rfl, by kernel_rfl, by kernel_rfl⟩, by simp, by simp [oneC]⟩
theorem El399 : El Tryz.prog [.pointer none] 8 399 401 :=
  ⟨by kernel_rfl, ⟨_, _, (by kernel_rfl : Tryz.prog.info? 399 = some (Tryz.prog.info? 399).get!), (by kernel_rfl : _ = some (.pointer none)), rfl, by kernel_rfl, by kernel_rfl⟩, by simp, by simp [oneC]⟩
theorem und3 : Tryz.prog.underlying 3 = some (.int .i64) := by kernel_rfl
theorem Ov400 : Ov Tryz.prog 400 449 := ⟨_, Tryz.func449, by kernel_rfl, by kernel_rfl, by kernel_rfl, by kernel_rfl⟩
theorem Ov401 : Ov Tryz.prog 401 451 := ⟨_, Tryz.func451, by kernel_rfl, by kernel_rfl, by kernel_rfl, by kernel_rfl⟩
section
variable {h : Hp} {rs : List SL}
theorem s424 {s : Value} {es : List (List Value)} {bx : Nat} {x : List Value} {i : Nat} (H : Hs h (vec 5 s es :: bkn bx x :: rs)) (hxl : x.length = 5) (hx1 : ∀ u ∈ x, oneC u = true) (hi : i ≤ es.length) (hb' : es.length ≤ 1000000) :
    FnW Tryz.prog 424 #[s, vi i, sl bx 0 1 1] (fun s' h' => Hs h' (vec 5 s' (es.take i ++ x :: es.drop i) :: rs)) h :=
  c424 (by rw [C424_eq]; exact insC (zl := [.string ⟨#[]⟩, .bool false, nilS, vi 0, vu 0]) El506 und3 Ov400 H hxl hx1 hi (by omega) (by omega) fun s' h' H' => H'.p1.drop)
theorem s425 {s : Value} {es : List (List Value)} {bx : Nat} {x : List Value} {i : Nat} (H : Hs h (vec 1 s es :: bkn bx x :: rs)) (hxl : x.length = 1) (hx1 : ∀ u ∈ x, oneC u = true) (hi : i ≤ es.length) (hb' : es.length ≤ 1000000) :
    FnW Tryz.prog 425 #[s, vi i, sl bx 0 1 1] (fun s' h' => Hs h' (vec 1 s' (es.take i ++ x :: es.drop i) :: rs)) h :=
  c425 (by rw [C425_eq]; exact insC (zl := [.pointer none]) El399 und3 Ov401 H hxl hx1 hi (by omega) (by omega) fun s' h' H' => H'.p1.drop)
theorem s426 {a : Option Addr} {n c : Nat} {new : List (List Value)} (H : Hs h rs) (hs : srcOf h 5 (.slice a n c) = some (new.length, new.flatten)) (hl : ∀ e ∈ new, e.length = 5) (h1 : ∀ e ∈ new, ∀ u ∈ e, oneC u = true) (hb' : new.length ≤ 1000000) :
    FnW Tryz.prog 426 #[.slice a n c] (fun s' h' => Hs h' (vec 5 s' new :: rs)) h :=
  c426 (by rw [C426_eq]; exact cloC (zl := [.string ⟨#[]⟩, .bool false, nilS, vi 0, vu 0]) El506 H hs hl h1 (by omega) (by omega) fun s' h' H' => H')
theorem s427 {a : Option Addr} {n c : Nat} {new : List (List Value)} (H : Hs h rs) (hs : srcOf h 1 (.slice a n c) = some (new.length, new.flatten)) (hl : ∀ e ∈ new, e.length = 1) (h1 : ∀ e ∈ new, ∀ u ∈ e, oneC u = true) (hb' : new.length ≤ 1000000) :
    FnW Tryz.prog 427 #[.slice a n c] (fun s' h' => Hs h' (vec 1 s' new :: rs)) h :=
  c427 (by rw [C427_eq]; exact cloC (zl := [.pointer none]) El399 H hs hl h1 (by omega) (by omega) fun s' h' H' => H')
theorem s421 {s : Value} {es : List (List Value)} {i j : Nat} (H : Hs h (vec 5 s es :: rs)) (hij : i ≤ j) (hj : j ≤ es.length) (hb' : es.length ≤ 1000000) :
    FnW Tryz.prog 421 #[s, vi i, vi j] (fun s' h' => Hs h' (vec 5 s' (es.take i ++ es.drop j) :: rs)) h :=
  c421 (by rw [C421_eq]; exact delC (zl := [.string ⟨#[]⟩, .bool false, nilS, vi 0, vu 0]) El506 H hij hj (by omega) fun s' h' H' => H')
theorem s448 {s : Value} {es : List (List Value)} {i j : Nat} (H : Hs h (vec 1 s es :: rs)) (hij : i ≤ j) (hj : j ≤ es.length) (hb' : es.length ≤ 1000000) :
    FnW Tryz.prog 448 #[s, vi i, vi j] (fun s' h' => Hs h' (vec 1 s' (es.take i ++ es.drop j) :: rs)) h :=
  c448 (by rw [C448_eq]; exact delC (zl := [.pointer none]) El399 H hij hj (by omega) fun s' h' H' => H')
end
end Go.Proofs.YtalknmdbamlabaaGreat.Q
