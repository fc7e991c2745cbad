/- IndexFunc, ContainsFunc, DeleteFunc of slices. Conditions: none. -/
import Derived.Test.YtalknmdbamlabaaGreatP10
namespace Go.Proofs.YtalknmdbamlabaaGreat.Q
open Go
open SL (bk bkn mp old it exS puS emS stS)
def CIdxN (P : Program) (z : Nat) (s_a0 f_a1 : Value) (R : Value → A) : A :=
 lnS s_a0 fun v1 =>
 lp 1 (fun _ nx2 v3 =>
 bn .lss v3 v1 fun v4 =>
  cn v4
  (ixs z s_a0 v3 fun v5 =>
  ldn z v5 fun v6 =>
  CV P f_a1 [v6] fun v7 =>
  cn v7
  (R v3)
  (bn .add v3 (Value.int IntKind.i64 1) fun v8 =>
  nx2 v8))
  (R (Value.int IntKind.i64 (-1)))) [Value.int IntKind.i64 0]
def CIdx1 (P : Program) (s_a0 f_a1 : Value) (R : Value → A) : A :=
 lnS s_a0 fun v1 =>
 lp 1 (fun _ nx2 v3 =>
 bn .lss v3 v1 fun v4 =>
  cn v4
  (ixs 1 s_a0 v3 fun v5 =>
  ld1 v5 fun v6 =>
  CV P f_a1 [v6] fun v7 =>
  cn v7
  (R v3)
  (bn .add v3 (Value.int IntKind.i64 1) fun v8 =>
  nx2 v8))
  (R (Value.int IntKind.i64 (-1)))) [Value.int IntKind.i64 0]
def CDelN (P : Program) (zl : List Value) (z fi et ty : Nat) (s_a0 del_a1 : Value) (R : Value → A) : A :=
 cl P fi [s_a0, del_a1] fun v1 =>
 bn .eql v1 (Value.int IntKind.i64 (-1)) fun v2 =>
 cn v2
 (R s_a0)
 (bn .add v1 (Value.int IntKind.i64 1) fun v3 =>
 lp 2 (fun _ nx4 i_5 j_6 =>
 lnS s_a0 fun v7 =>
  bn .lss j_6 v7 fun v8 =>
  cn v8
  (jn 1 (fun k9 =>
  ixs z s_a0 j_6 fun v10 =>
   ldn z v10 fun v11 =>
   al zl et fun v_12 =>
   st z v_12 v11 <|
   ldn z v_12 fun v13 =>
   CV P del_a1 [v13] fun v14 =>
   un .not v14 fun v15 =>
   cn v15
   (ldn z v_12 fun v16 =>
    ixs z s_a0 i_5 fun v17 =>
    st z v17 v16 <|
    bn .add i_5 (Value.int IntKind.i64 1) fun v18 =>
    k9 v18)
   (k9 i_5))
  (fun _ i_19 =>
  bn .add j_6 (Value.int IntKind.i64 1) fun v20 =>
  nx4 i_19 v20))
  (slc z (some i_5) none none s_a0 fun v21 =>
 ru P (Builtin.clear_ #[ty] 0 #[v21]) fun v22 =>
 slc z none (some i_5) none s_a0 fun v23 =>
 R v23)) [v1, v3])
def CDel1 (P : Program) (fi ty : Nat) (s_a0 del_a1 : Value) (R : Value → A) : A :=
 cl P fi [s_a0, del_a1] fun v1 =>
 bn .eql v1 (Value.int IntKind.i64 (-1)) fun v2 =>
 cn v2
 (R s_a0)
 (bn .add v1 (Value.int IntKind.i64 1) fun v3 =>
 lp 2 (fun _ nx4 i_5 j_6 =>
 lnS s_a0 fun v7 =>
  bn .lss j_6 v7 fun v8 =>
  cn v8
  (jn 1 (fun k9 =>
  ixs 1 s_a0 j_6 fun v10 =>
   ld1 v10 fun v11 =>
   CV P del_a1 [v11] fun v12 =>
   un .not v12 fun v13 =>
   cn v13
   (ixs 1 s_a0 i_5 fun v14 =>
    st 1 v14 v11 <|
    bn .add i_5 (Value.int IntKind.i64 1) fun v15 =>
    k9 v15)
   (k9 i_5))
  (fun _ i_16 =>
  bn .add j_6 (Value.int IntKind.i64 1) fun v17 =>
  nx4 i_16 v17))
  (slc 1 (some i_5) none none s_a0 fun v18 =>
 ru P (Builtin.clear_ #[ty] 0 #[v18]) fun v19 =>
 slc 1 none (some i_5) none s_a0 fun v20 =>
 R v20)) [v1, v3])
theorem Hs.p1e {h : Hp} {a : SL} {rs : List SL} (H : Hs h (a :: rs)) : Hs h (a :: emS :: rs) := (Hs.em.2 H).p1
section
variable {S E : Type}
/-- what stays, and the state behind it. -/
def delS (p : S → E → Bool × S) : S → List E → List E × S
  | s, [] => ([], s)
  | s, e :: es => (if (p s e).1 then (delS p (p s e).2 es).1 else e :: (delS p (p s e).2 es).1, (delS p (p s e).2 es).2)
theorem delS_app (p : S → E → Bool × S) : ∀ (a b : List E) (s : S), delS p s (a ++ b) = ((delS p s a).1 ++ (delS p (delS p s a).2 b).1, (delS p (delS p s a).2 b).2)
  | [], b, s => rfl
  | e :: a, b, s => by
    simp only [List.cons_append, delS]
    rw [delS_app p a b]
    split <;> simp
theorem delS_len (p : S → E → Bool × S) : ∀ (a : List E) (s : S), (delS p s a).1.length ≤ a.length
  | [], s => by simp [delS]
  | e :: a, s => by
    have := delS_len p a (p s e).2
    simp only [delS]
    split <;> simp <;> omega
theorem delS_sub (p : S → E → Bool × S) : ∀ (a : List E) (s : S), ∀ x ∈ (delS p s a).1, x ∈ a
  | [], s, x, h => by simp [delS] at h
  | e :: a, s, x, h => by
    simp only [delS] at h
    split at h
    · exact List.mem_cons_of_mem _ (delS_sub p a _ x h)
    · rcases List.mem_cons.1 h with rfl | h
      · exact List.mem_cons_self ..
      · exact List.mem_cons_of_mem _ (delS_sub p a _ x h)
theorem delS_succ (p : S → E → Bool × S) (s : S) (es : List E) (i : Nat) (hi : i < es.length) :
    delS p s (es.take (i + 1)) = (if (p (delS p s (es.take i)).2 es[i]).1 then (delS p s (es.take i)).1 else (delS p s (es.take i)).1 ++ [es[i]], (p (delS p s (es.take i)).2 es[i]).2) := by
  rw [List.take_succ_eq_append_getElem hi, delS_app]
  simp only [delS]
  split <;> simp
/-- a function value over elements, with a state. -/
structure FV (P : Program) (fv : Value) (arg : E → Value) (p : S → E → Bool × S) (ok : S → Nat → Prop) (G : S → List SL) : Prop where
  call : ∀ (s : S) (n : Nat) (e : E) (h : Hp) (X Y : SL), ok s (n + 1) → Hs h (X :: Y :: G s) → CV P fv [arg e] (fun v h' => v = .bool (p s e).1 ∧ Hs h' (X :: Y :: G (p s e).2)) h
  next : ∀ (s : S) (n : Nat) (e : E), ok s (n + 1) → ok (p s e).2 n
/-- what IndexFunc tells. -/
def IdxRes (p : S → E → Bool × S) (ok : S → Nat → Prop) (s : S) (es : List E) (v : Int) (s' : S) : Prop :=
  (v = -1 ∧ delS p s es = (es, s') ∧ ok s' 0) ∨ ∃ i, i < es.length ∧ v = (i : Int) ∧ (delS p s (es.take i)).1 = es.take i ∧ delS p s (es.take (i + 1)) = (es.take i, s') ∧ ok s' (es.length - (i + 1))
theorem idx_core {P : Program} {h : Hp} {z : Nat} {s fv : Value} {c : E → List Value} {arg : E → Value} {p : S → E → Bool × S} {ok : S → Nat → Prop} {G : S → List SL} {σ : S} {es : List E} {R : Value → A} {ld : Value → (Value → A) → A}
    (hld : ∀ b o e h (K : Value → A), e ∈ es → (c e).length = z → Rd h b o (c e) → K (arg e) h → ld (pt b o) K h)
    (F : FV P fv arg p ok G) (hok : ok σ es.length) (hl : es.length ≤ 1000000000) (H : Hs h (vec z s (es.map c) :: G σ))
    (k : ∀ v σ' h', IdxRes p ok σ es v σ' → Hs h' (vec z s (es.map c) :: G σ') → R (vi v) h') :
    (lnS s fun v1 => lp 1 (fun _ nx2 v3 => bn .lss v3 v1 fun v4 => cn v4 (ixs z s v3 fun v5 => ld v5 fun v6 => CV P fv [v6] fun v7 => cn v7 (R v3) (bn .add v3 (vi 1) fun v8 => nx2 v8)) (R (vi (-1)))) [vi 0]) h := by
  refine lnV H ?_
  rw [List.length_map]
  refine lp1 es.length (fun i h => (delS p σ (es.take i)).1 = es.take i ∧ ok (delS p σ (es.take i)).2 (es.length - i) ∧ Hs h (vec z s (es.map c) :: G (delS p σ (es.take i)).2)) ⟨by simp [delS], by simpa [delS] using hok, by simpa [delS] using H⟩ ?_
  rintro i h σ0 nx hi ⟨hd, hok, H⟩ hnx
  refine cn_lss (fun hlt => ?_) fun hge => ?_
  · have hlt : i < es.length := by omega
    have hm : i < (es.map c).length := by rw [List.length_map]; exact hlt
    refine ixV H i rfl hm fun b hrd => ?_
    have hlen := H.vecLen (c es[i]) (List.mem_map_of_mem (List.getElem_mem hlt))
    rw [List.getElem_map] at hrd
    refine hld _ _ es[i] _ _ (List.getElem_mem hlt) hlen hrd ?_
    have hsucc := delS_succ p σ es i hlt
    rw [show es.length - i = (es.length - (i + 1)) + 1 from by omega] at hok
    have hn := F.next _ _ es[i] hok
    have hcall := F.call _ _ es[i] h _ emS hok (H : Hs h (vec z s (es.map c) :: _)).p1e
    refine CV.mono hcall ?_
    rintro _ h ⟨rfl, H⟩
    have H := Hs.em.1 H.p1
    refine cn_s (fun he => ?_) fun he => ?_
    · rw [he] at hsucc
      refine k (i : Int) _ h (.inr ⟨i, hlt, rfl, hd, ?_, hn⟩) H
      rw [hsucc, hd]; rfl
    · rw [he] at hsucc
      refine nx_add i (by omega) (hnx h hlt ?_)
      rw [hsucc]
      refine ⟨?_, hn, H⟩
      simp only [Bool.false_eq_true, if_false]
      rw [hd, List.take_succ_eq_append_getElem hlt]
  · have : i = es.length := by omega
    subst this
    rw [List.take_length] at hd hok H
    rw [Nat.sub_self] at hok
    exact k (-1) _ h (.inl ⟨rfl, Prod.ext hd rfl, hok⟩) H
end
section
variable {S E : Type}
theorem idxN {P : Program} {h : Hp} {z : Nat} {s fv : Value} {c : E → List Value} {p : S → E → Bool × S} {ok : S → Nat → Prop} {G : S → List SL} {σ : S} {es : List E} {R : Value → A}
    (F : FV P fv (fun e => .agg (c e).toArray) p ok G) (hok : ok σ es.length) (hl : es.length ≤ 1000000000) (H : Hs h (vec z s (es.map c) :: G σ))
    (k : ∀ v σ' h', IdxRes p ok σ es v σ' → Hs h' (vec z s (es.map c) :: G σ') → R (vi v) h') : CIdxN P z s fv R h :=
  idx_core (ld := ldn z) (fun b o e h K _ hz hr hK => ldnR hr hz.symm hK) F hok hl H k
theorem idx1 {P : Program} {h : Hp} {s fv : Value} {c : E → Value} {p : S → E → Bool × S} {ok : S → Nat → Prop} {G : S → List SL} {σ : S} {es : List E} {R : Value → A}
    (F : FV P fv c p ok G) (hok : ok σ es.length) (hl : es.length ≤ 1000000000) (H : Hs h (vec 1 s (es.map fun e => [c e]) :: G σ))
    (k : ∀ v σ' h', IdxRes p ok σ es v σ' → Hs h' (vec 1 s (es.map fun e => [c e]) :: G σ') → R (vi v) h') : CIdx1 P s fv R h :=
  idx_core (c := fun e => [c e]) (ld := ld1) (fun b o e h K _ hz hr hK => ld1R hr hK) F hok hl H k
theorem stE {h : Hp} {X : A} {rs : List SL} {z i : Nat} {s : Value} {es : List (List Value)} {val : Value} {v : List Value} (H : Hs h (vec z s es :: rs)) (hi : i < es.length) (hvl : val.cells.toList = v) (hz : v.length = z) (h1 : ∀ u ∈ v, oneC u = true)
    (k : ∀ h', Hs h' (vec z s (es.set i v) :: rs) → X h') : ixs z s (vi i) (fun q => st z q val X) h := by
  obtain ⟨b, c, tl, rfl, hv, H⟩ := H.vecW hi
  have hl := hv.lens es[i] (List.getElem_mem hi)
  refine ixs_s (by omega) (by omega) ?_
  rw [Int.toNat_natCast, Nat.zero_add]
  have hsz : val.cells.size = z := by rw [← hz, ← hvl]; simp
  refine stV (i := i) (j := 0) hv H hi hsz (by omega) (by rw [hvl]; exact h1) fun h' H' => k h' ?_
  rw [hvl, splice_all (by rw [hz, hl])] at H'
  exact H'
/-- the first elements of a slice stay, the others are wiped. -/
theorem wipe {P : Program} {h : Hp} {rs : List SL} {zl : List Value} {by_ e t ty i : Nat} {s : Value} {es : List (List Value)} {R : Value → A} (El : El P zl by_ e t) (H : Hs h (vec zl.length s es :: rs)) (hi : i < es.length)
    (k : ∀ s' h', Hs h' (vec zl.length s' (es.take i) :: rs) → R s' h') : slc zl.length (some (vi i)) none none s (fun v21 => ru P (Builtin.clear_ #[t] ty #[v21]) fun _ => slc zl.length none (some (vi i)) none s fun v23 => R v23) h := by
  obtain ⟨ti, zv, hti, hzv, hzc, hsz, hby⟩ := El.inf
  obtain ⟨b, c, tl, rfl, hv, H⟩ := H.vecW hi
  have hroom := hv.room
  have hcap := hv.cap
  have fl := flat_len hv.lens
  have e1 : (es.length - i) * zl.length = es.length * zl.length - i * zl.length := Nat.mul_sub_right_distrib ..
  have e2 : i * zl.length ≤ es.length * zl.length := Nat.mul_le_mul_right _ (by omega)
  refine slcL (l := i) (u := es.length) rfl (by omega) hcap (by omega) ?_
  refine clrS El.ht hti hzv hzc El.z0 H ?_ (rep_one zl El.z1 _) (rep_len zl _) fun h' H' => slc0 ⟨_, rfl⟩ (by omega) (k _ _ ?_)
  · rw [List.length_append, fl]; omega
  have hA : (es.take i).flatten.length = 0 + i * zl.length := by
    rw [flat_len fun e' he => hv.lens e' (List.mem_of_mem_take he), List.length_take, Nat.min_eq_left (by omega), Nat.zero_add]
  have hs : es.flatten ++ tl = (es.take i).flatten ++ ((es.drop i).flatten ++ tl) := by rw [← List.append_assoc, ← List.flatten_append, List.take_append_drop]
  rw [hs, splice_mid' hA, List.append_assoc] at H'
  have hlt : (es.take i).length = i := by rw [List.length_take]; omega
  have hD : (es.drop i).flatten.length = (es.length - i) * zl.length := by
    rw [flat_len fun e' he => hv.lens e' (List.mem_of_mem_drop he), List.length_drop]
  have := Hs.vec1 (z := zl.length) (es := es.take i) (c := c) ⟨fun e' he => hv.lens e' (List.mem_of_mem_take he), fun e' he => hv.ones e' (List.mem_of_mem_take he), by omega, ?_⟩ H'
  · rwa [hlt] at this
  · rw [hlt, List.length_append, rep_len, List.length_drop, List.length_append, hD]; omega
theorem delN {P : Program} {h : Hp} {zl : List Value} {z fi et ty by_ t : Nat} {s fv : Value} {c : E → List Value} {p : S → E → Bool × S} {ok : S → Nat → Prop} {G : S → List SL} {σ : S} {es : List E} {R : Value → A} (hz : zl.length = z)
    (El : El P zl by_ t ty) (hc1 : ∀ e, (c e).length = z ∧ ∀ u ∈ c e, oneC u = true)
    (hb : ∃ fn, P.funcs[fi]? = some fn ∧ fn.body.isSome = true ∧ (fn.name == "runtime.NumGoroutine") = false)
    (hidx : ∀ h, Hs h (vec z s (es.map c) :: G σ) → FnW P fi #[s, fv] (fun v h' => ∃ n σ', v = vi n ∧ IdxRes p ok σ es n σ' ∧ Hs h' (vec z s (es.map c) :: G σ')) h)
    (F : FV P fv (fun e => .agg (c e).toArray) p ok G) (hl : es.length ≤ 1000000000) (H : Hs h (vec z s (es.map c) :: G σ))
    (k : ∀ s' h', Hs h' (vec z s' ((delS p σ es).1.map c) :: G (delS p σ es).2) → R s' h') : CDelN P zl z fi et ty s fv R h := by
  subst hz
  unfold CDelN
  refine cl_s hb (hidx h H) ?_
  rintro _ h ⟨n, σ', rfl, hres, H⟩
  rcases hres with ⟨rfl, hd, _⟩ | ⟨i, hi, rfl, hd, hd2, hok⟩
  · refine cn_eql (fun _ => ?_) fun hn => absurd rfl hn
    refine k s h ?_
    rw [hd]; exact H
  · refine cn_eql (fun hn => absurd hn (by omega)) fun _ => ?_
    refine nx_add i (by omega) ?_
    have hσ : σ' = (delS p σ (es.take (i + 1))).2 := by rw [hd2]
    subst hσ
    refine ⟨fun m vi' vj h => ∃ i j cur, vi' = vi (i : Nat) ∧ vj = vi (j : Nat) ∧ m = es.length - j ∧ i < j ∧ j ≤ es.length ∧ cur.length = es.length ∧ i = (delS p σ (es.take j)).1.length ∧ cur.take i = (delS p σ (es.take j)).1 ∧ cur.drop j = es.drop j ∧
        ok (delS p σ (es.take j)).2 (es.length - j) ∧ Hs h (vec zl.length s (cur.map c) :: G (delS p σ (es.take j)).2), ⟨_, i, i + 1, es, rfl, rfl, rfl, by omega, by omega, rfl, ?_, ?_, rfl, hok, H⟩, ?_⟩
    · rw [hd2, List.length_take]; omega
    · rw [hd2]
    rintro m σ0 _ _ h ⟨i, j, cur, rfl, rfl, rfl, hij, hj, hcl, hil, hct, hcd, hok, H⟩
    refine lnV H ?_
    rw [List.length_map]
    refine cn_lss (fun hlt => ?_) fun hge => ?_
    · have hlt : j < es.length := by omega
      have hjc : j < cur.length := by omega
      have hcj : cur[j] = es[j] := by
        have := congrArg (fun l => l[0]?) hcd
        simpa [List.getElem?_drop, hlt, hjc] using this
      have hm : j < (cur.map c).length := by rw [List.length_map]; exact hjc
      have hsucc := delS_succ p σ es j hlt
      rw [show es.length - j = (es.length - (j + 1)) + 1 from by omega] at hok
      have hn := F.next _ _ es[j] hok
      have he2 := hc1 es[j]
      intro k9 hk9
      have next : ∀ (i : Nat) (cur : List E) h, i < j + 1 → cur.length = es.length → i = (delS p σ (es.take (j + 1))).1.length → cur.take i = (delS p σ (es.take (j + 1))).1 → cur.drop (j + 1) = es.drop (j + 1) →
          Hs h (vec zl.length s (cur.map c) :: G (delS p σ (es.take (j + 1))).2) → k9 (vi i) h := by
        intro i cur h h1 h2 h3 h4 h5 H
        refine hk9 _ h fun _ => nx_add j (by omega) ⟨_, ?_, i, j + 1, cur, rfl, rfl, rfl, h1, by omega, h2, h3, h4, h5, ?_, H⟩
        · omega
        · rw [hsucc]; exact hn
      refine ixV H j rfl hm fun b hrd => ?_
      rw [List.getElem_map, hcj] at hrd
      refine ldnR hrd he2.1.symm (alS H fun x h H => staS H he2.1 rfl he2.2 fun h H => ldaS H he2.1 ?_)
      refine CV.mono (F.call _ _ es[j] h _ _ hok H.p1) ?_
      rintro _ h ⟨rfl, H⟩
      have H := H.p1
      have hdrop : cur.drop (j + 1) = es.drop (j + 1) := by
        have := congrArg (List.drop 1) hcd
        simpa [List.drop_drop] using this
      cases hb : (p (delS p σ (es.take j)).2 es[j]).1 with
      | true =>
        rw [hb] at hsucc
        refine un_s (.bool false) rfl (cn_f (next i cur h (by omega) hcl ?_ ?_ hdrop ?_))
        · rw [hsucc]; exact hil
        · rw [hsucc]; exact hct
        · rw [hsucc]; exact H.drop
      | false =>
        rw [hb] at hsucc
        simp only [Bool.false_eq_true, if_false] at hsucc
        refine un_s (.bool true) rfl (cn_t (ldaS H he2.1 ?_))
        have hmi : i < (cur.map c).length := by rw [List.length_map]; omega
        refine stE (v := c es[j]) H.p1 hmi (by simp [Value.cells]) he2.1 he2.2 fun h H => nx_add i (by omega) (next (i + 1) (cur.set i es[j]) h (by omega) (by simpa using hcl) ?_ ?_ ?_ ?_)
        · rw [hsucc]; simp; omega
        · rw [hsucc]
          have hic : i < cur.length := by omega
          rw [List.take_succ_eq_append_getElem (by simpa using hic), List.take_set_of_le (Nat.le_refl _), hct]
          simp
        · rw [List.drop_set_of_lt (by omega)]; exact hdrop
        · rw [hsucc, List.map_set]
          exact H.p1.drop
    · have : j = es.length := by omega
      subst this
      rw [List.take_length] at hil hct H
      have hic : i < (cur.map c).length := by rw [List.length_map]; omega
      refine wipe El H hic fun s' h' H' => k s' h' ?_
      rw [← List.map_take, hct] at H'
      exact H'
theorem del1 {P : Program} {h : Hp} {zv : Value} {fi ty by_ t : Nat} {s fv : Value} {c : E → Value} {p : S → E → Bool × S} {ok : S → Nat → Prop} {G : S → List SL} {σ : S} {es : List E} {R : Value → A} 
    (El : El P [zv] by_ t ty) (hc1 : ∀ e, oneC (c e) = true)
    (hb : ∃ fn, P.funcs[fi]? = some fn ∧ fn.body.isSome = true ∧ (fn.name == "runtime.NumGoroutine") = false)
    (hidx : ∀ h, Hs h (vec 1 s (es.map fun e => [c e]) :: G σ) → FnW P fi #[s, fv] (fun v h' => ∃ n σ', v = vi n ∧ IdxRes p ok σ es n σ' ∧ Hs h' (vec 1 s (es.map fun e => [c e]) :: G σ')) h)
    (F : FV P fv c p ok G) (hl : es.length ≤ 1000000000) (H : Hs h (vec 1 s (es.map fun e => [c e]) :: G σ))
    (k : ∀ s' h', Hs h' (vec 1 s' ((delS p σ es).1.map fun e => [c e]) :: G (delS p σ es).2) → R s' h') : CDel1 P fi ty s fv R h := by
  unfold CDel1
  refine cl_s hb (hidx h H) ?_
  rintro _ h ⟨n, σ', rfl, hres, H⟩
  rcases hres with ⟨rfl, hd, _⟩ | ⟨i, hi, rfl, hd, hd2, hok⟩
  · refine cn_eql (fun _ => ?_) fun hn => absurd rfl hn
    refine k s h ?_
    rw [hd]; exact H
  · refine cn_eql (fun hn => absurd hn (by omega)) fun _ => ?_
    refine nx_add i (by omega) ?_
    have hσ : σ' = (delS p σ (es.take (i + 1))).2 := by rw [hd2]
    subst hσ
    refine ⟨fun m vi' vj h => ∃ i j cur, vi' = vi (i : Nat) ∧ vj = vi (j : Nat) ∧ m = es.length - j ∧ i < j ∧ j ≤ es.length ∧ cur.length = es.length ∧ i = (delS p σ (es.take j)).1.length ∧ cur.take i = (delS p σ (es.take j)).1 ∧ cur.drop j = es.drop j ∧
        ok (delS p σ (es.take j)).2 (es.length - j) ∧ Hs h (vec 1 s (cur.map fun e => [c e]) :: G (delS p σ (es.take j)).2), ⟨_, i, i + 1, es, rfl, rfl, rfl, by omega, by omega, rfl, ?_, ?_, rfl, hok, H⟩, ?_⟩
    · rw [hd2, List.length_take]; omega
    · rw [hd2]
    rintro m σ0 _ _ h ⟨i, j, cur, rfl, rfl, rfl, hij, hj, hcl, hil, hct, hcd, hok, H⟩
    refine lnV H ?_
    rw [List.length_map]
    refine cn_lss (fun hlt => ?_) fun hge => ?_
    · have hlt : j < es.length := by omega
      have hjc : j < cur.length := by omega
      have hcj : cur[j] = es[j] := by
        have := congrArg (fun l => l[0]?) hcd
        simpa [List.getElem?_drop, hlt, hjc] using this
      have hm : j < (cur.map fun e => [c e]).length := by rw [List.length_map]; exact hjc
      have hsucc := delS_succ p σ es j hlt
      rw [show es.length - j = (es.length - (j + 1)) + 1 from by omega] at hok
      have hn := F.next _ _ es[j] hok
      have he2 := hc1 es[j]
      intro k9 hk9
      have next : ∀ (i : Nat) (cur : List E) h, i < j + 1 → cur.length = es.length → i = (delS p σ (es.take (j + 1))).1.length → cur.take i = (delS p σ (es.take (j + 1))).1 → cur.drop (j + 1) = es.drop (j + 1) →
          Hs h (vec 1 s (cur.map fun e => [c e]) :: G (delS p σ (es.take (j + 1))).2) → k9 (vi i) h := by
        intro i cur h h1 h2 h3 h4 h5 H
        refine hk9 _ h fun _ => nx_add j (by omega) ⟨_, ?_, i, j + 1, cur, rfl, rfl, rfl, h1, by omega, h2, h3, h4, h5, ?_, H⟩
        · omega
        · rw [hsucc]; exact hn
      refine ixV H j rfl hm fun b hrd => ?_
      rw [List.getElem_map, hcj] at hrd
      refine ld1R hrd ?_
      refine CV.mono (F.call _ _ es[j] h _ emS hok H.p1e) ?_
      rintro _ h ⟨rfl, H⟩
      have H := Hs.em.1 H.p1
      have hdrop : cur.drop (j + 1) = es.drop (j + 1) := by
        have := congrArg (List.drop 1) hcd
        simpa [List.drop_drop] using this
      cases hb : (p (delS p σ (es.take j)).2 es[j]).1 with
      | true =>
        rw [hb] at hsucc
        refine un_s (.bool false) rfl (cn_f (next i cur h (by omega) hcl ?_ ?_ hdrop ?_))
        · rw [hsucc]; exact hil
        · rw [hsucc]; exact hct
        · rw [hsucc]; exact H
      | false =>
        rw [hb] at hsucc
        simp only [Bool.false_eq_true, if_false] at hsucc
        refine un_s (.bool true) rfl (cn_t ?_)
        have hmi : i < (cur.map fun e => [c e]).length := by rw [List.length_map]; omega
        refine stE (v := [c es[j]]) H hmi (by rw [oneC_cells he2]) rfl (by simpa using he2) fun h H => nx_add i (by omega) (next (i + 1) (cur.set i es[j]) h (by omega) (by simpa using hcl) ?_ ?_ ?_ ?_)
        · rw [hsucc]; simp; omega
        · rw [hsucc]
          have hic : i < cur.length := by omega
          rw [List.take_succ_eq_append_getElem (by simpa using hic), List.take_set_of_le (Nat.le_refl _), hct]
          simp
        · rw [List.drop_set_of_lt (by omega)]; exact hdrop
        · rw [hsucc, List.map_set]
          exact H
    · have : j = es.length := by omega
      subst this
      rw [List.take_length] at hil hct H
      have hic : i < (cur.map fun e => [c e]).length := by rw [List.length_map]; omega
      refine wipe (zl := [zv]) El H hic fun s' h' H' => k s' h' ?_
      rw [← List.map_take, hct] at H'
      exact H'
end
/-! of, and what uses it -/
theorem C119_eq : C119 = CIdxN Tryz.prog 7 := rfl
theorem C226_eq : C226 = CIdx1 Tryz.prog := rfl
theorem C114_eq : C114 = CDelN Tryz.prog [vi 0, vu 0, vu 0, vi 0, .string ⟨#[]⟩, vi 0, vu 0] 7 119 229 222 := rfl
theorem C109_eq : C109 = CDel1 Tryz.prog 226 48 := rfl
theorem El229 : El Tryz.prog zc7 64 229 222 :=
  ⟨by kernel_rfl, ⟨_, _, (by kernel_rfl : Tryz.prog.info? 229 = some (Tryz.prog.info? 229).get!), (by kernel_rfl : _ = some (.agg #[vi 0, vu 0, vu 0, vi 0, .string ⟨#[]⟩, vi 0, vu 0])), rfl, by kernel_rfl, by kernel_rfl⟩, by simp, by simp [oneC]⟩
theorem El9 : El Tryz.prog [.string ⟨#[]⟩] 16 9 48 :=
  ⟨by kernel_rfl, ⟨_, _, (by kernel_rfl : Tryz.prog.info? 9 = some (Tryz.prog.info? 9).get!), (by kernel_rfl : _ = some (.string ⟨#[]⟩)), rfl, by kernel_rfl, by kernel_rfl⟩, by simp, by simp [oneC]⟩
/-- the function value of a tag. -/
abbrev ofV (x : Nat) : Value := .func (.func 230) #[] #[pt x 0]
theorem s115 {h : Hp} {rs : List SL} {t : Tg} (H : Hs h rs) : FnW Tryz.prog 115 #[.agg (Tg.c t).toArray] (fun v h' => ∃ x, v = ofV x ∧ Hs h' (bk x (Tg.c t) :: rs)) h := by
  refine c115 ?_
  unfold C115
  refine bxS H fun x h H => mf_s ⟨x, rfl, ?_⟩
  simpa [Value.cells] using H
theorem s230 {h : Hp} {rs : List SL} {x : Nat} {t : Tg} {c : Cm} (H : Hs h (bk x (Tg.c t) :: rs)) : FnW Tryz.prog 230 #[.agg (Cm.c c).toArray, pt x 0] (fun v h' => v = .bool (decide (c.1 = t)) ∧ Hs h' (bk x (Tg.c t) :: rs)) h := by
  refine c230 ?_
  unfold C230
  refine bxS H fun y h H => ?_
  have H : Hs h (bk y (Cm.c c) :: bk x (Tg.c t) :: rs) := by simpa [Value.cells] using H
  refine fa_s (ldnS H (Tg.c c.1) (by simp [Cm.len]) rfl (ldaS H.p1 rfl (beT ⟨?_, H.drop⟩)))
  simp
theorem fvOf (x : Nat) (t : Tg) (rs : List SL) : FV Tryz.prog (ofV x) (fun e : Cm => .agg (Cm.c e).toArray) (fun (s : Unit) e => (decide (e.1 = t), s)) (fun _ _ => True) (fun _ => bk x (Tg.c t) :: rs) where
  call := fun s n e h X Y _ H => cv_s b230 ((s230 (rs := X :: Y :: rs) (c := e) (H.perm (by repeat (first | with_reducible exact List.Perm.refl _ | with_reducible refine pm0 ?_ | with_reducible refine pm1 ?_ | with_reducible refine pm2 ?_ | with_reducible refine pm3 ?_ | with_reducible refine pm4 ?_ | with_reducible refine pm5 ?_ | with_reducible refine pm6 ?_ | with_reducible refine pm7 ?_ | with_reducible refine pm8 ?_ | with_reducible refine pm9 ?_ | with_reducible refine pm10 ?_ | with_reducible refine pm11 ?_ | with_reducible refine pm12 ?_ | with_reducible refine pm13 ?_)))).mono fun v h' ⟨h1, h2⟩ => ⟨h1, h2.perm (by repeat (first | with_reducible exact List.Perm.refl _ | with_reducible refine pm0 ?_ | with_reducible refine pm1 ?_ | with_reducible refine pm2 ?_ | with_reducible refine pm3 ?_ | with_reducible refine pm4 ?_ | with_reducible refine pm5 ?_ | with_reducible refine pm6 ?_ | with_reducible refine pm7 ?_ | with_reducible refine pm8 ?_ | with_reducible refine pm9 ?_ | with_reducible refine pm10 ?_ | with_reducible refine pm11 ?_ | with_reducible refine pm12 ?_ | with_reducible refine pm13 ?_))⟩) fun v h' h => h
  next := fun _ _ _ _ => trivial
theorem delS_pure {E : Type} (q : E → Bool) : ∀ (l : List E), delS (fun (s : Unit) e => (q e, s)) () l = (l.filter fun e => !q e, ())
  | [] => rfl
  | e :: l => by
    simp only [delS, delS_pure q l]
    cases hq : q e <;> simp [hq]
theorem s119 {h : Hp} {rs : List SL} {s : Value} {l : List Cm} {x : Nat} {t : Tg} (hl : l.length ≤ 1000000000) (H : Hs h (cms s l :: bk x (Tg.c t) :: rs)) :
    FnW Tryz.prog 119 #[s, ofV x] (fun v h' => ∃ n σ', v = vi n ∧ IdxRes (fun (s : Unit) e => (decide (e.1 = t), s)) (fun _ _ => True) () l n σ' ∧ Hs h' (cms s l :: bk x (Tg.c t) :: rs)) h :=
  c119 (by rw [C119_eq]; exact idxN (fvOf x t rs) trivial hl H fun v σ' h' hr H' => ⟨v, σ', rfl, hr, H'⟩)
theorem s114 {h : Hp} {rs : List SL} {s : Value} {l : List Cm} {x : Nat} {t : Tg} (hl : l.length ≤ 1000000000) (H : Hs h (cms s l :: bk x (Tg.c t) :: rs)) :
    FnW Tryz.prog 114 #[s, ofV x] (fun s' h' => Hs h' (cms s' (l.filter fun c => decide (c.1 ≠ t)) :: bk x (Tg.c t) :: rs)) h := by
  refine c114 ?_
  rw [C114_eq]
  refine delN (by rfl) El229 (fun e => ⟨rfl, Cm.one e⟩) b119 (fun h H => s119 hl H) (fvOf x t rs) hl H fun s' h' H' => ?_
  rw [delS_pure (fun e : Cm => decide (e.1 = t))] at H'
  have e : (fun c : Cm => decide (c.1 ≠ t)) = fun c => !decide (c.1 = t) := by funext c; simp
  rw [e]; exact H'
theorem idx_pos {l : List Cm} {t : Tg} {n : Int} {σ' : Unit} (h : IdxRes (fun (s : Unit) e => (decide (e.1 = t), s)) (fun _ _ => True) () l n σ') :
    (n = -1 ∧ (∀ c ∈ l, c.1 ≠ t)) ∨ ∃ i : Nat, n = (i : Int) ∧ ∃ hi : i < l.length, l[i].1 = t ∧ ∀ c ∈ l.take i, c.1 ≠ t := by
  rcases h with ⟨rfl, hd, _⟩ | ⟨i, hi, rfl, hd, hd2, _⟩
  · refine .inl ⟨rfl, fun c hc => ?_⟩
    rw [delS_pure (fun e : Cm => decide (e.1 = t))] at hd
    have hf := congrArg Prod.fst hd
    have := List.filter_eq_self.1 hf c hc
    simpa using this
  · refine .inr ⟨i, rfl, hi, ?_, fun c hc => ?_⟩
    · rw [delS_succ _ _ _ _ hi] at hd2
      have h1 := congrArg (fun q => q.1.length) hd2
      simp only [hd] at h1
      by_cases he : l[i].1 = t
      · exact he
      · rw [if_neg (by simpa using he)] at h1
        simp at h1
        omega
    · rw [delS_pure (fun e : Cm => decide (e.1 = t))] at hd
      have := List.filter_eq_self.1 hd c hc
      simpa using this
theorem s118 {h : Hp} {rs : List SL} {s : Value} {l : List Cm} {x : Nat} {t : Tg} (hl : l.length ≤ 1000000000) (H : Hs h (cms s l :: bk x (Tg.c t) :: rs)) :
    FnW Tryz.prog 118 #[s, ofV x] (fun v h' => v = .bool (l.any fun c => decide (c.1 = t)) ∧ Hs h' (cms s l :: bk x (Tg.c t) :: rs)) h := by
  refine c118 ?_
  unfold C118
  refine cl_s b119 (s119 hl H) ?_
  rintro _ h ⟨n, σ', rfl, hr, H⟩
  refine bn_s (.bool (decide (n ≥ 0))) (by simp [binV, intV]) ⟨?_, H⟩
  rcases idx_pos hr with ⟨rfl, hno⟩ | ⟨i, rfl, hi, he, _⟩
  · have : (l.any fun c => decide (c.1 = t)) = false := by
      rw [List.any_eq_false]; intro c hc; simpa using hno c hc
    rw [this]; rfl
  · have : (l.any fun c => decide (c.1 = t)) = true := List.any_eq_true.2 ⟨l[i], List.getElem_mem hi, by simpa using he⟩
    rw [this]; simp
end Go.Proofs.YtalknmdbamlabaaGreat.Q
