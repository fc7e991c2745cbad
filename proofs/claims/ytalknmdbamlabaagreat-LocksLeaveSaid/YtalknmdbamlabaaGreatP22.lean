/- The locks: Keys, Ahead. Conditions: none. -/
import Derived.Test.YtalknmdbamlabaaGreatP21
import Derived.Laws.Small
namespace Go.Proofs.YtalknmdbamlabaaGreat.Q
open Go
open SL (bk bkn mp old it exS puS emS stS)
abbrev KeyIn (G : GS) : Type := { k : ByteArray // k ∈ G.map (·.1) }
theorem subMap {p : ByteArray → Prop} (l : List { k : ByteArray // p k }) : l.map (fun e => [Value.string e.1]) = (l.map (·.1)).map fun k => [Value.string k] := by rw [List.map_map]; rfl
theorem fvNone {m l : Nat} {G : GS} {D : List Tg} {rs : List SL} (hsz : szG G ≤ 1000000000) :
    FV Tryz.prog (.func (.func 112) #[] #[pt l 0]) (fun e : KeyIn G => .string e.1) (fun (s : Unit) e => (noneAt e.1 G, s)) (fun _ _ => True) (fun _ => bk l [pt m 0] :: locksR m G D :: rs) where
  call := fun s n e h X Y _ H => cv_s b112 ((s112 (l := l) (m := m) (G := G) (D := D) (rs := X :: Y :: rs) e.2 hsz H.pl).mono fun v h' ⟨h1, h2⟩ => ⟨h1, h2.pl⟩) fun v h' h => h
  next := fun _ _ _ _ => trivial
theorem s226n {h : Hp} {m l : Nat} {G : GS} {D : List Tg} {rs : List SL} {s : Value} {es : List (KeyIn G)} (hsz : szG G ≤ 1000000000) (hl : es.length ≤ 1000000000) (H : Hs h (vec 1 s (es.map fun e => [.string e.1]) :: bk l [pt m 0] :: locksR m G D :: rs)) :
    FnW Tryz.prog 226 #[s, .func (.func 112) #[] #[pt l 0]] (fun v h' => ∃ n σ', v = vi n ∧ IdxRes (fun (s : Unit) e => (noneAt e.1 G, s)) (fun _ _ => True) () es n σ' ∧ Hs h' (vec 1 s (es.map fun e => [.string e.1]) :: bk l [pt m 0] :: locksR m G D :: rs)) h :=
  c226 (by rw [C226_eq]; exact idx1 (c := fun e : KeyIn G => .string e.1) (fvNone hsz) trivial hl H fun v σ' h' hr H' => ⟨v, σ', rfl, hr, H'⟩)
theorem s109 {h : Hp} {m l : Nat} {G : GS} {D : List Tg} {rs : List SL} {s : Value} {ks : List ByteArray} (hk : ∀ k ∈ ks, k ∈ G.map (·.1)) (hsz : szG G ≤ 1000000000) (hl : ks.length ≤ 1000000000) (H : Hs h (strs s ks :: bk l [pt m 0] :: locksR m G D :: rs)) :
    FnW Tryz.prog 109 #[s, .func (.func 112) #[] #[pt l 0]] (fun s' h' => Hs h' (strs s' (ks.filter fun k => !noneAt k G) :: bk l [pt m 0] :: locksR m G D :: rs)) h := by
  refine c109 ?_
  rw [C109_eq]
  have e0 : (ks.attachWith _ hk).map (fun e : KeyIn G => [Value.string e.1]) = ks.map fun k => [Value.string k] := by
    rw [subMap]; simp
  have H : Hs h (vec 1 s ((ks.attachWith _ hk).map fun e : KeyIn G => [Value.string e.1]) :: bk l [pt m 0] :: locksR m G D :: rs) := by rw [e0]; exact H
  refine del1 (c := fun e : KeyIn G => .string e.1) El9 (fun _ => rfl) b226 (fun h H => s226n hsz (by simpa using hl) H) (fvNone hsz) (by simpa using hl) H fun s' h' H' => ?_
  rw [delS_pure (fun e : KeyIn G => noneAt e.1 G)] at H'
  have e1 : ((ks.attachWith _ hk).filter fun e : KeyIn G => !noneAt e.1 G).map (fun e : KeyIn G => [Value.string e.1]) = (ks.filter fun k => !noneAt k G).map fun k => [Value.string k] := by
    rw [subMap]
    congr 1
    have e2 : (ks.attachWith _ hk).map (fun e : KeyIn G => e.1) = ks := by simp
    conv => rhs; rw [← e2, List.filter_map]
    rfl
  unfold strs; rw [← e1]; exact H'
/-- the keys at which somebody waits. -/
def keysOf (G : GS) : List ByteArray := (G.map (·.1)).filter fun k => !noneAt k G
theorem s23 {h : Hp} {m : Nat} {G : GS} {D : List Tg} {rs : List SL} (hsz : szG G ≤ 1000000000) (hG : G.length ≤ 1000000000) (hns : ∀ r ∈ rs, r.lo h.size) (H : Hs h (locksR m G D :: rs)) :
    FnW Tryz.prog 23 #[pt m 0] (fun v h' => ∃ ks, ks.Perm (keysOf G) ∧ Sorted ks ∧ Hs h' (strs v ks :: locksR m G D :: rs)) h := by
  obtain ⟨g, d, L, eG, HL⟩ := Hs.locks.1 H
  have hLl : L.length = G.length := by rw [← eG]; simp [gst, mapV]
  refine c23 ?_
  unfold C23
  have HL := HL.szs
  refine bx1 (fun l h2 H => ?_) HL
  repeat (first | with_reducible refine nc_s ?_ | with_reducible refine fa_0 ?_ | with_reducible refine fa_s ?_ | with_reducible refine ldB ?_ | with_reducible refine ldaB ?_ | with_reducible refine ldnB ?_ | with_reducible refine gd_t ?_ | with_reducible refine gd_f (by simp) ?_ | with_reducible refine an_s (ldB rfl) ?_ | with_reducible refine an_s (ldaB rfl) ?_ | with_reducible refine an_s (gd_t (ldaB rfl)) ?_ | with_reducible refine an_s (gd_t (ldB rfl)) ?_ | with_reducible refine an_s (gd_f (by simp) rfl) ?_ | with_reducible refine lnM ?_ | with_reducible refine lnB ?_ | with_reducible refine lnT_s ?_ | with_reducible refine mf_s ?_ | with_reducible refine pk_t ?_ | with_reducible refine pk_f ?_ | with_reducible refine nt_t ?_ | with_reducible refine nt_f ?_ | with_reducible refine cn_t ?_ | with_reducible refine cn_f ?_ | with_reducible refine ex0 ?_ | with_reducible refine ex1 ?_ | with_reducible refine ex2 ?_)
  refine clB (s111 (v := .map (some g)) rfl H) ?_ b111
  rintro _ h3 ⟨a, rfl, H⟩
  have hns2 := (H.pl (ts := SL.sz h.size :: _)).los hns
  refine clB (sortedKeys (b := g) (l := gptr L) (rs := bk l [pt m 0] :: bk m [.map (some g), .map (some d)] :: sep (L.map gR) :: mpS d tgV (dmp D) :: rs) und207 b229 keys229 (by simp [mapV]; omega)
    (lo_bk (lo_bk (lo_cons (sepm_lo gR_lo L) (lo_cons mpS_lo hns2)))) H.pl) ?_ b110
  rintro v h ⟨ks, hp, hs, H⟩
  refine mf_s ?_
  have hk : ks.Perm (G.map (·.1)) := by rw [← eG, keys_gst, ← keys_gptr]; exact hp
  have H : Hs h (locksR m G D :: strs v ks :: bk l [pt m 0] :: rs) := Hs.locks.2 ⟨g, d, L, eG, H.pl⟩
  refine clB (s109 (ks := ks) (m := m) (G := G) (D := D) (rs := rs) (fun k h => hk.subset h) hsz (by rw [hk.length_eq]; simpa using hG) H.pl) ?_ b109
  rintro v h H
  exact ⟨_, hk.filter _, hs.filter _, H.pl⟩
theorem mx0 {h : Hp} {K : Value → A} {n : Int} (k : K (vi (max n 0)) h) : pp Tryz.prog (Builtin.max_ #[3, 3] 3 #[vi n, vi 0]) K h := by
  refine ⟨vi (max n 0), fun w => ?_, k⟩
  rw [run_max_int2]
  by_cases h0 : 0 > n
  · rw [if_pos h0]; congr 2; omega
  · rw [if_neg h0]; congr 2; omega
/-- s[:m], to be read. -/
theorem slcTake {h : Hp} {K : Value → A} {rs : List SL} {z m : Nat} {s : Value} {es : List (List Value)} (H : Hs h (vec z s es :: rs)) (hm : m ≤ es.length) (k : ∀ s', (∀ h rs, Hs h (vec z s es :: rs) → Sr h z s' (es.take m)) → K s' h) :
    slc z none (some (vi m)) none s K h := by
  rcases H.vec with ⟨rfl, rfl, _⟩ | ⟨b, c, tl, rfl, hv, _⟩
  · have : m = 0 := by simpa using hm
    subst this
    exact slcN rfl ⟨_, rfl⟩ (k nilS fun h rs H => H.sr)
  · refine slc0 (u := m) ⟨_, rfl⟩ (Nat.le_trans hm hv.cap) (k _ fun h rs H => ?_)
    obtain ⟨a, n, c', e1, e2, h3, h4, h5⟩ := H.sr
    cases e1
    refine ⟨_, m, c, rfl, by rw [List.length_take]; omega, fun e he => h3 e (List.mem_of_mem_take he), fun e he => h4 e (List.mem_of_mem_take he), fun i hi => ?_⟩
    rw [List.length_take] at hi
    obtain ⟨b', o, e, hr⟩ := h5 i (by omega)
    exact ⟨b', o, e, by rw [List.getElem_take]; exact hr⟩
/-- those in a line ahead of a try. -/
def frontOf (t : Tg) (l : List Tg) : List Tg := if t ∈ l then l.takeWhile (fun x => decide (x ≠ t)) else []
def addAll (out l : List Tg) : List Tg := l.foldl (fun o x => dm x o) out
def ahd (t : Tg) (G : GS) (ks : List ByteArray) : List Tg := ks.foldl (fun out k => addAll out (frontOf t ((lineOf k G).map (·.1)))) []
theorem addAll_len : ∀ (l out : List Tg), (addAll out l).length ≤ out.length + l.length
  | [], out => by simp [addAll]
  | x :: l, out => by
    have h1 := addAll_len l (dm x out)
    have h2 := dm_len x out
    simp only [addAll, List.foldl_cons, List.length_cons] at *
    omega
theorem frontOf_len (t : Tg) (l : List Tg) : (frontOf t l).length ≤ l.length := by
  unfold frontOf; split
  · exact (List.takeWhile_sublist _).length_le
  · simp
theorem take_while {t : Tg} : ∀ {l : List Tg} {i : Nat}, l[i]? = some t → t ∉ l.take i → l.takeWhile (fun x => decide (x ≠ t)) = l.take i
  | [], i, h, _ => by simp at h
  | x :: l, 0, h, _ => by
    simp only [List.getElem?_cons_zero, Option.some.injEq] at h
    subst h; simp
  | x :: l, i + 1, h, hn => by
    simp only [List.getElem?_cons_succ] at h
    simp only [List.take_succ_cons, List.mem_cons, not_or] at hn
    rw [List.takeWhile_cons_of_pos (by simpa using fun e => hn.1 e.symm), take_while h hn.2, List.take_succ_cons]
theorem lineOf_len (k : ByteArray) (G : GS) : (lineOf k G).length ≤ szG G := by
  unfold lineOf
  cases hv : gval k G with
  | none => simp
  | some x =>
    obtain ⟨a, b, e, _⟩ := gval_mem hv
    have : (k, x) ∈ G := by rw [e]; simp
    have := szG_mem this
    simp at this ⊢; omega
theorem s26 {h : Hp} {m : Nat} {G : GS} {D : List Tg} {t : Tg} {rs : List SL} (hsz : szG G ≤ 100000) (hG : G.length ≤ 10000) (hns : ∀ r ∈ rs, r.lo h.size) (H : Hs h (locksR m G D :: rs)) :
    FnW Tryz.prog 26 #[pt m 0, .agg (Tg.c t).toArray] (fun v h' => ∃ ks, ks.Perm (keysOf G) ∧ Sorted ks ∧ Hs h' (tgs v (ahd t G ks) :: locksR m G D :: rs)) h := by
  refine c26 ?_
  unfold C26
  have H := H.szs
  refine bxB fun x h2 H => ?_
  have hns2 := (H.pl (ts := SL.sz h.size :: _)).los hns
  refine clB (s23 (m := m) (G := G) (D := D) (rs := bk x (Tg.c t) :: rs) (by omega) (by omega) (lo_bk hns2) H.pl) ?_ b23
  rintro v2 h ⟨ks, hp, hs, H⟩
  have hkl : ks.length ≤ 10000 := by
    rw [hp.length_eq]
    have := List.length_filter_le (fun k => !noneAt k G) (G.map (·.1))
    rw [List.length_map] at this
    exact Nat.le_trans this hG
  refine lnM ?_
  have H : Hs h (tgs nilS [] :: strs v2 ks :: locksR m G D :: bk x (Tg.c t) :: rs) := Hs.vec0 H
  refine lp2 ks.length (fun i o h => ∃ out, out = ahd t G (ks.take i) ∧ out.length ≤ i * 100000 ∧ Hs h (tgs o out :: strs v2 ks :: locksR m G D :: bk x (Tg.c t) :: rs)) ⟨[], rfl, by simp, H⟩ ?_
  clear H
  rintro i o h σ0 nx hi ⟨out, hout, hol, H⟩ hnx
  refine cn_lss (fun hlt => ?_) fun hge => ?_
  · have hlt : i < ks.length := by omega
    refine ixM hlt fun b hrd => ld1R hrd ?_
    have hnext : ahd t G (ks.take (i + 1)) = addAll out (frontOf t ((lineOf ks[i] G).map (·.1))) := by
      rw [List.take_succ_eq_append_getElem hlt, hout]; unfold ahd; rw [List.foldl_append]; rfl
    generalize ks[i] = k at hnext
    refine clB (s24 (m := m) (G := G) (D := D) (k := k) (by omega) H.pl) ?_ b24
    rintro v10 h H
    have hll := lineOf_len k G
    generalize hline : (lineOf k G).map (·.1) = line at H hnext
    have hll2 : line.length ≤ 100000 := by rw [← hline, List.length_map]; omega
    repeat (first | with_reducible refine nc_s ?_ | with_reducible refine fa_0 ?_ | with_reducible refine fa_s ?_ | with_reducible refine ldB ?_ | with_reducible refine ldaB ?_ | with_reducible refine ldnB ?_ | with_reducible refine gd_t ?_ | with_reducible refine gd_f (by simp) ?_ | with_reducible refine an_s (ldB rfl) ?_ | with_reducible refine an_s (ldaB rfl) ?_ | with_reducible refine an_s (gd_t (ldaB rfl)) ?_ | with_reducible refine an_s (gd_t (ldB rfl)) ?_ | with_reducible refine an_s (gd_f (by simp) rfl) ?_ | with_reducible refine lnM ?_ | with_reducible refine lnB ?_ | with_reducible refine lnT_s ?_ | with_reducible refine mf_s ?_ | with_reducible refine pk_t ?_ | with_reducible refine pk_f ?_ | with_reducible refine nt_t ?_ | with_reducible refine nt_f ?_ | with_reducible refine cn_t ?_ | with_reducible refine cn_f ?_ | with_reducible refine ex0 ?_ | with_reducible refine ex1 ?_ | with_reducible refine ex2 ?_)
    refine clB (s116 (t := t) (l := line) (by omega) H.pl) ?_ b116
    rintro v h ⟨hidx, H⟩
    have hi2 : ∃ (n : Int) (m' : Nat), v = vi n ∧ max n 0 = (m' : Int) ∧ m' ≤ line.length ∧ frontOf t line = line.take m' := by
      rcases hidx with ⟨rfl, hno⟩ | ⟨j, rfl, hj, hno⟩
      · exact ⟨-1, 0, rfl, by omega, Nat.zero_le _, by rw [frontOf, if_neg hno]; simp⟩
      · have hjl : j < line.length := by
          rcases Nat.lt_or_ge j line.length with h | h
          · exact h
          · rw [List.getElem?_eq_none h] at hj; cases hj
        exact ⟨j, j, rfl, by omega, by omega, by rw [frontOf, if_pos (List.mem_of_getElem? hj), take_while hj hno]⟩
    obtain ⟨n, m', rfl, hmx, hml, hfr⟩ := hi2
    refine mx0 ?_
    rw [hmx]
    refine slcTake (H.pl (ts := tgs v10 line :: _)) (by rw [List.length_map]; exact hml) fun s' hS => ?_
    rw [← List.map_take, ← hfr] at hS
    have hfl := frontOf_len t line
    generalize frontOf t line = fr at hS hnext hfl
    refine lnR (hS h _ H.pl) ?_
    rw [List.length_map]
    refine lp2 fr.length (fun j o h => ∃ out', out' = addAll out (fr.take j) ∧ Hs h (tgs o out' :: tgs v10 line :: strs v2 ks :: locksR m G D :: bk x (Tg.c t) :: rs)) ⟨out, by simp [addAll], H.pl⟩ ?_
    clear H
    rintro j o h σ1 nx2 hj ⟨out', hout', H⟩ hnx2
    have hol' : out'.length ≤ 1000000000 := by
      have h1 := addAll_len (fr.take j) out
      rw [← hout', List.length_take] at h1
      have : i * 100000 ≤ 9999 * 100000 := Nat.mul_le_mul_right _ (by omega)
      omega
    refine cn_lss (fun hlt2 => ?_) fun hge2 => ?_
    · have hlt2 : j < fr.length := by omega
      intro k20 hk20
      refine ixR (hS h _ H.pl) j (by rw [List.length_map]; exact hlt2) fun b o' hrd => ?_
      rw [List.getElem_map] at hrd
      refine ldnR hrd rfl ?_
      have fin : ∀ o h, Hs h (tgs o (dm fr[j] out') :: tgs v10 line :: strs v2 ks :: locksR m G D :: bk x (Tg.c t) :: rs) → k20 o h := fun o h H => hk20 o h fun _ => nx_add j (by omega) (hnx2 _ h hlt2 ⟨_, by
        rw [List.take_succ_eq_append_getElem hlt2, hout']; unfold addAll; rw [List.foldl_append]; rfl, H⟩)
      generalize fr[j] = u at fin
      refine alB fun y h H => ?_
      refine staB (vs := Tg.c u) (h1 := Tg.one u) fun h H => ?_
      repeat (first | with_reducible refine nc_s ?_ | with_reducible refine fa_0 ?_ | with_reducible refine fa_s ?_ | with_reducible refine ldB ?_ | with_reducible refine ldaB ?_ | with_reducible refine ldnB ?_ | with_reducible refine gd_t ?_ | with_reducible refine gd_f (by simp) ?_ | with_reducible refine an_s (ldB rfl) ?_ | with_reducible refine an_s (ldaB rfl) ?_ | with_reducible refine an_s (gd_t (ldaB rfl)) ?_ | with_reducible refine an_s (gd_t (ldB rfl)) ?_ | with_reducible refine an_s (gd_f (by simp) rfl) ?_ | with_reducible refine lnM ?_ | with_reducible refine lnB ?_ | with_reducible refine lnT_s ?_ | with_reducible refine mf_s ?_ | with_reducible refine pk_t ?_ | with_reducible refine pk_f ?_ | with_reducible refine nt_t ?_ | with_reducible refine nt_f ?_ | with_reducible refine cn_t ?_ | with_reducible refine cn_f ?_ | with_reducible refine ex0 ?_ | with_reducible refine ex1 ?_ | with_reducible refine ex2 ?_)
      refine clB (s117 (t := u) (l := out') hol' H.pl) ?_ b117
      rintro _ h ⟨rfl, H⟩
      by_cases hu : u ∈ out'
      · rw [decide_eq_true hu]
        refine un_s (.bool false) rfl (cn_f (fin _ h ?_))
        rw [dm, if_pos hu]; exact H.pl
      · rw [decide_eq_false hu]
        refine un_s (.bool true) rfl (cn_t ?_)
        repeat (first | with_reducible refine nc_s ?_ | with_reducible refine fa_0 ?_ | with_reducible refine fa_s ?_ | with_reducible refine ldB ?_ | with_reducible refine ldaB ?_ | with_reducible refine ldnB ?_ | with_reducible refine gd_t ?_ | with_reducible refine gd_f (by simp) ?_ | with_reducible refine an_s (ldB rfl) ?_ | with_reducible refine an_s (ldaB rfl) ?_ | with_reducible refine an_s (gd_t (ldaB rfl)) ?_ | with_reducible refine an_s (gd_t (ldB rfl)) ?_ | with_reducible refine an_s (gd_f (by simp) rfl) ?_ | with_reducible refine lnM ?_ | with_reducible refine lnB ?_ | with_reducible refine lnT_s ?_ | with_reducible refine mf_s ?_ | with_reducible refine pk_t ?_ | with_reducible refine pk_f ?_ | with_reducible refine nt_t ?_ | with_reducible refine nt_f ?_ | with_reducible refine cn_t ?_ | with_reducible refine cn_f ?_ | with_reducible refine ex0 ?_ | with_reducible refine ex1 ?_ | with_reducible refine ex2 ?_)
        refine bslB (Tg.c u) fun z h H => ?_
        refine ap1M u (Tg.one u) fun s2 h H => fin _ h ?_
        rw [dm, if_neg hu]; exact H.pl
    · have : j = fr.length := by omega
      subst this
      rw [List.take_length] at hout'
      subst hout'
      refine nx_add i (by omega) (hnx _ h hlt ⟨_, hnext.symm, ?_, H.pl⟩)
      have h1 := addAll_len fr out
      rw [Nat.add_mul]; omega
  · have : i = ks.length := by omega
    subst this
    rw [List.take_length] at hout
    subst hout
    exact ⟨ks, hp, hs, H.pl⟩
end Go.Proofs.YtalknmdbamlabaaGreat.Q
