/- The law's own functions: great. Conditions: none. -/
import Derived.Test.YtalknmdbamlabaaGreatP22
namespace Go.Proofs.YtalknmdbamlabaaGreat.Q
open Go
open SL (bk bkn mp old it exS puS emS stS)
/-- an Op: kind, to, tag, key, marks. -/
structure OpS where
  kind : Int
  to : Int
  tag : Tg
  key : ByteArray
  sl : Value
  marks : List Mk
def OpS.c (o : OpS) : List Value := [vi o.kind, vi o.to] ++ Tg.c o.tag ++ [.string o.key, o.sl]
theorem OpS.one {o : OpS} (h : oneC o.sl = true) : ∀ u ∈ o.c, oneC u = true := by
  intro u hu
  simp only [OpS.c, Tg.c, List.cons_append, List.nil_append, List.mem_cons, List.not_mem_nil, or_false] at hu
  rcases hu with rfl | rfl | rfl | rfl | rfl | rfl | rfl | rfl <;> first | rfl | exact h
/-- the script as it may be read now. -/
structure Scr (h : Hp) (s : Value) (l : List OpS) : Prop where
  sr : Sr h 8 s (l.map OpS.c)
  ms : ∀ o ∈ l, Sr h 3 o.sl (o.marks.map Mk.c)
theorem Sr.one {h : Hp} {z : Nat} {s : Value} {es : List (List Value)} (S : Sr h z s es) : oneC s = true := by obtain ⟨a, n, c, rfl, _⟩ := S; rfl
theorem Scr.old {h h0 : Hp} {s : Value} {l : List OpS} {rs : List SL} (S : Scr h0 s l) (H : Hs h (SL.old h0 :: rs)) : Scr h s l := ⟨S.sr.old H, fun o ho => (S.ms o ho).old H⟩
theorem lnRM {E : Type} {h : Hp} {K : Value → A} {z : Nat} {s : Value} {c : E → List Value} {l : List E} (S : Sr h z s (l.map c)) (k : K (vi l.length) h) : lnS s K h := lnR S (by rw [List.length_map]; exact k)
theorem ixRM {E : Type} {h : Hp} {K : Value → A} {z : Nat} {s : Value} {c : E → List Value} {l : List E} {kd : IntKind} (S : Sr h z s (l.map c)) (i : Nat) (hi : i < l.length) (k : ∀ b o, Rd h b o (c l[i]) → K (pt b o) h) : ixs z s (.int kd i) K h :=
  ixR S i (by rw [List.length_map]; exact hi) fun b o hr => k b o (by rw [List.getElem_map] at hr; exact hr)
/-- is it small? -/
def okOp (o : OpS) : Prop := o.marks.length ≤ 20 ∧ o.key.size ≤ 100 ∧ ∀ m ∈ o.marks, m.1.size ≤ 100
theorem s18 {h : Hp} {rs : List SL} {h0 : Hp} {s : Value} {l : List OpS} (S : Scr h0 s l) (H : Hs h (old h0 :: rs)) :
    FnW Tryz.prog 18 #[s] (fun v h' => ∃ g, v = .bool g ∧ (g = false → l.length ≤ 60 ∧ ∀ o ∈ l, okOp o) ∧ Hs h' (old h0 :: rs)) h := by
  refine c18 ?_
  unfold C18
  refine lnRM (S.old H).sr (cn_gtr (fun hgt => ⟨true, rfl, (fun e => by cases e), H⟩) fun hle => ?_)
  refine lnRM (S.old H).sr ?_
  refine lp1 l.length (fun i h => (∀ o ∈ l.take i, okOp o) ∧ Hs h (old h0 :: rs)) ⟨by simp, H⟩ ?_
  clear H
  rintro i h σ0 nx hi ⟨hok, H⟩ hnx
  refine cn_lss (fun hlt => ?_) fun hge => ?_
  · have hlt : i < l.length := by omega
    have hso := S.ms l[i] (List.getElem_mem hlt)
    have hnext : okOp l[i] → ∀ o ∈ l.take (i + 1), okOp o := by
      intro h1 o ho
      rw [List.take_succ_eq_append_getElem hlt] at ho
      rcases List.mem_append.1 ho with ho | ho
      · exact hok o ho
      · simp only [List.mem_singleton] at ho; rw [ho]; exact h1
    refine ixRM (S.old H).sr i hlt fun b o' hrd => ldnR hrd rfl ?_
    generalize l[i] = o at hso hnext
    refine alB fun x h H => ?_
    refine staB (vs := o.c) (h1 := OpS.one hso.one) fun h H => ?_
    repeat (first | with_reducible refine nc_s ?_ | with_reducible refine fa_0 ?_ | with_reducible refine fa_s ?_ | with_reducible refine ldB ?_ | with_reducible refine ldaB ?_ | with_reducible refine ldnB ?_ | with_reducible refine gd_t ?_ | with_reducible refine gd_f (by simp) ?_ | with_reducible refine an_s (ldB rfl) ?_ | with_reducible refine an_s (ldaB rfl) ?_ | with_reducible refine an_s (gd_t (ldaB rfl)) ?_ | with_reducible refine an_s (gd_t (ldB rfl)) ?_ | with_reducible refine an_s (gd_f (by simp) rfl) ?_ | with_reducible refine lnM ?_ | with_reducible refine lnB ?_ | with_reducible refine lnT_s ?_ | with_reducible refine mf_s ?_ | with_reducible refine pk_t ?_ | with_reducible refine pk_f ?_ | with_reducible refine nt_t ?_ | with_reducible refine nt_f ?_ | with_reducible refine cn_t ?_ | with_reducible refine cn_f ?_ | with_reducible refine ex0 ?_ | with_reducible refine ex1 ?_ | with_reducible refine ex2 ?_)
    have H : Hs h (old h0 :: bk x o.c :: rs) := H.pl
    refine lnRM (hso.old H) ?_
    have stop : ∀ (h : Hp), Hs h (old h0 :: bk x o.c :: rs) → ∃ g, Value.bool true = .bool g ∧ (g = false → l.length ≤ 60 ∧ ∀ o ∈ l, okOp o) ∧ Hs h (old h0 :: rs) := fun h H => ⟨true, rfl, fun e => (by cases e), H.pl⟩
    refine bn_gt ?_
    by_cases h20 : 20 < (o.marks.length : Int)
    · rw [decide_eq_true h20]
      repeat (first | with_reducible refine nc_s ?_ | with_reducible refine fa_0 ?_ | with_reducible refine fa_s ?_ | with_reducible refine ldB ?_ | with_reducible refine ldaB ?_ | with_reducible refine ldnB ?_ | with_reducible refine gd_t ?_ | with_reducible refine gd_f (by simp) ?_ | with_reducible refine an_s (ldB rfl) ?_ | with_reducible refine an_s (ldaB rfl) ?_ | with_reducible refine an_s (gd_t (ldaB rfl)) ?_ | with_reducible refine an_s (gd_t (ldB rfl)) ?_ | with_reducible refine an_s (gd_f (by simp) rfl) ?_ | with_reducible refine lnM ?_ | with_reducible refine lnB ?_ | with_reducible refine lnT_s ?_ | with_reducible refine mf_s ?_ | with_reducible refine pk_t ?_ | with_reducible refine pk_f ?_ | with_reducible refine nt_t ?_ | with_reducible refine nt_f ?_ | with_reducible refine cn_t ?_ | with_reducible refine cn_f ?_ | with_reducible refine ex0 ?_ | with_reducible refine ex1 ?_ | with_reducible refine ex2 ?_)
      exact stop h H
    · rw [decide_eq_false h20]
      repeat (first | with_reducible refine nc_s ?_ | with_reducible refine fa_0 ?_ | with_reducible refine fa_s ?_ | with_reducible refine ldB ?_ | with_reducible refine ldaB ?_ | with_reducible refine ldnB ?_ | with_reducible refine gd_t ?_ | with_reducible refine gd_f (by simp) ?_ | with_reducible refine an_s (ldB rfl) ?_ | with_reducible refine an_s (ldaB rfl) ?_ | with_reducible refine an_s (gd_t (ldaB rfl)) ?_ | with_reducible refine an_s (gd_t (ldB rfl)) ?_ | with_reducible refine an_s (gd_f (by simp) rfl) ?_ | with_reducible refine lnM ?_ | with_reducible refine lnB ?_ | with_reducible refine lnT_s ?_ | with_reducible refine mf_s ?_ | with_reducible refine pk_t ?_ | with_reducible refine pk_f ?_ | with_reducible refine nt_t ?_ | with_reducible refine nt_f ?_ | with_reducible refine cn_t ?_ | with_reducible refine cn_f ?_ | with_reducible refine ex0 ?_ | with_reducible refine ex1 ?_ | with_reducible refine ex2 ?_)
      refine bn_gt (pk_s (cn_d (fun _ => stop h H) fun h100 => ?_))
      repeat (first | with_reducible refine nc_s ?_ | with_reducible refine fa_0 ?_ | with_reducible refine fa_s ?_ | with_reducible refine ldB ?_ | with_reducible refine ldaB ?_ | with_reducible refine ldnB ?_ | with_reducible refine gd_t ?_ | with_reducible refine gd_f (by simp) ?_ | with_reducible refine an_s (ldB rfl) ?_ | with_reducible refine an_s (ldaB rfl) ?_ | with_reducible refine an_s (gd_t (ldaB rfl)) ?_ | with_reducible refine an_s (gd_t (ldB rfl)) ?_ | with_reducible refine an_s (gd_f (by simp) rfl) ?_ | with_reducible refine lnM ?_ | with_reducible refine lnB ?_ | with_reducible refine lnT_s ?_ | with_reducible refine mf_s ?_ | with_reducible refine pk_t ?_ | with_reducible refine pk_f ?_ | with_reducible refine nt_t ?_ | with_reducible refine nt_f ?_ | with_reducible refine cn_t ?_ | with_reducible refine cn_f ?_ | with_reducible refine ex0 ?_ | with_reducible refine ex1 ?_ | with_reducible refine ex2 ?_)
      refine lnRM (hso.old H) ?_
      refine lp1 o.marks.length (fun j h => (∀ m ∈ o.marks.take j, m.1.size ≤ 100) ∧ Hs h (old h0 :: bk x o.c :: rs)) ⟨by simp, H⟩ ?_
      clear H
      rintro j h σ1 nx2 hj ⟨hks, H⟩ hnx2
      refine cn_lss (fun hlt2 => ?_) fun hge2 => ?_
      · have hlt2 : j < o.marks.length := by omega
        refine ixRM (hso.old H) j hlt2 fun b o' hrd => ldnR hrd rfl ?_
        have hnext2 : o.marks[j].1.size ≤ 100 → ∀ m ∈ o.marks.take (j + 1), m.1.size ≤ 100 := by
          intro h1 m hm
          rw [List.take_succ_eq_append_getElem hlt2] at hm
          rcases List.mem_append.1 hm with hm | hm
          · exact hks m hm
          · simp only [List.mem_singleton] at hm; rw [hm]; exact h1
        generalize o.marks[j] = m at hnext2
        refine alB fun y h H => ?_
        refine staB (vs := Mk.c m) (h1 := Mk.one m) fun h H => ?_
        repeat (first | with_reducible refine nc_s ?_ | with_reducible refine fa_0 ?_ | with_reducible refine fa_s ?_ | with_reducible refine ldB ?_ | with_reducible refine ldaB ?_ | with_reducible refine ldnB ?_ | with_reducible refine gd_t ?_ | with_reducible refine gd_f (by simp) ?_ | with_reducible refine an_s (ldB rfl) ?_ | with_reducible refine an_s (ldaB rfl) ?_ | with_reducible refine an_s (gd_t (ldaB rfl)) ?_ | with_reducible refine an_s (gd_t (ldB rfl)) ?_ | with_reducible refine an_s (gd_f (by simp) rfl) ?_ | with_reducible refine lnM ?_ | with_reducible refine lnB ?_ | with_reducible refine lnT_s ?_ | with_reducible refine mf_s ?_ | with_reducible refine pk_t ?_ | with_reducible refine pk_f ?_ | with_reducible refine nt_t ?_ | with_reducible refine nt_f ?_ | with_reducible refine cn_t ?_ | with_reducible refine cn_f ?_ | with_reducible refine ex0 ?_ | with_reducible refine ex1 ?_ | with_reducible refine ex2 ?_)
        refine bn_gt (cn_d (fun _ => stop h H.pl) fun hk100 => ?_)
        exact nx_add j (by omega) (hnx2 h hlt2 ⟨hnext2 (by omega), H.pl⟩)
      · have : j = o.marks.length := by omega
        subst this
        rw [List.take_length] at hks
        exact nx_add i (by omega) (hnx h hlt ⟨hnext ⟨by omega, by omega, hks⟩, H.pl⟩)
  · have : i = l.length := by omega
    subst this
    rw [List.take_length] at hok
    exact ⟨false, rfl, fun _ => ⟨by omega, hok⟩, H⟩
end Go.Proofs.YtalknmdbamlabaaGreat.Q
