/- The law's own functions: the example. Conditions: none. -/
import Derived.Test.YtalknmdbamlabaaGreatP25
namespace Go.Proofs.YtalknmdbamlabaaGreat.Q
open Go
open SL (bk bkn mp old it exS puS emS stS)
theorem Hs.vecOf {h : Hp} {z b n : Nat} {es : List (List Value)} {cs : List Value} {rs : List SL} (H : Hs h (bk b cs :: rs)) (hc : cs = es.flatten) (hn : n = es.length) (hl : ∀ e ∈ es, e.length = z) (h1 : ∀ e ∈ es, ∀ u ∈ e, oneC u = true) : Hs h (Q.vec z (sl b 0 n n) es :: rs) := by
  subst hc; subst hn
  exact Hs.vec1 (tl := []) ⟨hl, h1, Nat.le_refl _, by simp⟩ (by rw [List.append_nil]; exact H)
theorem perm2 {α : Type} {a b : α} : ∀ {l : List α}, l.Perm [a, b] → l = [a, b] ∨ l = [b, a]
  | [], h => by have := h.length_eq; simp at this
  | [_], h => by have := h.length_eq; simp at this
  | _ :: _ :: _ :: _, h => by have := h.length_eq; simp at this
  | [x, y], h => by
    have hx : x ∈ [a, b] := h.subset (List.mem_cons_self ..)
    simp only [List.mem_cons, List.not_mem_nil, or_false] at hx
    rcases hx with rfl | rfl
    · have := (List.perm_cons x).1 h
      simp at this
      exact .inl (by rw [this])
    · have := (List.perm_cons x).1 (h.trans (.swap ..))
      simp at this
      exact .inr (by rw [this])
abbrev kA : ByteArray := ⟨#[97]⟩
abbrev kB : ByteArray := ⟨#[98]⟩
abbrev tg1 : Tg := (0, 0, 1, 0)
abbrev tg2 : Tg := (0, 0, 2, 0)
abbrev mA : Mk := (kA, 0, 0)
abbrev mB : Mk := (kB, 0, 0)
abbrev sG1 : GS := [(kA, ([(tg1, mA)], []))]
abbrev sG2 : GS := [(kA, ([(tg1, mA), (tg2, mA)], [])), (kB, ([(tg2, mB)], []))]
theorem und30 : Tryz.prog.underlying 30 = some (.pointer 206) := by kernel_rfl
theorem und34 : Tryz.prog.underlying 34 = some (.pointer 210) := by kernel_rfl
theorem s17 {h : Hp} {rs : List SL} (hns : ∀ r ∈ rs, r.lo h.size) (H : Hs h rs) : FnW Tryz.prog 17 #[] (fun v h' => v = .bool true ∧ Hs h' rs) h := by
  have H := H.szs
  refine c17 ?_
  unfold C17
  refine clB (s19 (reg := 1) (by omega) (by omega) H) ?_ b19
  rintro _ h1 ⟨s, rfl, H⟩
  repeat (first | with_reducible refine nc_s ?_ | with_reducible refine fa_0 ?_ | with_reducible refine fa_s ?_ | with_reducible refine ldB ?_ | with_reducible refine ldaB ?_ | with_reducible refine ldnB ?_ | with_reducible refine gd_t ?_ | with_reducible refine gd_f (by simp) ?_ | with_reducible refine an_s (ldB rfl) ?_ | with_reducible refine an_s (ldaB rfl) ?_ | with_reducible refine an_s (gd_t (ldaB rfl)) ?_ | with_reducible refine an_s (gd_t (ldB rfl)) ?_ | with_reducible refine an_s (gd_f (by simp) rfl) ?_ | with_reducible refine lnM ?_ | with_reducible refine lnB ?_ | with_reducible refine lnT_s ?_ | with_reducible refine mf_s ?_ | with_reducible refine pk_t ?_ | with_reducible refine pk_f ?_ | with_reducible refine nt_t ?_ | with_reducible refine nt_f ?_ | with_reducible refine cn_t ?_ | with_reducible refine cn_f ?_ | with_reducible refine ex0 ?_ | with_reducible refine ex1 ?_ | with_reducible refine ex2 ?_)
  refine clB (s20 H) ?_ b20
  rintro _ h2 ⟨l, rfl, H⟩
  refine beN und30 ?_
  repeat (first | with_reducible refine nc_s ?_ | with_reducible refine fa_0 ?_ | with_reducible refine fa_s ?_ | with_reducible refine ldB ?_ | with_reducible refine ldaB ?_ | with_reducible refine ldnB ?_ | with_reducible refine gd_t ?_ | with_reducible refine gd_f (by simp) ?_ | with_reducible refine an_s (ldB rfl) ?_ | with_reducible refine an_s (ldaB rfl) ?_ | with_reducible refine an_s (gd_t (ldaB rfl)) ?_ | with_reducible refine an_s (gd_t (ldB rfl)) ?_ | with_reducible refine an_s (gd_f (by simp) rfl) ?_ | with_reducible refine lnM ?_ | with_reducible refine lnB ?_ | with_reducible refine lnT_s ?_ | with_reducible refine mf_s ?_ | with_reducible refine pk_t ?_ | with_reducible refine pk_f ?_ | with_reducible refine nt_t ?_ | with_reducible refine nt_f ?_ | with_reducible refine cn_t ?_ | with_reducible refine cn_f ?_ | with_reducible refine ex0 ?_ | with_reducible refine ex1 ?_ | with_reducible refine ex2 ?_)
  refine beN und34 ?_
  repeat (first | with_reducible refine nc_s ?_ | with_reducible refine fa_0 ?_ | with_reducible refine fa_s ?_ | with_reducible refine ldB ?_ | with_reducible refine ldaB ?_ | with_reducible refine ldnB ?_ | with_reducible refine gd_t ?_ | with_reducible refine gd_f (by simp) ?_ | with_reducible refine an_s (ldB rfl) ?_ | with_reducible refine an_s (ldaB rfl) ?_ | with_reducible refine an_s (gd_t (ldaB rfl)) ?_ | with_reducible refine an_s (gd_t (ldB rfl)) ?_ | with_reducible refine an_s (gd_f (by simp) rfl) ?_ | with_reducible refine lnM ?_ | with_reducible refine lnB ?_ | with_reducible refine lnT_s ?_ | with_reducible refine mf_s ?_ | with_reducible refine pk_t ?_ | with_reducible refine pk_f ?_ | with_reducible refine nt_t ?_ | with_reducible refine nt_f ?_ | with_reducible refine cn_t ?_ | with_reducible refine cn_f ?_ | with_reducible refine ex0 ?_ | with_reducible refine ex1 ?_ | with_reducible refine ex2 ?_)
  refine clB (s101 H) ?_ b101
  rintro _ h3 ⟨rfl, H⟩
  refine bdB (Mk.c mA) ?_
  refine bslB (Mk.c mA) fun y h4 H => ?_
  have H := Hs.vecOf (z := 3) (n := 1) (es := [mA].map Mk.c) H rfl rfl (by simp [Mk.c]) (by simp [Mk.c, oneC])
  refine clB (s100 (m := l) (so := s) (reg := 1) (rows := []) (G := []) (D := []) (t := tg1) (marks := [mA]) (M := vec 3 (sl y 0 1 1) ([mA].map Mk.c)) (by omega) (by decide) (by decide) (fun h rs H => H.sr) (by decide) H.pl) ?_ b100
  rintro _ h5 H
  have H := (H (sG1, []) (by kernel_rfl)).2
  refine clB (s101 H) ?_ b101
  rintro _ h6 ⟨rfl, H⟩
  refine bdB (Mk.c mA) ?_
  refine bdB (Mk.c mB) ?_
  refine bslB (Mk.c mA ++ Mk.c mB) fun z h7 H => ?_
  have H := Hs.vecOf (z := 3) (n := 2) (es := [mA, mB].map Mk.c) H rfl rfl (by simp [Mk.c]) (by simp [Mk.c, oneC])
  refine clB (s100 (m := l) (so := s) (reg := 1) (rows := []) (G := sG1) (D := []) (t := tg2) (marks := [mA, mB]) (M := vec 3 (sl z 0 2 2) ([mA, mB].map Mk.c)) (by omega) (by decide) (by decide) (fun h rs H => H.sr) (by decide) H.pl) ?_ b100
  rintro _ h8 H
  have H := (H (sG2, []) (by kernel_rfl)).2
  have hz : szG sG2 = 3 := by kernel_rfl
  refine clB (s101 H) ?_ b101
  rintro _ h9 ⟨rfl, H⟩
  refine clB (s28 (m := l) (G := sG2) (D := []) (t := tg1) (by omega) H.pl) ?_ b28
  rintro _ h10 ⟨rfl, H⟩
  refine clB (s101 H) ?_ b101
  rintro _ h11 ⟨rfl, H⟩
  refine clB (s28 (m := l) (G := sG2) (D := []) (t := tg2) (by omega) H.pl) ?_ b28
  rintro _ h12 ⟨rfl, H⟩
  have r1 : readyB tg1 sG2 = true := by kernel_rfl
  have r2 : readyB tg2 sG2 = false := by kernel_rfl
  rw [r1, r2]
  refine clB (s101 H) ?_ b101
  rintro _ h13 ⟨rfl, H⟩
  have hns2 := (H.pl (ts := SL.sz h.size :: _)).los hns
  refine clB (s26 (m := l) (G := sG2) (D := []) (t := tg2) (rs := SL.sz h.size :: rs) (by omega) (by simp) (lo_sz hns2) H.pl) ?_ b26
  rintro v23 h14 ⟨ks, hp, _, H⟩
  have hah : ahd tg2 sG2 ks = [tg1] := by
    have hk : keysOf sG2 = [kA, kB] := by kernel_rfl
    rw [hk] at hp
    have a1 : ahd tg2 sG2 [kA, kB] = [tg1] := by kernel_rfl
    have a2 : ahd tg2 sG2 [kB, kA] = [tg1] := by kernel_rfl
    rcases perm2 hp with e | e
    · rw [e]; exact a1
    · rw [e]; exact a2
  rw [hah] at H
  refine clB (s101 H) ?_ b101
  rintro _ h15 ⟨rfl, H⟩
  refine clB (s25 (m := l) (G := sG2) (D := []) (t := tg1) (by omega) H.pl) ?_ b25
  rintro _ h16 H
  repeat (first | with_reducible refine nc_s ?_ | with_reducible refine fa_0 ?_ | with_reducible refine fa_s ?_ | with_reducible refine ldB ?_ | with_reducible refine ldaB ?_ | with_reducible refine ldnB ?_ | with_reducible refine gd_t ?_ | with_reducible refine gd_f (by simp) ?_ | with_reducible refine an_s (ldB rfl) ?_ | with_reducible refine an_s (ldaB rfl) ?_ | with_reducible refine an_s (gd_t (ldaB rfl)) ?_ | with_reducible refine an_s (gd_t (ldB rfl)) ?_ | with_reducible refine an_s (gd_f (by simp) rfl) ?_ | with_reducible refine lnM ?_ | with_reducible refine lnB ?_ | with_reducible refine lnT_s ?_ | with_reducible refine mf_s ?_ | with_reducible refine pk_t ?_ | with_reducible refine pk_f ?_ | with_reducible refine nt_t ?_ | with_reducible refine nt_f ?_ | with_reducible refine cn_t ?_ | with_reducible refine cn_f ?_ | with_reducible refine ex0 ?_ | with_reducible refine ex1 ?_ | with_reducible refine ex2 ?_)
  refine clB (s101 H) ?_ b101
  rintro _ h17 ⟨rfl, H⟩
  repeat (first | with_reducible refine nc_s ?_ | with_reducible refine fa_0 ?_ | with_reducible refine fa_s ?_ | with_reducible refine ldB ?_ | with_reducible refine ldaB ?_ | with_reducible refine ldnB ?_ | with_reducible refine gd_t ?_ | with_reducible refine gd_f (by simp) ?_ | with_reducible refine an_s (ldB rfl) ?_ | with_reducible refine an_s (ldaB rfl) ?_ | with_reducible refine an_s (gd_t (ldaB rfl)) ?_ | with_reducible refine an_s (gd_t (ldB rfl)) ?_ | with_reducible refine an_s (gd_f (by simp) rfl) ?_ | with_reducible refine lnM ?_ | with_reducible refine lnB ?_ | with_reducible refine lnT_s ?_ | with_reducible refine mf_s ?_ | with_reducible refine pk_t ?_ | with_reducible refine pk_f ?_ | with_reducible refine nt_t ?_ | with_reducible refine nt_f ?_ | with_reducible refine cn_t ?_ | with_reducible refine cn_f ?_ | with_reducible refine ex0 ?_ | with_reducible refine ex1 ?_ | with_reducible refine ex2 ?_)
  refine bslB (Tg.c tg1) fun u h18 H => ?_
  have H := Hs.vecOf (z := 4) (n := 1) (es := [tg1].map Tg.c) H rfl rfl (by simp [Tg.c]) (by simp [Tg.c, oneC])
  repeat (first | with_reducible refine nc_s ?_ | with_reducible refine fa_0 ?_ | with_reducible refine fa_s ?_ | with_reducible refine ldB ?_ | with_reducible refine ldaB ?_ | with_reducible refine ldnB ?_ | with_reducible refine gd_t ?_ | with_reducible refine gd_f (by simp) ?_ | with_reducible refine an_s (ldB rfl) ?_ | with_reducible refine an_s (ldaB rfl) ?_ | with_reducible refine an_s (gd_t (ldaB rfl)) ?_ | with_reducible refine an_s (gd_t (ldB rfl)) ?_ | with_reducible refine an_s (gd_f (by simp) rfl) ?_ | with_reducible refine lnM ?_ | with_reducible refine lnB ?_ | with_reducible refine lnT_s ?_ | with_reducible refine mf_s ?_ | with_reducible refine pk_t ?_ | with_reducible refine pk_f ?_ | with_reducible refine nt_t ?_ | with_reducible refine nt_f ?_ | with_reducible refine cn_t ?_ | with_reducible refine cn_f ?_ | with_reducible refine ex0 ?_ | with_reducible refine ex1 ?_ | with_reducible refine ex2 ?_)
  refine clB (s29 (s := v23) (l := [tg1]) (s' := sl u 0 1 1) (l' := [tg1]) (by simp) H.pl) ?_ b29
  rintro _ h19 ⟨rfl, H⟩
  rw [decide_eq_true (rfl : [tg1] = [tg1])]
  repeat (first | with_reducible refine nc_s ?_ | with_reducible refine fa_0 ?_ | with_reducible refine fa_s ?_ | with_reducible refine ldB ?_ | with_reducible refine ldaB ?_ | with_reducible refine ldnB ?_ | with_reducible refine gd_t ?_ | with_reducible refine gd_f (by simp) ?_ | with_reducible refine an_s (ldB rfl) ?_ | with_reducible refine an_s (ldaB rfl) ?_ | with_reducible refine an_s (gd_t (ldaB rfl)) ?_ | with_reducible refine an_s (gd_t (ldB rfl)) ?_ | with_reducible refine an_s (gd_f (by simp) rfl) ?_ | with_reducible refine lnM ?_ | with_reducible refine lnB ?_ | with_reducible refine lnT_s ?_ | with_reducible refine mf_s ?_ | with_reducible refine pk_t ?_ | with_reducible refine pk_f ?_ | with_reducible refine nt_t ?_ | with_reducible refine nt_f ?_ | with_reducible refine cn_t ?_ | with_reducible refine cn_f ?_ | with_reducible refine ex0 ?_ | with_reducible refine ex1 ?_ | with_reducible refine ex2 ?_)
  refine clB (s101 H) ?_ b101
  rintro _ h20 ⟨rfl, H⟩
  repeat (first | with_reducible refine nc_s ?_ | with_reducible refine fa_0 ?_ | with_reducible refine fa_s ?_ | with_reducible refine ldB ?_ | with_reducible refine ldaB ?_ | with_reducible refine ldnB ?_ | with_reducible refine gd_t ?_ | with_reducible refine gd_f (by simp) ?_ | with_reducible refine an_s (ldB rfl) ?_ | with_reducible refine an_s (ldaB rfl) ?_ | with_reducible refine an_s (gd_t (ldaB rfl)) ?_ | with_reducible refine an_s (gd_t (ldB rfl)) ?_ | with_reducible refine an_s (gd_f (by simp) rfl) ?_ | with_reducible refine lnM ?_ | with_reducible refine lnB ?_ | with_reducible refine lnT_s ?_ | with_reducible refine mf_s ?_ | with_reducible refine pk_t ?_ | with_reducible refine pk_f ?_ | with_reducible refine nt_t ?_ | with_reducible refine nt_f ?_ | with_reducible refine cn_t ?_ | with_reducible refine cn_f ?_ | with_reducible refine ex0 ?_ | with_reducible refine ex1 ?_ | with_reducible refine ex2 ?_)
  have hz2 : szG (lvG tg1 sG2) ≤ 3 := by have := lvG_sz tg1 sG2; omega
  refine clB (s28 (m := l) (G := lvG tg1 sG2) (t := tg2) (by omega) H.pl) ?_ b28
  rintro _ h21 ⟨rfl, H⟩
  have r3 : readyB tg2 (lvG tg1 sG2) = true := by kernel_rfl
  rw [r3]
  repeat (first | with_reducible refine nc_s ?_ | with_reducible refine fa_0 ?_ | with_reducible refine fa_s ?_ | with_reducible refine ldB ?_ | with_reducible refine ldaB ?_ | with_reducible refine ldnB ?_ | with_reducible refine gd_t ?_ | with_reducible refine gd_f (by simp) ?_ | with_reducible refine an_s (ldB rfl) ?_ | with_reducible refine an_s (ldaB rfl) ?_ | with_reducible refine an_s (gd_t (ldaB rfl)) ?_ | with_reducible refine an_s (gd_t (ldB rfl)) ?_ | with_reducible refine an_s (gd_f (by simp) rfl) ?_ | with_reducible refine lnM ?_ | with_reducible refine lnB ?_ | with_reducible refine lnT_s ?_ | with_reducible refine mf_s ?_ | with_reducible refine pk_t ?_ | with_reducible refine pk_f ?_ | with_reducible refine nt_t ?_ | with_reducible refine nt_f ?_ | with_reducible refine cn_t ?_ | with_reducible refine cn_f ?_ | with_reducible refine ex0 ?_ | with_reducible refine ex1 ?_ | with_reducible refine ex2 ?_)
  exact ⟨rfl, H.pl⟩
end Go.Proofs.YtalknmdbamlabaaGreat.Q
