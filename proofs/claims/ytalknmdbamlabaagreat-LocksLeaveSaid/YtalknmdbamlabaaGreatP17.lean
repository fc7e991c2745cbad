/- Tags: Index, Contains, Same. Conditions: none. -/
import Derived.Test.YtalknmdbamlabaaGreatP16
namespace Go.Proofs.YtalknmdbamlabaaGreat.Q
open Go
open SL (bk bkn mp old it exS puS emS stS)
theorem s101 {h : Hp} {rs : List SL} {n : Int} (H : Hs h rs) : FnW Tryz.prog 101 #[vu n] (fun v h' => v = .agg (Tg.c (0, 0, n, 0)).toArray ∧ Hs h' rs) h := by
  refine c101 ?_
  unfold C101
  refine alS H fun x h H => bd_s [vi 0, vu 0, vu n] rfl (bd_s (Tg.c (0, 0, n, 0)) rfl (staS H rfl rfl (Tg.one _) fun h H => ldaS H rfl ⟨rfl, H.drop⟩))
theorem s116 {h : Hp} {rs : List SL} {s : Value} {l : List Tg} {t : Tg} (hl : l.length ≤ 1000000000) (H : Hs h (tgs s l :: rs)) :
    FnW Tryz.prog 116 #[s, .agg (Tg.c t).toArray] (fun v h' => ((v = vi (-1) ∧ t ∉ l) ∨ ∃ i : Nat, v = vi i ∧ l[i]? = some t ∧ t ∉ l.take i) ∧ Hs h' (tgs s l :: rs)) h := by
  refine c116 ?_
  unfold C116
  refine bxS H fun x h H => ?_
  have H : Hs h (bk x (Tg.c t) :: tgs s l :: rs) := by simpa [Value.cells] using H
  refine lnV H.p1 ?_
  rw [List.length_map]
  refine lp1 l.length (fun i h => Hs h (bk x (Tg.c t) :: tgs s l :: rs) ∧ t ∉ l.take i) ⟨H, by simp⟩ ?_
  rintro i h σ0 nx hi ⟨H, hno⟩ hnx
  refine cn_lss (fun hlt => ?_) fun hge => ?_
  · have hlt : i < l.length := by omega
    have hm : i < (l.map Tg.c).length := by rw [List.length_map]; exact hlt
    refine ldaS H rfl (ixV H.p1 i rfl hm fun b hrd => ?_)
    rw [List.getElem_map] at hrd
    refine ldnR hrd rfl (beT (cn_s (fun he => ?_) fun he => ?_))
    · have he : t = l[i] := by simpa using he
      exact ⟨.inr ⟨i, rfl, by rw [List.getElem?_eq_getElem hlt, ← he], hno⟩, H.drop⟩
    · have he : ¬ t = l[i] := by simpa using he
      refine nx_add i (by omega) (hnx h hlt ⟨H, ?_⟩)
      rw [List.take_succ_eq_append_getElem hlt]
      simp only [List.mem_append, List.mem_singleton, not_or]
      exact ⟨hno, he⟩
  · have : i = l.length := by omega
    subst this
    rw [List.take_length] at hno
    exact ⟨.inl ⟨rfl, hno⟩, H.drop⟩
theorem s117 {h : Hp} {rs : List SL} {s : Value} {l : List Tg} {t : Tg} (hl : l.length ≤ 1000000000) (H : Hs h (tgs s l :: rs)) :
    FnW Tryz.prog 117 #[s, .agg (Tg.c t).toArray] (fun v h' => v = .bool (decide (t ∈ l)) ∧ Hs h' (tgs s l :: rs)) h := by
  refine c117 ?_
  unfold C117
  refine bxS H fun x h H => ?_
  have H : Hs h (bk x (Tg.c t) :: tgs s l :: rs) := by simpa [Value.cells] using H
  refine ldaS H rfl (cl_s b116 (s116 (l := l) hl H.p1) ?_)
  rintro _ h ⟨⟨rfl, hno⟩ | ⟨i, rfl, hi, _⟩, H⟩
  · exact bn_s (.bool false) rfl ⟨by rw [decide_eq_false hno], H.p1.drop⟩
  · have hin : t ∈ l := List.mem_of_getElem? hi
    exact bn_s (.bool true) (by simp [binV, intV]) ⟨by rw [decide_eq_true hin], H.p1.drop⟩
theorem s29 {h : Hp} {rs : List SL} {s s' : Value} {l l' : List Tg} (hl : l.length ≤ 1000000000) (H : Hs h (tgs s l :: tgs s' l' :: rs)) :
    FnW Tryz.prog 29 #[s, s'] (fun v h' => v = .bool (decide (l = l')) ∧ Hs h' (tgs s l :: tgs s' l' :: rs)) h := by
  refine c29 ?_
  unfold C29
  refine lnV H (lnV H.p1 ?_)
  rw [List.length_map, List.length_map]
  refine cn_neq (fun hne => ?_) fun heq => ?_
  · have : ¬ l = l' := fun e => hne (by rw [e])
    exact ⟨by rw [decide_eq_false this], H⟩
  · have heq : l.length = l'.length := by omega
    refine lp1 l.length (fun i h => Hs h (tgs s l :: tgs s' l' :: rs) ∧ l.take i = l'.take i) ⟨H, by simp⟩ ?_
    rintro i h σ0 nx hi ⟨H, hsame⟩ hnx
    refine lnV H ?_
    rw [List.length_map]
    refine cn_lss (fun hlt => ?_) fun hge => ?_
    · have hlt : i < l.length := by omega
      have hlt' : i < l'.length := by omega
      have hm : i < (l.map Tg.c).length := by rw [List.length_map]; exact hlt
      have hm' : i < (l'.map Tg.c).length := by rw [List.length_map]; exact hlt'
      refine ixV H i rfl hm fun b hrd => ldnR hrd (by rw [List.getElem_map]; rfl) (ixV H.p1 i rfl hm' fun b' hrd' => ldnR hrd' (by rw [List.getElem_map]; rfl) ?_)
      rw [List.getElem_map, List.getElem_map]
      refine beT (cn_s (fun he => ?_) fun he => ?_)
      · have he : ¬ l[i] = l'[i] := by simpa using he
        refine ⟨?_, H⟩
        have : ¬ l = l' := by rintro rfl; exact he rfl
        rw [decide_eq_false this]
      · have he : l[i] = l'[i] := by simpa using he
        refine nx_add i (by omega) (hnx h hlt ⟨H, ?_⟩)
        rw [List.take_succ_eq_append_getElem hlt, List.take_succ_eq_append_getElem hlt', hsame, he]
    · have : i = l.length := by omega
      subst this
      rw [List.take_length, heq, List.take_length] at hsame
      exact ⟨by rw [decide_eq_true hsame], H⟩
theorem s21 {h : Hp} {rs : List SL} {reg : Int} (H : Hs h rs) : FnW Tryz.prog 21 #[vi reg] (fun v h' => ∃ m, v = pt m 0 ∧ Hs h' (refS m reg [] :: rs)) h := by
  refine c21 ?_
  unfold C21
  refine bd_s [vi reg, nilS] rfl (bxS H fun m h H => ⟨m, rfl, Hs.refS.2 ⟨nilS, List.Pairwise.nil, by simp, ?_⟩⟩)
  have H : Hs h (rws nilS [] :: bk m [vi reg, nilS] :: rs) := Hs.vec0 H
  exact H.p1
/-- nobody waits for a key. -/
def noneAt (k : ByteArray) (G : GS) : Bool := decide ((lineOf k G).length + (parkOf k G).length = 0)
theorem s112 {h : Hp} {rs : List SL} {m l : Nat} {G : GS} {D : List Tg} {k : ByteArray} (hk : k ∈ G.map (·.1)) (hsz : szG G ≤ 1000000000) (H : Hs h (bk l [pt m 0] :: locksR m G D :: rs)) :
    FnW Tryz.prog 112 #[.string k, pt l 0] (fun v h' => v = .bool (noneAt k G) ∧ Hs h' (bk l [pt m 0] :: locksR m G D :: rs)) h := by
  obtain ⟨g, d, L, eG, HL⟩ := Hs.locks.1 H.p1
  obtain ⟨i221, hi, hz⟩ := inf221
  refine c112 ?_
  unfold C112
  refine ld1S H (pt m 0) rfl (nc_s (fa_s (ld1S HL (.map (some g)) rfl (lookS keyStr und207 hi hz HL.p1 ?_))))
  rw [mval_gptr]
  cases hv : gval k L with
  | none =>
    have hno := gval_none hv
    rw [← eG, keys_gst] at hk
    obtain ⟨y, hy, e⟩ := List.mem_map.1 hk
    exact absurd e (hno y hy)
  | some x =>
    obtain ⟨A, B, e, hno⟩ := gval_mem hv
    have hgv : gval k G = some (x.ln, x.pk) := by rw [← eG, e]; exact gval_mid hno
    have hx : (k, (x.ln, x.pk)) ∈ G := by rw [← eG, e]; simp [gst, mapV]
    have hlen := szG_mem hx
    simp only [] at hlen
    have h1 : lineOf k G = x.ln := by unfold lineOf; rw [hgv]; rfl
    have h2 : parkOf k G = x.pk := by unfold parkOf; rw [hgv]; rfl
    rw [e] at HL
    have H2 := gate_open.1 HL
    refine nc_s (fa_s (ld1S H2 x.sl rfl (lnV H2.p1 (nc_s (fa_s (ld1S H2 x.sp rfl (lnV H2.p2 ?_)))))))
    rw [List.length_map, List.length_map]
    refine bn_add (by omega) (by omega) ?_
    refine bn_s (.bool (((x.ln.length : Int) + (x.pk.length : Int) == 0))) (by simp [binV, intV]) ⟨?_, H⟩
    rw [noneAt, h1, h2]
    have e3 : (((x.ln.length : Int) + (x.pk.length : Int)) == 0) = decide (x.ln.length + x.pk.length = 0) := by
      rw [Bool.eq_iff_iff, beq_iff_eq, decide_eq_true_iff]; omega
    rw [e3]
end Go.Proofs.YtalknmdbamlabaaGreat.Q
