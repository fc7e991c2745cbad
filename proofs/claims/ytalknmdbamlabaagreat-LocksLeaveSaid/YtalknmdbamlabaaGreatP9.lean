/- The reference's locks: Leave, Moved, Enter. Conditions: none. -/
import Derived.Test.YtalknmdbamlabaaGreatP8
namespace Go.Proofs.YtalknmdbamlabaaGreat.Q
open Go
open SL (bk bkn mp old exS puS emS stS)
/-- append(append([]T{}, s...), x), in each order. -/
def AP3 (z : List Value) (by_ e w : Nat) (L : A) (CK : A → A) (v34 v37 : Value) (F : Value → A) : A :=
  an2 (bsl z e 0 [] fun v38 => an2 L <| CK <| an2 (apd z by_ e v38 v34 fun v39 => CK <| bsl z e 1 [(0, w, v37)] fun v40 => an2 L <| apd z by_ e v39 v40 F)
    (bsl z e 1 [(0, w, v37)] fun v44 => an2 L <| apd z by_ e v38 v34 fun v45 => CK <| apd z by_ e v45 v44 F))
  (bsl z e 1 [(0, w, v37)] fun v49 => an2 L <| bsl z e 0 [] fun v50 => an2 L <| CK <| apd z by_ e v50 v34 fun v51 => CK <| apd z by_ e v51 v49 F)
theorem ap3 {h : Hp} {rs : List SL} {z : List Value} {zn by_ e w : Nat} {s : Value} {es : List (List Value)} {x : List Value} {L : A} {CK : A → A} {F : Value → A} (H : Hs h (vec zn s es :: rs)) (hzn : z.length = zn) (hw : w = zn) (hz : ∀ u ∈ z, oneC u = true)
    (hx : x.length = zn) (h1 : ∀ u ∈ x, oneC u = true) (hb : (es.length + 1) * by_ ≤ 140737488355328) (hb' : es.length + 1 ≤ 9223372036854775807)
    (hL : ∀ h X Y, Hs h (X :: Y :: vec zn s es :: rs) → L h) (hC : ∀ h X Y Z, Hs h (X :: Y :: vec zn s es :: rs) → Z h → CK Z h)
    (k : ∀ s' h', Hs h' (vec zn s' (es ++ [x]) :: vec zn s es :: rs) → F s' h') : AP3 z by_ e w L CK s (.agg x.toArray) F h := by
  have hf : fill2 (rep z 1) [(0, w, .agg x.toArray)] = some x := by
    subst hw; subst hzn
    simp [fill2, rep, Value.cells, hx]
  have b0 : (([] : List (List Value)).length + es.length) * by_ ≤ 140737488355328 := by
    rw [List.length_nil, Nat.zero_add]; exact Nat.le_trans (Nat.mul_le_mul_right _ (Nat.le_succ _)) hb
  have b1 : ([] : List (List Value)).length + es.length ≤ 9223372036854775807 := by rw [List.length_nil]; omega
  refine ⟨?_, ?_⟩
  · refine bslS H [] rfl fun o h H => ?_
    have H : Hs h (vec zn (sl o 0 0 0) [] :: vec zn s es :: rs) := Hs.vec1 (v00 zn) H
    refine ⟨hL h emS _ (Hs.em.2 H), hC h emS _ _ (Hs.em.2 H) ⟨?_, ?_⟩⟩
    · refine apA z H hzn hz b0 b1 fun s1 h H => hC h emS _ _ (Hs.em.2 H) (bslS H x hf fun y h H => ⟨hL h _ _ H, ?_⟩)
      exact ap1 z H.p1 hzn hz hx h1 hb hb' k
    · refine bslS H x hf fun y h H => ⟨hL h _ _ H, ?_⟩
      refine apA z (H.perm (rs' := vec zn (sl o 0 0 0) [] :: vec zn s es :: bk y x :: rs) (by repeat (first | with_reducible exact List.Perm.refl _ | with_reducible refine pm0 ?_ | with_reducible refine pm1 ?_ | with_reducible refine pm2 ?_ | with_reducible refine pm3 ?_ | with_reducible refine pm4 ?_ | with_reducible refine pm5 ?_ | with_reducible refine pm6 ?_ | with_reducible refine pm7 ?_ | with_reducible refine pm8 ?_ | with_reducible refine pm9 ?_ | with_reducible refine pm10 ?_ | with_reducible refine pm11 ?_ | with_reducible refine pm12 ?_ | with_reducible refine pm13 ?_))) hzn hz b0 b1 fun s1 h H => ?_
      have H := H.perm (rs' := vec zn s1 ([] ++ es) :: bk y x :: vec zn s es :: rs) (by repeat (first | with_reducible exact List.Perm.refl _ | with_reducible refine pm0 ?_ | with_reducible refine pm1 ?_ | with_reducible refine pm2 ?_ | with_reducible refine pm3 ?_ | with_reducible refine pm4 ?_ | with_reducible refine pm5 ?_ | with_reducible refine pm6 ?_ | with_reducible refine pm7 ?_ | with_reducible refine pm8 ?_ | with_reducible refine pm9 ?_ | with_reducible refine pm10 ?_ | with_reducible refine pm11 ?_ | with_reducible refine pm12 ?_ | with_reducible refine pm13 ?_))
      exact hC h _ _ _ H (ap1 z H hzn hz hx h1 hb hb' k)
  · refine bslS H x hf fun y h H => ⟨hL h emS _ (Hs.em.2 H), bslS H [] rfl fun o h H => ?_⟩
    have H : Hs h (vec zn (sl o 0 0 0) [] :: bk y x :: vec zn s es :: rs) := Hs.vec1 (v00 zn) H
    refine ⟨hL h _ _ H, hC h _ _ _ H ?_⟩
    refine apA z (H.perm (rs' := vec zn (sl o 0 0 0) [] :: vec zn s es :: bk y x :: rs) (by repeat (first | with_reducible exact List.Perm.refl _ | with_reducible refine pm0 ?_ | with_reducible refine pm1 ?_ | with_reducible refine pm2 ?_ | with_reducible refine pm3 ?_ | with_reducible refine pm4 ?_ | with_reducible refine pm5 ?_ | with_reducible refine pm6 ?_ | with_reducible refine pm7 ?_ | with_reducible refine pm8 ?_ | with_reducible refine pm9 ?_ | with_reducible refine pm10 ?_ | with_reducible refine pm11 ?_ | with_reducible refine pm12 ?_ | with_reducible refine pm13 ?_))) hzn hz b0 b1 fun s1 h H => ?_
    have H := H.perm (rs' := vec zn s1 ([] ++ es) :: bk y x :: vec zn s es :: rs) (by repeat (first | with_reducible exact List.Perm.refl _ | with_reducible refine pm0 ?_ | with_reducible refine pm1 ?_ | with_reducible refine pm2 ?_ | with_reducible refine pm3 ?_ | with_reducible refine pm4 ?_ | with_reducible refine pm5 ?_ | with_reducible refine pm6 ?_ | with_reducible refine pm7 ?_ | with_reducible refine pm8 ?_ | with_reducible refine pm9 ?_ | with_reducible refine pm10 ?_ | with_reducible refine pm11 ?_ | with_reducible refine pm12 ?_ | with_reducible refine pm13 ?_))
    exact hC h _ _ _ H (ap1 z H hzn hz hx h1 hb hb' k)
/-! Look -/
def lk (rh rc : Int) (m : Mk) : Int := if rc < m.2.2 then 1 else if m.2.2 = rc ∧ m.2.1 = rh then 0 else 2
theorem s223 {h : Hp} {rs : List SL} {a b : Value} {rh rc : Int} {m : Mk} (H : Hs h rs) : FnW Tryz.prog 223 #[.agg #[a, b, vi rh, vu rc], .agg (Mk.c m).toArray] (fun v h' => v = vi (lk rh rc m) ∧ Hs h' rs) h := by
  refine c223 ?_
  unfold C223
  refine bxS H fun r h H => bxS H fun x h H => ?_
  have H : Hs h (bk x (Mk.c m) :: bk r [a, b, vi rh, vu rc] :: rs) := by simpa [Value.cells] using H
  refine fa_s (ld1S H (vu m.2.2) rfl (fa_s (ld1S H.p1 (vu rc) rfl (cn_gtr (fun hgt => ?_) fun hle => ?_))))
  · exact ⟨by rw [lk, if_pos hgt], H.drop.drop⟩
  · refine fa_s (ld1S H (vu m.2.2) rfl (fa_s (ld1S H.p1 (vu rc) rfl (bn_s (.bool (decide (m.2.2 < rc))) (by simp [binV, intV]) ?_))))
    by_cases hlt : m.2.2 < rc
    · rw [decide_eq_true hlt]
      refine gd_f (by simp) (gd_f (by simp) (gd_f (by simp) (gd_f (by simp) (gd_f (by simp) (pk_s (cn_t ⟨?_, H.drop.drop⟩))))))
      rw [lk, if_neg (by omega), if_neg (by omega)]
    · rw [decide_eq_false hlt]
      refine gd_t (fa_s (gd_t (ld1S H (vi m.2.1) rfl (gd_t (fa_s (gd_t (ld1S H.p1 (vi rh) rfl (gd_t (bn_s (.bool (m.2.1 != rh)) (by simp [binV, intV]) (pk_s (cn_s (fun he => ?_) fun he => ?_)))))))))))
      · have he : ¬ m.2.1 = rh := by simpa using he
        exact ⟨by rw [lk, if_neg (by omega), if_neg (by omega)], H.drop.drop⟩
      · have he : m.2.1 = rh := by simpa using he
        exact ⟨by rw [lk, if_neg (by omega), if_pos ⟨by omega, he⟩], H.drop.drop⟩
theorem s219 {h : Hp} {rs : List SL} {a b : Value} {rh rc : Int} {m : Mk} (H : Hs h rs) : FnW Tryz.prog 219 #[.agg #[a, b, vi rh, vu rc], .agg (Mk.c m).toArray] (fun v h' => v = vi (lk rh rc m) ∧ Hs h' rs) h := by
  refine c219 ?_
  unfold C219
  refine bxS H fun r h H => bxS H fun x h H => ?_
  have H : Hs h (bk x (Mk.c m) :: bk r [a, b, vi rh, vu rc] :: rs) := by simpa [Value.cells] using H
  refine fa_s (ld1S H (vu m.2.2) rfl (fa_s (ld1S H.p1 (vu rc) rfl (cn_gtr (fun hgt => ?_) fun hle => ?_))))
  · exact ⟨by rw [lk, if_pos hgt], H.drop.drop⟩
  · refine fa_s (ld1S H (vu m.2.2) rfl (fa_s (ld1S H.p1 (vu rc) rfl (bn_s (.bool (m.2.2 == rc)) (by simp [binV, intV]) ?_))))
    by_cases hlt : m.2.2 = rc
    · rw [show (m.2.2 == rc) = true from by simpa using hlt]
      refine gd_t (fa_s (gd_t (ld1S H (vi m.2.1) rfl (gd_t (fa_s (gd_t (ld1S H.p1 (vi rh) rfl (gd_t (bn_s (.bool (m.2.1 == rh)) (by simp [binV, intV]) (pk_s (cn_s (fun he => ?_) fun he => ?_)))))))))))
      · have he : m.2.1 = rh := by simpa using he
        exact ⟨by rw [lk, if_neg (by omega), if_pos ⟨hlt, he⟩], H.drop.drop⟩
      · have he : ¬ m.2.1 = rh := by simpa using he
        exact ⟨by rw [lk, if_neg (by omega), if_neg (by omega)], H.drop.drop⟩
    · rw [show (m.2.2 == rc) = false from by simpa using hlt]
      refine gd_f (by simp) (gd_f (by simp) (gd_f (by simp) (gd_f (by simp) (gd_f (by simp) (pk_s (cn_f ⟨?_, H.drop.drop⟩))))))
      rw [lk, if_neg (by omega), if_neg (by omega)]
/-! the locks -/
/-- line, parked, doomed. -/
def refL (m : Nat) (line park : List Cm) (doom : List Tg) : SL := exS fun s : Value × Value × Value => sep [bk m [s.1, s.2.1, s.2.2], cms s.1 line, cms s.2.1 park, tgs s.2.2 doom]
theorem Hs.refL {h : Hp} {m : Nat} {line park : List Cm} {doom : List Tg} {rs : List SL} : Hs h (Q.refL m line park doom :: rs) ↔ ∃ a b c, Hs h (bk m [a, b, c] :: cms a line :: cms b park :: tgs c doom :: rs) := by
  constructor
  · intro H
    obtain ⟨⟨a, b, c⟩, H⟩ := Hs.ex.1 H
    exact ⟨a, b, c, Hs.join.1 H⟩
  · rintro ⟨a, b, c, H⟩
    exact Hs.ex.2 ⟨(a, b, c), Hs.join.2 H⟩
theorem s103 {h : Hp} {rs : List SL} {m : Nat} {line park : List Cm} {doom : List Tg} {t : Tg} (h1 : line.length ≤ 1000000) (h2 : park.length ≤ 1000000) (h3 : doom.length ≤ 1000000) (H : Hs h (refL m line park doom :: rs)) :
    FnW Tryz.prog 103 #[pt m 0, .agg (Tg.c t).toArray] (fun v h' => Hs h' (refL m (line.filter fun c => decide (c.1 ≠ t)) (park.filter fun c => decide (c.1 ≠ t)) (doom.filter fun c => decide (c ≠ t)) :: rs)) h := by
  obtain ⟨a, b, c, H⟩ := Hs.refL.1 H
  refine c103 ?_
  unfold C103
  refine bxS H fun x h H => ?_
  have H : Hs h (bk x (Tg.c t) :: bk m [a, b, c] :: cms a line :: cms b park :: tgs c doom :: rs) := by simpa [Value.cells] using H
  refine nc_s (fa_s (ld1S H.p1 a rfl (ldaS H rfl (cl_s b220 (s220 (l := line) (rs := bk x (Tg.c t) :: bk m [a, b, c] :: cms b park :: tgs c doom :: rs) (by omega) (H.perm (by repeat (first | with_reducible exact List.Perm.refl _ | with_reducible refine pm0 ?_ | with_reducible refine pm1 ?_ | with_reducible refine pm2 ?_ | with_reducible refine pm3 ?_ | with_reducible refine pm4 ?_ | with_reducible refine pm5 ?_ | with_reducible refine pm6 ?_ | with_reducible refine pm7 ?_ | with_reducible refine pm8 ?_ | with_reducible refine pm9 ?_ | with_reducible refine pm10 ?_ | with_reducible refine pm11 ?_ | with_reducible refine pm12 ?_ | with_reducible refine pm13 ?_)))) fun a' h H => ?_))))
  refine nc_s (fa_s (st1S H.p3 H.vecC (by simp) fun h H => ?_))
  have H : Hs h (bk m [a', b, c] :: cms a' (line.filter fun c => decide (c.1 ≠ t)) :: cms a line :: bk x (Tg.c t) :: cms b park :: tgs c doom :: rs) := H
  refine nc_s (fa_s (ld1S H b rfl (ldaS H.p3 rfl (cl_s b220 (s220 (l := park) (rs := bk m [a', b, c] :: cms a' (line.filter fun c => decide (c.1 ≠ t)) :: cms a line :: bk x (Tg.c t) :: tgs c doom :: rs) (by omega) (H.perm (by repeat (first | with_reducible exact List.Perm.refl _ | with_reducible refine pm0 ?_ | with_reducible refine pm1 ?_ | with_reducible refine pm2 ?_ | with_reducible refine pm3 ?_ | with_reducible refine pm4 ?_ | with_reducible refine pm5 ?_ | with_reducible refine pm6 ?_ | with_reducible refine pm7 ?_ | with_reducible refine pm8 ?_ | with_reducible refine pm9 ?_ | with_reducible refine pm10 ?_ | with_reducible refine pm11 ?_ | with_reducible refine pm12 ?_ | with_reducible refine pm13 ?_)))) fun b' h H => ?_))))
  refine nc_s (fa_s (st1S H.p2 H.vecC (by simp) fun h H => ?_))
  have H : Hs h (bk m [a', b', c] :: cms b' (park.filter fun c => decide (c.1 ≠ t)) :: cms b park :: cms a' (line.filter fun c => decide (c.1 ≠ t)) :: cms a line :: bk x (Tg.c t) :: tgs c doom :: rs) := H
  refine bslS H [] rfl fun o h H => ?_
  have H : Hs h (tgs (sl o 0 0 0) [] :: bk m [a', b', c] :: cms b' (park.filter fun c => decide (c.1 ≠ t)) :: cms b park :: cms a' (line.filter fun c => decide (c.1 ≠ t)) :: cms a line :: bk x (Tg.c t) :: tgs c doom :: rs) := Hs.vec1 (v00 4) H
  have H := H.perm (rs' := cms b park :: cms a line :: tgs (sl o 0 0 0) [] :: bk m [a', b', c] :: tgs c doom :: bk x (Tg.c t) :: cms a' (line.filter fun c => decide (c.1 ≠ t)) :: cms b' (park.filter fun c => decide (c.1 ≠ t)) :: rs) (by repeat (first | with_reducible exact List.Perm.refl _ | with_reducible refine pm0 ?_ | with_reducible refine pm1 ?_ | with_reducible refine pm2 ?_ | with_reducible refine pm3 ?_ | with_reducible refine pm4 ?_ | with_reducible refine pm5 ?_ | with_reducible refine pm6 ?_ | with_reducible refine pm7 ?_ | with_reducible refine pm8 ?_ | with_reducible refine pm9 ?_ | with_reducible refine pm10 ?_ | with_reducible refine pm11 ?_ | with_reducible refine pm12 ?_ | with_reducible refine pm13 ?_))
  have H := H.drop.drop
  refine lp2 doom.length (fun i o h => Hs h (tgs o ((doom.take i).filter fun c => decide (c ≠ t)) :: bk m [a', b', c] :: tgs c doom :: bk x (Tg.c t) :: cms a' (line.filter fun c => decide (c.1 ≠ t)) :: cms b' (park.filter fun c => decide (c.1 ≠ t)) :: rs)) H ?_
  rintro i o h σ0 nx hi H hnx
  refine nc_s (fa_s (ld1S H.p1 c rfl (lnV H.p2 ?_)))
  rw [List.length_map]
  refine cn_lss (fun hlt => ?_) fun hge => ?_
  · have hlt : i < doom.length := by omega
    have hm : i < (doom.map Tg.c).length := by rw [List.length_map]; exact hlt
    intro k8 hk8
    have next : ∀ v h, Hs h (tgs v ((doom.take (i + 1)).filter fun c => decide (c ≠ t)) :: bk m [a', b', c] :: tgs c doom :: bk x (Tg.c t) :: cms a' (line.filter fun c => decide (c.1 ≠ t)) :: cms b' (park.filter fun c => decide (c.1 ≠ t)) :: rs) → k8 v h :=
      fun v h H => hk8 v h fun _ => nx_add i (by omega) (hnx v h hlt H)
    rw [List.take_succ_eq_append_getElem hlt, List.filter_append] at next
    refine nc_s (fa_s (ld1S H.p1 c rfl (ixV H.p2 i rfl hm fun b hrd => ?_)))
    rw [List.getElem_map] at hrd
    refine ldnR hrd rfl (ldaS H.p3 rfl (beT (cn_s (fun he => ?_) fun he => ?_)))
    · have he : ¬ doom[i] = t := by simpa using he
      refine nc_s (fa_s (ld1S H.p1 c rfl (ixV H.p2 i rfl hm fun b hrd => ldnR hrd (by rw [List.getElem_map]; rfl) ?_)))
      rw [List.getElem_map]
      refine bslS H (Tg.c doom[i]) (by simp [fill2, rep, Value.cells, Tg.c]) fun y h H => ?_
      have hfl : ((doom.take i).filter fun c => decide (c ≠ t)).length ≤ i := Nat.le_trans (List.length_filter_le ..) (by rw [List.length_take]; omega)
      refine ap1 [vi 0, vu 0, vu 0, vi 0] H.p1 rfl (by simp [oneC]) rfl (Tg.one _) (by simp only [List.length_map]; omega) (by simp only [List.length_map]; omega) fun s' h H => next s' h ?_
      rw [List.filter_cons_of_pos (by simpa using he), List.filter_nil]
      unfold tgs; rw [List.map_append]; exact H
    · have he : doom[i] = t := by simpa using he
      refine next o h ?_
      rw [List.filter_cons_of_neg (by simpa using he), List.filter_nil, List.append_nil]
      exact H
  · have : i = doom.length := by omega
    subst this
    rw [List.take_length] at H
    refine nc_s (fa_s (st1S H.p1 H.vecC (by simp) fun h H => Hs.refL.2 ⟨a', b', o, ?_⟩))
    have H : Hs h (bk m [a', b', o] :: tgs o (doom.filter fun c => decide (c ≠ t)) :: tgs c doom :: bk x (Tg.c t) :: cms a' (line.filter fun c => decide (c.1 ≠ t)) :: cms b' (park.filter fun c => decide (c.1 ≠ t)) :: rs) := H
    exact (H.perm (rs' := tgs c doom :: bk x (Tg.c t) :: bk m [a', b', o] :: cms a' (line.filter fun c => decide (c.1 ≠ t)) :: cms b' (park.filter fun c => decide (c.1 ≠ t)) :: tgs o (doom.filter fun c => decide (c ≠ t)) :: rs) (by repeat (first | with_reducible exact List.Perm.refl _ | with_reducible refine pm0 ?_ | with_reducible refine pm1 ?_ | with_reducible refine pm2 ?_ | with_reducible refine pm3 ?_ | with_reducible refine pm4 ?_ | with_reducible refine pm5 ?_ | with_reducible refine pm6 ?_ | with_reducible refine pm7 ?_ | with_reducible refine pm8 ?_ | with_reducible refine pm9 ?_ | with_reducible refine pm10 ?_ | with_reducible refine pm11 ?_ | with_reducible refine pm12 ?_ | with_reducible refine pm13 ?_))).drop.drop
end Go.Proofs.YtalknmdbamlabaaGreat.Q
