/- The locks: Leave, Ready. Conditions: none. -/
import Derived.Test.YtalknmdbamlabaaGreatP14
namespace Go.Proofs.YtalknmdbamlabaaGreat.Q
open Go
open SL (bk bkn mp old it exS puS emS stS)
theorem Hs.mitSub {κ : Type} {h : Hp} {r b : Nat} {kc : κ → Value} {l rem : List (κ × Value)} {cur : Option (κ × Value)} {rs : List SL} (H : Hs h (mitS r b kc l rem cur :: rs)) : (∀ y ∈ rem, y ∈ l) ∧ (l.map (·.1)).Nodup := by
  obtain ⟨bs, c, seen, ⟨hb, hnd, hlt, hk, hrem, _⟩, H⟩ := Hs.mit.1 H
  refine ⟨fun y hy => ?_, hk⟩
  rw [hrem] at hy
  obtain ⟨z, hz, rfl⟩ := List.mem_map.1 hy
  exact (List.of_mem_zip (List.mem_filter.1 hz).1).1
theorem nodup_key {α : Type} {l : List (ByteArray × α)} (h : (l.map (·.1)).Nodup) {x y : ByteArray × α} (hx : x ∈ l) (hy : y ∈ l) (e : x.1 = y.1) : x = y := by
  induction l with
  | nil => cases hx
  | cons z l ih =>
    rw [List.map_cons] at h
    obtain ⟨h1, h2⟩ := List.nodup_cons.1 h
    rcases List.mem_cons.1 hx with e1 | hx' <;> rcases List.mem_cons.1 hy with e2 | hy'
    · rw [e1, e2]
    · exact (h1 (List.mem_map.2 ⟨y, hy', by rw [← e, e1]⟩)).elim
    · exact (h1 (List.mem_map.2 ⟨x, hx', by rw [e, e2]⟩)).elim
    · exact ih h2 hx' hy'
/-- what Leave makes of a gate. -/
def lv (t : Tg) (x : List Cm × List Cm) : List Cm × List Cm := (x.1.filter fun c => decide (c.1 ≠ t), x.2.filter fun c => decide (c.1 ≠ t))
def lvG (t : Tg) (G : GS) : GS := mapV (lv t) G
def inK (k : ByteArray) (ks : List ByteArray) : Bool := ks.any fun j => decide (j = k)
theorem inK_iff {k : ByteArray} {ks : List ByteArray} : inK k ks = true ↔ k ∈ ks := by
  unfold inK
  rw [List.any_eq_true]
  constructor
  · rintro ⟨x, h1, h2⟩; have := of_decide_eq_true h2; exact this ▸ h1
  · exact fun h => ⟨k, h, by simp⟩
/-- some gates are done. -/
def part1G (f : List Cm × List Cm → List Cm × List Cm) (ks : List ByteArray) (G : GS) : GS := G.map fun y : ByteArray × (List Cm × List Cm) => if inK y.1 ks = true then y else (y.1, f y.2)
theorem part1G_all (f : List Cm × List Cm → List Cm × List Cm) (G : GS) : part1G f (G.map (·.1)) G = G := by
  unfold part1G
  conv => rhs; rw [← List.map_id G]
  exact List.map_congr_left fun y hy => if_pos (inK_iff.2 (List.mem_map_of_mem hy))
theorem part1G_nil (f : List Cm × List Cm → List Cm × List Cm) (G : GS) : part1G f [] G = mapV f G := by
  unfold part1G mapV
  exact List.map_congr_left fun y hy => by simp [inK]
theorem keys_gst (L : List GRow) : (gst L).map (·.1) = L.map (·.1) := keys_mapV _ L
theorem keys_gptr (L : List GRow) : (gptr L).map (·.1) = L.map (·.1) := keys_mapV _ L
theorem s25 {h : Hp} {rs : List SL} {m : Nat} {G : GS} {D : List Tg} {t : Tg} (hsz : szG G ≤ 1000000000) (H : Hs h (locksR m G D :: rs)) :
    FnW Tryz.prog 25 #[pt m 0, .agg (Tg.c t).toArray] (fun v h' => Hs h' (locksR m (lvG t G) (D.filter fun c => decide (c ≠ t)) :: rs)) h := by
  obtain ⟨g, d, L, eG, HL⟩ := Hs.locks.1 H
  refine c25 ?_
  unfold C25
  refine bxS HL fun x h H => ?_
  have H : Hs h (bk x (Tg.c t) :: bk m [.map (some g), .map (some d)] :: mpS g Value.string (gptr L) :: sep (L.map gR) :: mpS d tgV (dmp D) :: rs) := by simpa [Value.cells] using H
  refine nc_s (fa_s (ld1S H.p1 (.map (some g)) rfl (rangeS und207 H.p2 fun r h H => ?_)))
  refine ⟨fun n h => ∃ rem cur L', n = rem.length ∧ gptr L' = gptr L ∧ gst L' = part1G (lv t) (rem.map (·.1)) G ∧
      Hs h (mitS r g Value.string (gptr L) rem cur :: sep (L'.map gR) :: bk x (Tg.c t) :: bk m [.map (some g), .map (some d)] :: mpS d tgV (dmp D) :: rs),
    ⟨_, gptr L, none, L, rfl, rfl, ?_, H.perm (by repeat (first | with_reducible exact List.Perm.refl _ | with_reducible refine pm0 ?_ | with_reducible refine pm1 ?_ | with_reducible refine pm2 ?_ | with_reducible refine pm3 ?_ | with_reducible refine pm4 ?_ | with_reducible refine pm5 ?_ | with_reducible refine pm6 ?_ | with_reducible refine pm7 ?_ | with_reducible refine pm8 ?_ | with_reducible refine pm9 ?_ | with_reducible refine pm10 ?_ | with_reducible refine pm11 ?_ | with_reducible refine pm12 ?_ | with_reducible refine pm13 ?_))⟩, ?_⟩
  · rw [keys_gptr, ← keys_gst, eG, part1G_all]
  rintro n σ0 h ⟨rem, cur, L', rfl, ep, es, H⟩
  obtain ⟨hsub, hnd⟩ := H.mitSub
  refine nextS H (fun hr h H => ?_) fun y hy h H => ?_
  · subst hr
    refine ex_s _ rfl (cn_f (nc_s (fa_s (ld1S H.p3 (.map (some d)) rfl (ldaS H.p2 rfl (delM (kc := tgV) (k := t) keyTag und208 H.p4 fun h H => ?_))))))
    refine Hs.locks.2 ⟨g, d, L', ?_, ?_⟩
    · rw [es]; exact part1G_nil (lv t) G
    · have e : mdel t (dmp D) = dmp (D.filter fun c => decide (c ≠ t)) := by
        unfold mdel dmp; rw [List.filter_map]; rfl
      rw [e] at H
      have H := H.perm (rs' := mitS r g Value.string (gptr L) [] cur :: bk x (Tg.c t) :: bk m [.map (some g), .map (some d)] :: sep (L'.map gR) :: mpS d tgV (dmp (D.filter fun c => decide (c ≠ t))) :: rs) (by repeat (first | with_reducible exact List.Perm.refl _ | with_reducible refine pm0 ?_ | with_reducible refine pm1 ?_ | with_reducible refine pm2 ?_ | with_reducible refine pm3 ?_ | with_reducible refine pm4 ?_ | with_reducible refine pm5 ?_ | with_reducible refine pm6 ?_ | with_reducible refine pm7 ?_ | with_reducible refine pm8 ?_ | with_reducible refine pm9 ?_ | with_reducible refine pm10 ?_ | with_reducible refine pm11 ?_ | with_reducible refine pm12 ?_ | with_reducible refine pm13 ?_))
      have H := H.mitEnd
      rw [← ep] at H
      exact (H.perm (rs' := bk x (Tg.c t) :: bk m [.map (some g), .map (some d)] :: mpS g Value.string (gptr L') :: sep (L'.map gR) :: mpS d tgV (dmp (D.filter fun c => decide (c ≠ t))) :: rs) (by repeat (first | with_reducible exact List.Perm.refl _ | with_reducible refine pm0 ?_ | with_reducible refine pm1 ?_ | with_reducible refine pm2 ?_ | with_reducible refine pm3 ?_ | with_reducible refine pm4 ?_ | with_reducible refine pm5 ?_ | with_reducible refine pm6 ?_ | with_reducible refine pm7 ?_ | with_reducible refine pm8 ?_ | with_reducible refine pm9 ?_ | with_reducible refine pm10 ?_ | with_reducible refine pm11 ?_ | with_reducible refine pm12 ?_ | with_reducible refine pm13 ?_))).drop
  · obtain ⟨k, vy⟩ := y
    have hyl : (k, vy) ∈ gptr L' := by rw [ep]; exact hsub _ hy
    obtain ⟨z, hz, ez⟩ := List.mem_map.1 hyl
    obtain ⟨A, B, e⟩ := List.append_of_mem hz
    obtain ⟨k', gx⟩ := z
    simp only [Prod.mk.injEq] at ez
    obtain ⟨rfl, rfl⟩ := ez
    subst e
    have hkeys : ((A ++ (k', gx) :: B).map (·.1)).Nodup := by rw [← keys_gptr, ep]; exact hnd
    -- what the gate was
    have hrow : (k', (gx.ln, gx.pk)) ∈ part1G (lv t) (rem.map (·.1)) G := by rw [← es]; simp [gst, mapV]
    obtain ⟨w, hw, ew⟩ := List.mem_map.1 hrow
    have hwk : w.1 = k' := by split at ew <;> exact congrArg Prod.fst ew
    have hin : w.1 ∈ rem.map (·.1) := by rw [hwk]; exact List.mem_map_of_mem hy
    rw [if_pos (inK_iff.2 hin)] at ew
    subst ew
    have hlen := szG_mem hw
    simp only [] at hlen
    refine ex_s _ rfl (cn_t (entryS H (ex_s _ rfl ?_)))
    have H := H.perm (rs' := sep ((A ++ (k', gx) :: B).map gR) :: mitS r g Value.string (gptr L) (mdel k' rem) (some (k', pt gx.b 0)) :: bk x (Tg.c t) :: bk m [.map (some g), .map (some d)] :: mpS d tgV (dmp D) :: rs) (by repeat (first | with_reducible exact List.Perm.refl _ | with_reducible refine pm0 ?_ | with_reducible refine pm1 ?_ | with_reducible refine pm2 ?_ | with_reducible refine pm3 ?_ | with_reducible refine pm4 ?_ | with_reducible refine pm5 ?_ | with_reducible refine pm6 ?_ | with_reducible refine pm7 ?_ | with_reducible refine pm8 ?_ | with_reducible refine pm9 ?_ | with_reducible refine pm10 ?_ | with_reducible refine pm11 ?_ | with_reducible refine pm12 ?_ | with_reducible refine pm13 ?_))
    rw [sep_mid] at H
    have H : Hs h (bk gx.b [gx.sl, gx.sp] :: cms gx.sl gx.ln :: cms gx.sp gx.pk :: sep (A.map gR) :: sep (B.map gR) :: mitS r g Value.string (gptr L) (mdel k' rem) (some (k', pt gx.b 0)) :: bk x (Tg.c t) :: bk m [.map (some g), .map (some d)] :: mpS d tgV (dmp D) :: rs) := Hs.join.1 H
    refine nc_s (fa_s (ld1S H gx.sl rfl (ldaS H.p6 rfl (cl_s b115 (s115 H) ?_))))
    rintro _ h ⟨u, rfl, H⟩
    refine ⟨ld1S H.p1 gx.sl rfl rfl, cl_s b114 (s114 (l := gx.ln) (rs := bk gx.b [gx.sl, gx.sp] :: cms gx.sp gx.pk :: sep (A.map gR) :: sep (B.map gR) :: mitS r g Value.string (gptr L) (mdel k' rem) (some (k', pt gx.b 0)) :: bk x (Tg.c t) :: bk m [.map (some g), .map (some d)] :: mpS d tgV (dmp D) :: rs) (by omega) (H.perm (by repeat (first | with_reducible exact List.Perm.refl _ | with_reducible refine pm0 ?_ | with_reducible refine pm1 ?_ | with_reducible refine pm2 ?_ | with_reducible refine pm3 ?_ | with_reducible refine pm4 ?_ | with_reducible refine pm5 ?_ | with_reducible refine pm6 ?_ | with_reducible refine pm7 ?_ | with_reducible refine pm8 ?_ | with_reducible refine pm9 ?_ | with_reducible refine pm10 ?_ | with_reducible refine pm11 ?_ | with_reducible refine pm12 ?_ | with_reducible refine pm13 ?_)))) fun s1 h H => ?_⟩
    refine nc_s (fa_s (st1S H.p2 H.vecC (by simp) fun h H => ?_))
    have H : Hs h (bk gx.b [s1, gx.sp] :: cms s1 (gx.ln.filter fun c => decide (c.1 ≠ t)) :: bk u (Tg.c t) :: cms gx.sp gx.pk :: sep (A.map gR) :: sep (B.map gR) :: mitS r g Value.string (gptr L) (mdel k' rem) (some (k', pt gx.b 0)) :: bk x (Tg.c t) :: bk m [.map (some g), .map (some d)] :: mpS d tgV (dmp D) :: rs) := H
    refine nc_s (fa_s (ld1S H gx.sp rfl (ldaS H.p7 rfl (cl_s b115 (s115 H) ?_))))
    rintro _ h ⟨u2, rfl, H⟩
    refine ⟨ld1S H.p1 gx.sp rfl rfl, cl_s b114 (s114 (l := gx.pk) (rs := bk gx.b [s1, gx.sp] :: cms s1 (gx.ln.filter fun c => decide (c.1 ≠ t)) :: bk u (Tg.c t) :: sep (A.map gR) :: sep (B.map gR) :: mitS r g Value.string (gptr L) (mdel k' rem) (some (k', pt gx.b 0)) :: bk x (Tg.c t) :: bk m [.map (some g), .map (some d)] :: mpS d tgV (dmp D) :: rs) (by omega) (H.perm (by repeat (first | with_reducible exact List.Perm.refl _ | with_reducible refine pm0 ?_ | with_reducible refine pm1 ?_ | with_reducible refine pm2 ?_ | with_reducible refine pm3 ?_ | with_reducible refine pm4 ?_ | with_reducible refine pm5 ?_ | with_reducible refine pm6 ?_ | with_reducible refine pm7 ?_ | with_reducible refine pm8 ?_ | with_reducible refine pm9 ?_ | with_reducible refine pm10 ?_ | with_reducible refine pm11 ?_ | with_reducible refine pm12 ?_ | with_reducible refine pm13 ?_)))) fun s2 h H => ?_⟩
    refine nc_s (fa_s (st1S H.p2 H.vecC (by simp) fun h H => ⟨(mdel k' rem).length, ?_, mdel k' rem, some (k', pt gx.b 0), A ++ (k', ⟨gx.b, s1, s2, gx.ln.filter fun c => decide (c.1 ≠ t), gx.pk.filter fun c => decide (c.1 ≠ t)⟩) :: B, rfl, ?_, ?_, ?_⟩))
    · unfold mdel
      exact List.length_filter_lt_length_iff_exists.2 ⟨_, hy, by simp⟩
    · rw [← ep]; simp [gptr, mapV]
    · have hG : gst (A ++ (k', gx) :: B) = part1G (lv t) (rem.map (·.1)) G := es
      have hkG : (G.map (·.1)).Nodup := by
        have h1 : (gst (A ++ (k', gx) :: B)).map (·.1) = G.map (·.1) := by
          rw [hG]; unfold part1G; rw [List.map_map]
          exact List.map_congr_left fun y _ => by simp only [Function.comp]; split <;> rfl
        rw [← h1, keys_gst]; exact hkeys
      have e1 : part1G (lv t) ((mdel k' rem).map (·.1)) G = (part1G (lv t) (rem.map (·.1)) G).map fun y : ByteArray × (List Cm × List Cm) => if y.1 = k' then (k', lv t y.2) else y := by
        unfold part1G
        rw [List.map_map]
        refine List.map_congr_left fun y hy => ?_
        have hmem : y.1 ∈ (mdel k' rem).map (·.1) ↔ y.1 ∈ rem.map (·.1) ∧ y.1 ≠ k' := by
          unfold mdel
          simp only [List.mem_map, List.mem_filter, decide_eq_true_eq]
          constructor
          · rintro ⟨z, ⟨h1, h2⟩, h3⟩; exact ⟨⟨z, h1, h3⟩, by rw [← h3]; exact h2⟩
          · rintro ⟨⟨z, h1, h3⟩, h2⟩; exact ⟨z, ⟨h1, by rw [h3]; exact h2⟩, h3⟩
        simp only [Function.comp]
        by_cases hyk : y.1 = k'
        · have hin' : y.1 ∈ rem.map (·.1) := by rw [hyk]; exact hin
          rw [if_neg (fun h => (hmem.1 (inK_iff.1 h)).2 hyk), if_pos (inK_iff.2 hin'), if_pos hyk, ← hyk]
        · by_cases hyr : y.1 ∈ rem.map (·.1)
          · rw [if_pos (inK_iff.2 (hmem.2 ⟨hyr, hyk⟩)), if_pos (inK_iff.2 hyr), if_neg hyk]
          · rw [if_neg (fun h => hyr (hmem.1 (inK_iff.1 h)).1), if_neg (fun h => hyr (inK_iff.1 h))]
            simp only []
            rw [if_neg hyk]
      rw [e1, ← hG]
      have hkeys2 : ((gst (A ++ (k', gx) :: B)).map (·.1)).Nodup := by rw [keys_gst]; exact hkeys
      have hA : ∀ y ∈ A, y.1 ≠ k' := by
        rw [List.map_append, List.map_cons, List.nodup_append] at hkeys
        exact fun y hy e => hkeys.2.2 y.1 (List.mem_map_of_mem hy) k' (List.mem_cons_self ..) e
      have hB : ∀ y ∈ B, y.1 ≠ k' := by
        rw [List.map_append, List.map_cons, List.nodup_append] at hkeys
        exact fun y hy e => (List.nodup_cons.1 hkeys.2.1).1 (List.mem_map.2 ⟨y, hy, e⟩)
      have hm : ∀ (l : List GRow), (∀ y ∈ l, y.1 ≠ k') → (gst l).map (fun y : ByteArray × (List Cm × List Cm) => if y.1 = k' then (k', lv t y.2) else y) = gst l := by
        intro l hl
        unfold gst mapV
        rw [List.map_map]
        exact List.map_congr_left fun y hy => if_neg (hl y hy)
      have hs : ∀ (x : Gt), gst (A ++ (k', x) :: B) = gst A ++ (k', (x.ln, x.pk)) :: gst B := fun x => by simp [gst, mapV]
      rw [hs, hs, List.map_append, List.map_cons, hm A hA, hm B hB, if_pos rfl]
      rfl
    · have H : Hs h (bk gx.b [s1, s2] :: cms s2 (gx.pk.filter fun c => decide (c.1 ≠ t)) :: bk u2 (Tg.c t) :: cms s1 (gx.ln.filter fun c => decide (c.1 ≠ t)) :: bk u (Tg.c t) :: sep (A.map gR) :: sep (B.map gR) :: mitS r g Value.string (gptr L) (mdel k' rem) (some (k', pt gx.b 0)) :: bk x (Tg.c t) :: bk m [.map (some g), .map (some d)] :: mpS d tgV (dmp D) :: rs) := H
      have H := (H.perm (rs' := bk u2 (Tg.c t) :: bk u (Tg.c t) :: bk gx.b [s1, s2] :: cms s1 (gx.ln.filter fun c => decide (c.1 ≠ t)) :: cms s2 (gx.pk.filter fun c => decide (c.1 ≠ t)) :: sep (A.map gR) :: sep (B.map gR) :: mitS r g Value.string (gptr L) (mdel k' rem) (some (k', pt gx.b 0)) :: bk x (Tg.c t) :: bk m [.map (some g), .map (some d)] :: mpS d tgV (dmp D) :: rs) (by repeat (first | with_reducible exact List.Perm.refl _ | with_reducible refine pm0 ?_ | with_reducible refine pm1 ?_ | with_reducible refine pm2 ?_ | with_reducible refine pm3 ?_ | with_reducible refine pm4 ?_ | with_reducible refine pm5 ?_ | with_reducible refine pm6 ?_ | with_reducible refine pm7 ?_ | with_reducible refine pm8 ?_ | with_reducible refine pm9 ?_ | with_reducible refine pm10 ?_ | with_reducible refine pm11 ?_ | with_reducible refine pm12 ?_ | with_reducible refine pm13 ?_))).drop.drop
      have H : Hs h (gR (k', ⟨gx.b, s1, s2, gx.ln.filter fun c => decide (c.1 ≠ t), gx.pk.filter fun c => decide (c.1 ≠ t)⟩) :: sep (A.map gR) :: sep (B.map gR) :: mitS r g Value.string (gptr L) (mdel k' rem) (some (k', pt gx.b 0)) :: bk x (Tg.c t) :: bk m [.map (some g), .map (some d)] :: mpS d tgV (dmp D) :: rs) := Hs.join.2 H
      exact (sep_mid.2 H).p1
/-- a try waits for nothing in a gate, or stands ahead. -/
def freeIn (t : Tg) (x : List Cm × List Cm) : Bool := !(x.2.any fun c => decide (c.1 = t)) && ((x.1.head?.any fun c => decide (c.1 = t)) || !(x.1.any fun c => decide (c.1 = t)))
def readyB (t : Tg) (G : GS) : Bool := G.all fun y => freeIn t y.2
theorem idx_free {l : List Cm} {t : Tg} {n : Int} {σ' : Unit} (h : IdxRes (fun (s : Unit) e => (decide (e.1 = t), s)) (fun _ _ => True) () l n σ') :
    ((l.head?.any fun c => decide (c.1 = t)) || !(l.any fun c => decide (c.1 = t))) = !decide (n > 0) := by
  rcases idx_pos h with ⟨rfl, hno⟩ | ⟨i, rfl, hi, he, hno⟩
  · have : (l.any fun c => decide (c.1 = t)) = false := by
      rw [List.any_eq_false]; intro c hc; simpa using hno c hc
    rw [this]; simp
  · have h1 : (l.any fun c => decide (c.1 = t)) = true := List.any_eq_true.2 ⟨l[i], List.getElem_mem hi, by simpa using he⟩
    rw [h1]
    cases l with
    | nil => simp at hi
    | cons c l =>
      cases i with
      | zero => simp at he; simp [he]
      | succ i =>
        have := hno c (by simp)
        simp [this]
theorem s28 {h : Hp} {rs : List SL} {m : Nat} {G : GS} {D : List Tg} {t : Tg} (hsz : szG G ≤ 1000000000) (H : Hs h (locksR m G D :: rs)) :
    FnW Tryz.prog 28 #[pt m 0, .agg (Tg.c t).toArray] (fun v h' => v = .bool (readyB t G) ∧ Hs h' (locksR m G D :: rs)) h := by
  obtain ⟨g, d, L, eG, HL⟩ := Hs.locks.1 H
  refine c28 ?_
  unfold C28
  refine bxS HL fun x h H => ?_
  have H : Hs h (bk x (Tg.c t) :: bk m [.map (some g), .map (some d)] :: mpS g Value.string (gptr L) :: sep (L.map gR) :: mpS d tgV (dmp D) :: rs) := by simpa [Value.cells] using H
  refine nc_s (fa_s (ld1S H.p1 (.map (some g)) rfl (rangeS und207 H.p2 fun r h H => ?_)))
  have fin : ∀ h rem cur, Hs h (mitS r g Value.string (gptr L) rem cur :: sep (L.map gR) :: bk x (Tg.c t) :: bk m [.map (some g), .map (some d)] :: mpS d tgV (dmp D) :: rs) → Hs h (locksR m G D :: rs) := by
    intro h rem cur H
    have H := H.mitEnd
    exact Hs.locks.2 ⟨g, d, L, eG, (H.perm (rs' := bk x (Tg.c t) :: bk m [.map (some g), .map (some d)] :: mpS g Value.string (gptr L) :: sep (L.map gR) :: mpS d tgV (dmp D) :: rs) (by repeat (first | with_reducible exact List.Perm.refl _ | with_reducible refine pm0 ?_ | with_reducible refine pm1 ?_ | with_reducible refine pm2 ?_ | with_reducible refine pm3 ?_ | with_reducible refine pm4 ?_ | with_reducible refine pm5 ?_ | with_reducible refine pm6 ?_ | with_reducible refine pm7 ?_ | with_reducible refine pm8 ?_ | with_reducible refine pm9 ?_ | with_reducible refine pm10 ?_ | with_reducible refine pm11 ?_ | with_reducible refine pm12 ?_ | with_reducible refine pm13 ?_))).drop⟩
  refine ⟨fun n h => ∃ rem cur, n = rem.length ∧ (∀ y ∈ G, inK y.1 (rem.map (·.1)) = false → freeIn t y.2 = true) ∧
      Hs h (mitS r g Value.string (gptr L) rem cur :: sep (L.map gR) :: bk x (Tg.c t) :: bk m [.map (some g), .map (some d)] :: mpS d tgV (dmp D) :: rs),
    ⟨_, gptr L, none, rfl, ?_, H.perm (by repeat (first | with_reducible exact List.Perm.refl _ | with_reducible refine pm0 ?_ | with_reducible refine pm1 ?_ | with_reducible refine pm2 ?_ | with_reducible refine pm3 ?_ | with_reducible refine pm4 ?_ | with_reducible refine pm5 ?_ | with_reducible refine pm6 ?_ | with_reducible refine pm7 ?_ | with_reducible refine pm8 ?_ | with_reducible refine pm9 ?_ | with_reducible refine pm10 ?_ | with_reducible refine pm11 ?_ | with_reducible refine pm12 ?_ | with_reducible refine pm13 ?_))⟩, ?_⟩
  · intro y hy hn
    have : inK y.1 ((gptr L).map (·.1)) = true := inK_iff.2 (by rw [keys_gptr, ← keys_gst, eG]; exact List.mem_map_of_mem hy)
    rw [this] at hn; cases hn
  rintro n σ0 h ⟨rem, cur, rfl, hfree, H⟩
  obtain ⟨hsub, hnd⟩ := H.mitSub
  refine nextS H (fun hr h H => ?_) fun y hy h H => ?_
  · subst hr
    refine ex_s _ rfl (cn_f ⟨?_, fin h _ _ H⟩)
    have : readyB t G = true := List.all_eq_true.2 fun y hy => hfree y hy rfl
    rw [this]
  · obtain ⟨k, vy⟩ := y
    have hyl : (k, vy) ∈ gptr L := hsub _ hy
    obtain ⟨z, hz, ez⟩ := List.mem_map.1 hyl
    obtain ⟨A, B, e⟩ := List.append_of_mem hz
    obtain ⟨k', gx⟩ := z
    simp only [Prod.mk.injEq] at ez
    obtain ⟨rfl, rfl⟩ := ez
    have hrow : (k', (gx.ln, gx.pk)) ∈ G := by rw [← eG, e]; simp [gst, mapV]
    have hlen := szG_mem hrow
    simp only [] at hlen
    refine ex_s _ rfl (cn_t (entryS H (ex_s _ rfl ?_)))
    have ekids : ∀ (h : Hp) (rs : List SL), Hs h (sep (L.map gR) :: rs) ↔ Hs h (bk gx.b [gx.sl, gx.sp] :: cms gx.sl gx.ln :: cms gx.sp gx.pk :: sep (A.map gR) :: sep (B.map gR) :: rs) := by
      intro h rs
      rw [e, sep_mid]
      exact Hs.join (l := [bk gx.b [gx.sl, gx.sp], cms gx.sl gx.ln, cms gx.sp gx.pk])
    have H := (ekids _ _).1 (H.perm (rs' := sep (L.map gR) :: mitS r g Value.string (gptr L) (mdel k' rem) (some (k', pt gx.b 0)) :: bk x (Tg.c t) :: bk m [.map (some g), .map (some d)] :: mpS d tgV (dmp D) :: rs) (by repeat (first | with_reducible exact List.Perm.refl _ | with_reducible refine pm0 ?_ | with_reducible refine pm1 ?_ | with_reducible refine pm2 ?_ | with_reducible refine pm3 ?_ | with_reducible refine pm4 ?_ | with_reducible refine pm5 ?_ | with_reducible refine pm6 ?_ | with_reducible refine pm7 ?_ | with_reducible refine pm8 ?_ | with_reducible refine pm9 ?_ | with_reducible refine pm10 ?_ | with_reducible refine pm11 ?_ | with_reducible refine pm12 ?_ | with_reducible refine pm13 ?_)))
    have back : ∀ h, Hs h (bk gx.b [gx.sl, gx.sp] :: cms gx.sl gx.ln :: cms gx.sp gx.pk :: sep (A.map gR) :: sep (B.map gR) :: mitS r g Value.string (gptr L) (mdel k' rem) (some (k', pt gx.b 0)) :: bk x (Tg.c t) :: bk m [.map (some g), .map (some d)] :: mpS d tgV (dmp D) :: rs) →
        Hs h (mitS r g Value.string (gptr L) (mdel k' rem) (some (k', pt gx.b 0)) :: sep (L.map gR) :: bk x (Tg.c t) :: bk m [.map (some g), .map (some d)] :: mpS d tgV (dmp D) :: rs) := fun h H => ((ekids _ _).2 H).p1
    have notfree : freeIn t (gx.ln, gx.pk) = false → (Value.bool false = .bool (readyB t G)) := by
      intro hf
      have : readyB t G = false := by
        cases hr : readyB t G with
        | false => rfl
        | true => have := List.all_eq_true.1 hr _ hrow; rw [hf] at this; cases this
      rw [this]
    refine nc_s (fa_s (ld1S H gx.sp rfl (ldaS H.p6 rfl (cl_s b115 (s115 H) ?_))))
    rintro _ h ⟨u, rfl, H⟩
    refine ⟨ld1S H.p1 gx.sp rfl rfl, cl_s b118 (s118 (l := gx.pk) (rs := bk gx.b [gx.sl, gx.sp] :: cms gx.sl gx.ln :: sep (A.map gR) :: sep (B.map gR) :: mitS r g Value.string (gptr L) (mdel k' rem) (some (k', pt gx.b 0)) :: bk x (Tg.c t) :: bk m [.map (some g), .map (some d)] :: mpS d tgV (dmp D) :: rs) (by omega) (H.perm (by repeat (first | with_reducible exact List.Perm.refl _ | with_reducible refine pm0 ?_ | with_reducible refine pm1 ?_ | with_reducible refine pm2 ?_ | with_reducible refine pm3 ?_ | with_reducible refine pm4 ?_ | with_reducible refine pm5 ?_ | with_reducible refine pm6 ?_ | with_reducible refine pm7 ?_ | with_reducible refine pm8 ?_ | with_reducible refine pm9 ?_ | with_reducible refine pm10 ?_ | with_reducible refine pm11 ?_ | with_reducible refine pm12 ?_ | with_reducible refine pm13 ?_)))) ?_⟩
    rintro _ h ⟨rfl, H⟩
    have H := (H.perm (rs' := bk u (Tg.c t) :: bk gx.b [gx.sl, gx.sp] :: cms gx.sl gx.ln :: cms gx.sp gx.pk :: sep (A.map gR) :: sep (B.map gR) :: mitS r g Value.string (gptr L) (mdel k' rem) (some (k', pt gx.b 0)) :: bk x (Tg.c t) :: bk m [.map (some g), .map (some d)] :: mpS d tgV (dmp D) :: rs) (by repeat (first | with_reducible exact List.Perm.refl _ | with_reducible refine pm0 ?_ | with_reducible refine pm1 ?_ | with_reducible refine pm2 ?_ | with_reducible refine pm3 ?_ | with_reducible refine pm4 ?_ | with_reducible refine pm5 ?_ | with_reducible refine pm6 ?_ | with_reducible refine pm7 ?_ | with_reducible refine pm8 ?_ | with_reducible refine pm9 ?_ | with_reducible refine pm10 ?_ | with_reducible refine pm11 ?_ | with_reducible refine pm12 ?_ | with_reducible refine pm13 ?_))).drop
    cases hp : gx.pk.any fun c => decide (c.1 = t) with
    | true =>
      refine gd_f (by simp) (gd_f (by simp) (gd_f (by simp) (gd_f (by simp) (gd_f (by simp) (gd_f (by simp) ⟨gd_f (by simp) rfl, gd_f (by simp) (gd_f (by simp) (pk_s (cn_t ⟨notfree (by simp [freeIn, hp]), fin h _ _ (back h H)⟩)))⟩)))))
    | false =>
      refine gd_t (gd_t (nc_s (gd_t (fa_s (gd_t (ld1S H gx.sl rfl (gd_t (ldaS H.p6 rfl (gd_t (cl_s b115 (s115 H) ?_))))))))))
      rintro _ h ⟨u2, rfl, H⟩
      refine ⟨gd_t (ld1S H.p1 gx.sl rfl rfl), gd_t (cl_s b119 (s119 (l := gx.ln) (rs := bk gx.b [gx.sl, gx.sp] :: cms gx.sp gx.pk :: sep (A.map gR) :: sep (B.map gR) :: mitS r g Value.string (gptr L) (mdel k' rem) (some (k', pt gx.b 0)) :: bk x (Tg.c t) :: bk m [.map (some g), .map (some d)] :: mpS d tgV (dmp D) :: rs) (by omega) (H.perm (by repeat (first | with_reducible exact List.Perm.refl _ | with_reducible refine pm0 ?_ | with_reducible refine pm1 ?_ | with_reducible refine pm2 ?_ | with_reducible refine pm3 ?_ | with_reducible refine pm4 ?_ | with_reducible refine pm5 ?_ | with_reducible refine pm6 ?_ | with_reducible refine pm7 ?_ | with_reducible refine pm8 ?_ | with_reducible refine pm9 ?_ | with_reducible refine pm10 ?_ | with_reducible refine pm11 ?_ | with_reducible refine pm12 ?_ | with_reducible refine pm13 ?_)))) ?_)⟩
      rintro _ h ⟨n, σ', rfl, hres, H⟩
      have H := (H.perm (rs' := bk u2 (Tg.c t) :: bk gx.b [gx.sl, gx.sp] :: cms gx.sl gx.ln :: cms gx.sp gx.pk :: sep (A.map gR) :: sep (B.map gR) :: mitS r g Value.string (gptr L) (mdel k' rem) (some (k', pt gx.b 0)) :: bk x (Tg.c t) :: bk m [.map (some g), .map (some d)] :: mpS d tgV (dmp D) :: rs) (by repeat (first | with_reducible exact List.Perm.refl _ | with_reducible refine pm0 ?_ | with_reducible refine pm1 ?_ | with_reducible refine pm2 ?_ | with_reducible refine pm3 ?_ | with_reducible refine pm4 ?_ | with_reducible refine pm5 ?_ | with_reducible refine pm6 ?_ | with_reducible refine pm7 ?_ | with_reducible refine pm8 ?_ | with_reducible refine pm9 ?_ | with_reducible refine pm10 ?_ | with_reducible refine pm11 ?_ | with_reducible refine pm12 ?_ | with_reducible refine pm13 ?_))).drop
      have hfr := idx_free hres
      refine gd_t (bn_s (.bool (decide (n > 0))) (by simp [binV, intV]) (pk_s (cn_s (fun hn => ?_) fun hn => ?_)))
      · have hn : decide (n > 0) = true := by simpa using hn
        rw [hn] at hfr
        exact ⟨notfree (by simp only [freeIn, hp, hfr]; rfl), fin h _ _ (back h H)⟩
      · have hn : decide (n > 0) = false := by simpa using hn
        rw [hn] at hfr
        refine ⟨(mdel k' rem).length, ?_, mdel k' rem, some (k', pt gx.b 0), rfl, fun y hy hyn => ?_, back h H⟩
        · unfold mdel
          exact List.length_filter_lt_length_iff_exists.2 ⟨_, hy, by simp⟩
        · by_cases hyk : y.1 = k'
          · have hkG : (G.map (·.1)).Nodup := by rw [← eG, keys_gst, ← keys_gptr]; exact hnd
            have : y = (k', (gx.ln, gx.pk)) := nodup_key hkG hy hrow hyk
            rw [this]
            simp only [freeIn, hp, hfr]; rfl
          · refine hfree y hy ?_
            cases hin : inK y.1 (rem.map (·.1)) with
            | false => rfl
            | true =>
              obtain ⟨z, hz1, hz2⟩ := List.mem_map.1 (inK_iff.1 hin)
              have : inK y.1 ((mdel k' rem).map (·.1)) = true := inK_iff.2 (List.mem_map.2 ⟨z, by unfold mdel; rw [List.mem_filter]; exact ⟨hz1, by simp; rw [hz2]; exact hyk⟩, hz2⟩)
              rw [this] at hyn; cases hyn
end Go.Proofs.YtalknmdbamlabaaGreat.Q
