/- Tags and claims. Conditions: none. -/
import Derived.Test.YtalknmdbamlabaaGreatP6
namespace Go.Proofs.YtalknmdbamlabaaGreat.Q
open Go
open SL (bk bkn mp old exS puS emS stS)
/-- a tag: node, epoch, number, try. -/
abbrev Tg := Int × Int × Int × Int
def Tg.c (t : Tg) : List Value := [vi t.1, vu t.2.1, vu t.2.2.1, vi t.2.2.2]
def fld (n : String) (t : TypeId) (o b : Nat) : Field := { name := n, type := t, offset := o, embedded := false, tag := "", pkgPath := "", byteOffset := b }
theorem fs25 : (Tryz.prog.fieldsOf 25).toList = [fld "Node" 3 0 0, fld "Epoch" 23 1 8, fld "Seq" 23 2 16] := by kernel_rfl
theorem fs27 : (Tryz.prog.fieldsOf 27).toList = [fld "Id" 25 0 0, fld "Try" 3 3 24] := by kernel_rfl
theorem und27 : Tryz.prog.underlying 27 = some (.struct (Tryz.prog.fieldsOf 27)) := by kernel_rfl
theorem und25 : Tryz.prog.underlying 25 = some (.struct (Tryz.prog.fieldsOf 25)) := by kernel_rfl
theorem und23 : Tryz.prog.underlying 23 = some (.int .u64) := by kernel_rfl
theorem held27 : Tryz.prog.stoodInHeld 27 = false := by kernel_rfl
theorem held25 : Tryz.prog.stoodInHeld 25 = false := by kernel_rfl
theorem agg25 : aggOf Tryz.prog 25 = some true := by kernel_rfl
theorem agg23 : aggOf Tryz.prog 23 = some false := by kernel_rfl
theorem agg3 : aggOf Tryz.prog 3 = some false := by kernel_rfl
theorem inf25 : ∃ i, Tryz.prog.info? 25 = some i ∧ i.size = 3 := ⟨_, (by kernel_rfl : Tryz.prog.info? 25 = some (Tryz.prog.info? 25).get!), by kernel_rfl⟩
theorem run_aggOf {P : Program} {w : World} {t : TypeId} {b : Bool} (h : aggOf P t = some b) : (isAgg t).run P w = .ok b w := by
  unfold aggOf at h
  obtain ⟨d, hd, rfl⟩ := Option.map_eq_some_iff.1 h
  exact run_agg hd
theorem part1 {P : Program} {w : World} {t : TypeId} {cs : Array Value} {off : Nat} {v : Value} (h : aggOf P t = some false) (hv : cs[off]? = some v) : (part t cs off).run P w = .ok v w := by
  unfold part
  rw [Sem.run_bind, run_aggOf h]
  simp only [Result.andThen, Bool.false_eq_true, if_false, hv, Sem.run_pure]
theorem partA {P : Program} {w : World} {t : TypeId} {cs : Array Value} {off : Nat} {i : TypeInfo} (h : aggOf P t = some true) (hi : P.info? t = some i) : (part t cs off).run P w = .ok (.agg (cs.extract off (off + i.size))) w := by
  unfold part
  rw [Sem.run_bind, run_aggOf h]
  simp only [Result.andThen, if_true]
  rw [Sem.run_bind, run_sz hi]; rfl
theorem fstep {P : Program} {w : World} {d o bo : Nat} {n : String} {t : TypeId} {xs ys : Array Value} {fs : List Field} {a b : Value} {r : Bool} (hn : n ≠ "_")
    (ha : (part t xs o).run P w = .ok a w) (hb : (part t ys o).run P w = .ok b w) (hr : (Op.equalIn d t a b).run P w = .ok r w) :
    (Op.eqFields d xs ys (fld n t o bo :: fs)).run P w = if r = true then (Op.eqFields d xs ys fs).run P w else .ok false w := by
  have hn' : (fld n t o bo).name ≠ "_" := hn
  simp only [Op.eqFields, if_pos hn', Sem.run_bind]
  show (Result.andThen ((part t xs o).run P w) _) = _
  rw [ha]
  simp only [Result.andThen]
  show (Result.andThen ((part t ys o).run P w) _) = _
  rw [hb]
  simp only [Result.andThen]
  show (Result.andThen ((Op.equalIn d t a b).run P w) _) = _
  rw [hr]
  simp only [Result.andThen]
  cases r <;> simp [Sem.run_pure]
theorem eqId (d : Nat) (w : World) (a1 a2 a3 b1 b2 b3 : Int) : (Op.equalIn (d + 2) 25 (.agg #[vi a1, vu a2, vu a3]) (.agg #[vi b1, vu b2, vu b3])).run Tryz.prog w = .ok (decide (a1 = b1 ∧ a2 = b2 ∧ a3 = b3)) w := by
  rw [show d + 2 = (d + 1) + 1 from rfl, run_equalIn_agg w (d + 1) 25 _ _ und25 held25, fs25]
  rw [fstep (a := vi a1) (b := vi b1) (r := a1 == b1) (by decide) (part1 agg3 rfl) (part1 agg3 rfl) (run_equalIn_int w d 3 .i64 .i64 a1 b1 und3)]
  by_cases h1 : a1 = b1
  · rw [if_pos (by simpa using h1)]
    rw [fstep (a := vu a2) (b := vu b2) (r := a2 == b2) (by decide) (part1 agg23 rfl) (part1 agg23 rfl) (run_equalIn_int w d 23 .u64 .u64 a2 b2 und23)]
    by_cases h2 : a2 = b2
    · rw [if_pos (by simpa using h2)]
      rw [fstep (a := vu a3) (b := vu b3) (r := a3 == b3) (by decide) (part1 agg23 rfl) (part1 agg23 rfl) (run_equalIn_int w d 23 .u64 .u64 a3 b3 und23)]
      by_cases h3 : a3 = b3
      · rw [if_pos (by simpa using h3)]; simp [h1, h2, h3, Op.eqFields, Sem.run_pure]
      · rw [if_neg (by simpa using h3)]; simp [h3]
    · rw [if_neg (by simpa using h2)]; simp [h2]
  · rw [if_neg (by simpa using h1)]; simp [h1]
theorem eqTag (d : Nat) (w : World) (a b : Tg) : (Op.equalIn (d + 3) 27 (.agg (Tg.c a).toArray) (.agg (Tg.c b).toArray)).run Tryz.prog w = .ok (decide (a = b)) w := by
  obtain ⟨i, hi, hs⟩ := inf25
  obtain ⟨a1, a2, a3, a4⟩ := a
  obtain ⟨b1, b2, b3, b4⟩ := b
  rw [show d + 3 = (d + 2) + 1 from rfl, run_equalIn_agg w (d + 2) 27 _ _ und27 held27, fs27]
  have p1 := partA (w := w) (cs := (Tg.c (a1, a2, a3, a4)).toArray) (off := 0) agg25 hi
  have p2 := partA (w := w) (cs := (Tg.c (b1, b2, b3, b4)).toArray) (off := 0) agg25 hi
  rw [hs] at p1 p2
  rw [fstep (a := .agg #[vi a1, vu a2, vu a3]) (b := .agg #[vi b1, vu b2, vu b3]) (r := decide (a1 = b1 ∧ a2 = b2 ∧ a3 = b3)) (by decide) p1 p2 (eqId d w a1 a2 a3 b1 b2 b3)]
  by_cases h1 : a1 = b1 ∧ a2 = b2 ∧ a3 = b3
  · rw [if_pos (by simpa using h1)]
    rw [fstep (a := vi a4) (b := vi b4) (r := a4 == b4) (by decide) (part1 agg3 rfl) (part1 agg3 rfl) (run_equalIn_int w (d + 1) 3 .i64 .i64 a4 b4 und3)]
    obtain ⟨rfl, rfl, rfl⟩ := h1
    by_cases h4 : a4 = b4
    · rw [if_pos (by simpa using h4)]; simp [h4, Op.eqFields, Sem.run_pure]
    · rw [if_neg (by simpa using h4)]; simp [h4]
  · rw [if_neg (by simpa using h1)]
    have hne : ¬ ((a1, a2, a3, a4) = (b1, b2, b3, b4)) := by
      intro e
      injection e with e1 e2
      injection e2 with e2 e3
      injection e3 with e3 e4
      exact h1 ⟨e1, e2, e3⟩
    rw [decide_eq_false hne]
theorem beT {h : Hp} {K : Value → A} {neg : Bool} {a b : Tg} (k : K (.bool (decide (a = b) != neg)) h) : be Tryz.prog 27 neg (.agg (Tg.c a).toArray) (.agg (Tg.c b).toArray) K h :=
  ⟨rfl, decide (a = b), fun w => eqTag 9997 w a b, k⟩
/-- a mark: key, home, count. -/
abbrev Mk := ByteArray × Int × Int
def Mk.c (m : Mk) : List Value := [.string m.1, vi m.2.1, vu m.2.2]
/-- a claim. -/
abbrev Cm := Tg × Mk
def Cm.c (c : Cm) : List Value := Tg.c c.1 ++ Mk.c c.2
theorem Tg.len (t : Tg) : (Tg.c t).length = 4 := rfl
theorem Tg.one (t : Tg) : ∀ u ∈ Tg.c t, oneC u = true := by simp [Tg.c, oneC]
theorem Mk.one (t : Mk) : ∀ u ∈ Mk.c t, oneC u = true := by simp [Mk.c, oneC]
theorem Cm.len (t : Cm) : (Cm.c t).length = 7 := rfl
theorem Cm.one (t : Cm) : ∀ u ∈ Cm.c t, oneC u = true := by simp [Cm.c, Tg.c, Mk.c, oneC]
abbrev tgs (s : Value) (l : List Tg) : SL := vec 4 s (l.map Tg.c)
abbrev cms (s : Value) (l : List Cm) : SL := vec 7 s (l.map Cm.c)
/-- loops that count up: what holds ahead of round i. -/
theorem lp1 {h : Hp} {body : Rg → Cur 1 → Cur 1} (n : Nat) (I : Nat → A) (h0 : I 0 h) (step : ∀ i h σ0 (nx : Cur 1), i ≤ n → I i h → (∀ h', i < n → I (i + 1) h' → nx (vi (i + 1 : Nat)) h') → body σ0 nx (vi i) h) : lp 1 body [vi 0] h := by
  refine ⟨fun m v h => ∃ i : Nat, v = vi i ∧ m = n - i ∧ i ≤ n ∧ I i h, ⟨n, 0, rfl, rfl, Nat.zero_le _, h0⟩, ?_⟩
  rintro m σ0 _ h ⟨i, rfl, rfl, hi, H⟩
  exact step i h σ0 _ hi H fun h' hlt H' => ⟨n - (i + 1), by omega, i + 1, rfl, rfl, by omega, H'⟩
/-- the same with one more variable. -/
theorem lp2 {h : Hp} {body : Rg → Cur 2 → Cur 2} {v0 : Value} (n : Nat) (I : Nat → Value → A) (h0 : I 0 v0 h) (step : ∀ i v h σ0 (nx : Cur 2), i ≤ n → I i v h → (∀ v' h', i < n → I (i + 1) v' h' → nx v' (vi (i + 1 : Nat)) h') → body σ0 nx v (vi i) h) : lp 2 body [v0, vi 0] h := by
  refine ⟨fun m u v h => ∃ i : Nat, v = vi i ∧ m = n - i ∧ i ≤ n ∧ I i u h, ⟨n, 0, rfl, rfl, Nat.zero_le _, h0⟩, ?_⟩
  rintro m σ0 u _ h ⟨i, rfl, rfl, hi, H⟩
  exact step i u h σ0 _ hi H fun v' h' hlt H' => ⟨n - (i + 1), by omega, i + 1, rfl, rfl, by omega, H'⟩
theorem nx_add {h : Hp} {K : Value → A} (i : Nat) (hi : i ≤ 4611686018427387904) (k : K (vi (i + 1 : Nat)) h) : bn .add (vi i) (vi 1) K h := bn_add (by omega) (by omega) (by simpa using k)
/-- a tag among others. -/
theorem s30 {h : Hp} {rs : List SL} {s : Value} {l : List Tg} {t : Tg} (hl : l.length ≤ 1000000000) (H : Hs h (tgs s l :: rs)) :
    FnW Tryz.prog 30 #[s, .agg (Tg.c t).toArray] (fun v h' => v = .bool (decide (t ∈ l)) ∧ Hs h' (tgs s l :: rs)) h := by
  refine c30 ?_
  unfold C30
  refine bxS H fun x h H => ?_
  have H : Hs h (bk x (Tg.c t) :: tgs s l :: rs) := by simpa [Value.cells] using H
  refine lp1 l.length (fun i h => Hs h (bk x (Tg.c t) :: tgs s l :: rs) ∧ t ∉ l.take i) ⟨H, by simp⟩ ?_
  rintro i h σ0 nx hi ⟨H, hno⟩ hnx
  refine lnV H.p1 ?_
  rw [List.length_map]
  refine cn_lss (fun hlt => ?_) fun hge => ?_
  · have hlt : i < l.length := by omega
    have hm : i < (l.map Tg.c).length := by rw [List.length_map]; exact hlt
    refine ixV H.p1 i rfl hm fun b hrd => ?_
    rw [List.getElem_map] at hrd
    refine ldnR hrd rfl (ldaS H rfl (beT ?_))
    refine cn_s (fun he => ?_) fun he => ?_
    · have he : l[i] = t := by simpa using he
      exact ⟨by rw [decide_eq_true (he ▸ List.getElem_mem hlt)], H.drop⟩
    · have he : ¬ l[i] = t := by simpa using he
      refine nx_add i (by omega) (hnx h hlt ⟨H, ?_⟩)
      rw [List.take_succ_eq_append_getElem hlt]
      simp only [List.mem_append, List.mem_singleton, not_or]
      exact ⟨hno, fun e => he e.symm⟩
  · have : i = l.length := by omega
    subst this
    rw [List.take_length] at hno
    exact ⟨by rw [decide_eq_false hno], H.drop⟩
theorem Rd.nth {h : Hp} {b o : Nat} {vs : List Value} (H : Rd h b o vs) (i n : Nat) (us : List Value) (hu : (vs.drop i).take n = us) (hn : i + n ≤ vs.length) : Rd h b (o + i) us := hu ▸ H.sub i n hn
theorem s225 {h : Hp} {rs : List SL} {s : Value} {l : List Cm} {k : ByteArray} {t : Tg} (hl : l.length ≤ 1000000000) (H : Hs h (cms s l :: rs)) :
    FnW Tryz.prog 225 #[s, .string k, .agg (Tg.c t).toArray] (fun v h' => v = .bool (l.any fun c => decide (c.2.1 = k ∧ c.1 = t)) ∧ Hs h' (cms s l :: rs)) h := by
  refine c225 ?_
  unfold C225
  refine bxS H fun x h H => ?_
  have H : Hs h (bk x (Tg.c t) :: cms s l :: rs) := by simpa [Value.cells] using H
  refine lp1 l.length (fun i h => Hs h (bk x (Tg.c t) :: cms s l :: rs) ∧ (l.take i).any (fun c => decide (c.2.1 = k ∧ c.1 = t)) = false) ⟨H, by simp⟩ ?_
  rintro i h σ0 nx hi ⟨H, hno⟩ hnx
  refine lnV H.p1 ?_
  rw [List.length_map]
  refine cn_lss (fun hlt => ?_) fun hge => ?_
  · have hlt : i < l.length := by omega
    have hm : i < (l.map Cm.c).length := by rw [List.length_map]; exact hlt
    have hall : ∀ b : Bool, decide (l[i].2.1 = k ∧ l[i].1 = t) = b → (b = true → l.any (fun c => decide (c.2.1 = k ∧ c.1 = t)) = true) ∧ (b = false → (l.take (i + 1)).any (fun c => decide (c.2.1 = k ∧ c.1 = t)) = false) := by
      intro b hb
      constructor
      · rintro rfl; exact List.any_eq_true.2 ⟨l[i], List.getElem_mem hlt, hb⟩
      · rintro rfl; rw [List.take_succ_eq_append_getElem hlt, List.any_append, hno]; simpa using hb
    refine ixV H.p1 i rfl hm fun b hrd => fa_s (fa_s ?_)
    rw [List.getElem_map] at hrd
    refine ld1R (hrd.nth 4 1 [.string l[i].2.1] rfl (by simp [Cm.len])) (bn_s (.bool (decide (l[i].2.1 = k))) (by simp [binV, strV, toList_beq]) ?_)
    by_cases hk : l[i].2.1 = k
    · rw [decide_eq_true hk]
      refine gd_t (gd_t (gd_t (ixV H.p1 i rfl hm fun b hrd => gd_t (fa_s (gd_t (ldnR (vs := Tg.c l[i].1) ?_ rfl (gd_t (ldaS H rfl (gd_t (beT (pk_s ?_)))))))))))
      · rw [List.getElem_map] at hrd; exact hrd.nth 0 4 _ rfl (by simp [Cm.len])
      · simp only [if_true, Bool.bne_false]
        refine cn_s (fun he => ?_) fun he => ?_
        · have he : l[i].1 = t := by simpa using he
          exact ⟨by rw [(hall true (by simp [hk, he])).1 rfl], H.drop⟩
        · have he : ¬ l[i].1 = t := by simpa using he
          exact nx_add i (by omega) (hnx h hlt ⟨H, (hall false (by simp [he])).2 rfl⟩)
    · rw [decide_eq_false hk]
      refine gd_f (by simp) (gd_f (by simp) (gd_f (by simp) (gd_f (by simp) (gd_f (by simp) (gd_f (by simp) (gd_f (by simp) (pk_s (cn_f ?_))))))))
      exact nx_add i (by omega) (hnx h hlt ⟨H, (hall false (by simp [hk])).2 rfl⟩)
  · have : i = l.length := by omega
    subst this
    rw [List.take_length] at hno
    exact ⟨by rw [hno], H.drop⟩
theorem zcm : ([vi 0, vu 0, vu 0, vi 0, .string ⟨#[]⟩, vi 0, vu 0] : List Value).length = 7 := rfl
/-- append one element. -/
theorem ap1 {h : Hp} {K : Value → A} {rs : List SL} (z : List Value) {zn by_ : Nat} {e : TypeId} {s : Value} {es : List (List Value)} {bx : Nat} {x : List Value} (H : Hs h (vec zn s es :: bk bx x :: rs)) (hzn : z.length = zn) (hz : ∀ u ∈ z, oneC u = true)
    (hx : x.length = zn) (h1 : ∀ u ∈ x, oneC u = true) (hb : (es.length + 1) * by_ ≤ 140737488355328) (hb' : es.length + 1 ≤ 9223372036854775807)
    (k : ∀ s' h', Hs h' (vec zn s' (es ++ [x]) :: rs) → K s' h') : apd z by_ e s (sl bx 0 1 1) K h := by
  subst hzn
  refine apV (new := [x]) H hz ?_ (by simpa using hx) (by simpa using h1) (by simpa using hb) (by simpa using hb') fun s' h' H' => k s' h' H'.p1.drop
  have := srcRd (b := bx) (o := 0) (n := 1) (c := 1) (sz := z.length) H.p1.blk.rd (by simpa using hx)
  simpa using this
/-- append all of another slice. -/
theorem apA {h : Hp} {K : Value → A} {rs : List SL} (z : List Value) {zn by_ : Nat} {e : TypeId} {s x : Value} {es new : List (List Value)} (H : Hs h (vec zn s es :: vec zn x new :: rs)) (hzn : z.length = zn) (hz : ∀ u ∈ z, oneC u = true)
    (hb : (es.length + new.length) * by_ ≤ 140737488355328) (hb' : es.length + new.length ≤ 9223372036854775807)
    (k : ∀ s' h', Hs h' (vec zn s' (es ++ new) :: vec zn x new :: rs) → K s' h') : apd z by_ e s x K h := by
  subst hzn
  exact apV (new := new) H hz (Hs.vecSrc H.p1) (Hs.vecLen H.p1) (Hs.vecOnes H.p1) hb hb' k
theorem s220 {h : Hp} {rs : List SL} {s : Value} {l : List Cm} {t : Tg} (hl : l.length ≤ 1000000000) (H : Hs h (cms s l :: rs)) :
    FnW Tryz.prog 220 #[s, .agg (Tg.c t).toArray] (fun v h' => Hs h' (cms v (l.filter fun c => decide (c.1 ≠ t)) :: cms s l :: rs)) h := by
  refine c220 ?_
  unfold C220
  refine bxS H fun x h H => ?_
  have H : Hs h (bk x (Tg.c t) :: cms s l :: rs) := by simpa [Value.cells] using H
  refine bslS H [] rfl fun o h H => ?_
  have v0 : VOk 7 [] 0 [] := ⟨by simp, by simp, by simp, by simp⟩
  have H : Hs h (cms (sl o 0 0 0) [] :: bk x (Tg.c t) :: cms s l :: rs) := Hs.vec1 v0 H
  refine lp2 l.length (fun i o h => Hs h (cms o ((l.take i).filter fun c => decide (c.1 ≠ t)) :: bk x (Tg.c t) :: cms s l :: rs)) H ?_
  rintro i o h σ0 nx hi H hnx
  refine lnV H.p2 ?_
  rw [List.length_map]
  refine cn_lss (fun hlt => ?_) fun hge => ?_
  · have hlt : i < l.length := by omega
    have hm : i < (l.map Cm.c).length := by rw [List.length_map]; exact hlt
    intro k8 hk8
    have next : ∀ v h, Hs h (cms v ((l.take (i + 1)).filter fun c => decide (c.1 ≠ t)) :: bk x (Tg.c t) :: cms s l :: rs) → k8 v h :=
      fun v h H => hk8 v h fun _ => nx_add i (by omega) (hnx v h hlt H)
    rw [List.take_succ_eq_append_getElem hlt, List.filter_append] at next
    refine ixV H.p2 i rfl hm fun b hrd => fa_s ?_
    rw [List.getElem_map] at hrd
    refine ldnR (hrd.nth 0 4 (Tg.c l[i].1) rfl (by simp [Cm.len])) rfl (ldaS H.p1 rfl (beT (cn_s (fun he => ?_) fun he => ?_)))
    · have he : ¬ l[i].1 = t := by simpa using he
      refine ixV H.p2 i rfl hm fun b hrd => ldnR hrd (by rw [List.getElem_map]; rfl) ?_
      rw [List.getElem_map]
      refine bslS H (Cm.c l[i]) (by simp [fill2, rep, Value.cells, Cm.c, Tg.c, Mk.c]) fun y h H => ?_
      have hfl : ((l.take i).filter fun c => decide (c.1 ≠ t)).length ≤ i := Nat.le_trans (List.length_filter_le ..) (by rw [List.length_take]; omega)
      refine ap1 [vi 0, vu 0, vu 0, vi 0, .string ⟨#[]⟩, vi 0, vu 0] H.p1 rfl (by simp [oneC]) rfl (Cm.one _) (by simp only [List.length_map]; omega) (by simp only [List.length_map]; omega) fun s' h H => next s' h ?_
      rw [List.filter_cons_of_pos (by simpa using he), List.filter_nil]
      unfold cms; rw [List.map_append]; exact H
    · have he : l[i].1 = t := by simpa using he
      refine next o h ?_
      rw [List.filter_cons_of_neg (by simpa using he), List.filter_nil, List.append_nil]
      exact H
  · have : i = l.length := by omega
    subst this
    rw [List.take_length] at H
    exact H.p1.drop
theorem v00 (z : Nat) : VOk z [] 0 [] := ⟨by simp, by simp, by simp, by simp⟩
def dm (t : Tg) (l : List Tg) : List Tg := if t ∈ l then l else l ++ [t]
theorem s224 {h : Hp} {rs : List SL} {m : Nat} {a b s : Value} {l : List Tg} {t : Tg} (hl : l.length ≤ 1000000) (H : Hs h (bk m [a, b, s] :: tgs s l :: rs)) :
    FnW Tryz.prog 224 #[pt m 0, .agg (Tg.c t).toArray] (fun v h' => ∃ s', Hs h' (bk m [a, b, s'] :: tgs s' (dm t l) :: rs)) h := by
  refine c224 ?_
  unfold C224
  refine bxS H fun x h H => ?_
  have H : Hs h (bk x (Tg.c t) :: bk m [a, b, s] :: tgs s l :: rs) := by simpa [Value.cells] using H
  refine nc_s (fa_s (ld1S H.p1 s rfl (ldaS H rfl (cl_s b30 (s30 (l := l) (rs := bk x (Tg.c t) :: bk m [a, b, s] :: rs) (by omega) (H.perm (by repeat (first | with_reducible exact List.Perm.refl _ | with_reducible refine pm0 ?_ | with_reducible refine pm1 ?_ | with_reducible refine pm2 ?_ | with_reducible refine pm3 ?_ | with_reducible refine pm4 ?_ | with_reducible refine pm5 ?_ | with_reducible refine pm6 ?_ | with_reducible refine pm7 ?_ | with_reducible refine pm8 ?_ | with_reducible refine pm9 ?_ | with_reducible refine pm10 ?_ | with_reducible refine pm11 ?_ | with_reducible refine pm12 ?_ | with_reducible refine pm13 ?_)))) ?_))))
  rintro _ h ⟨rfl, H⟩
  refine un_s (.bool !(decide (t ∈ l))) rfl ?_
  by_cases ht : t ∈ l
  · rw [decide_eq_true ht]
    exact cn_f ⟨s, by rw [dm, if_pos ht]; exact (H.perm (rs' := bk x (Tg.c t) :: bk m [a, b, s] :: tgs s l :: rs) (by repeat (first | with_reducible exact List.Perm.refl _ | with_reducible refine pm0 ?_ | with_reducible refine pm1 ?_ | with_reducible refine pm2 ?_ | with_reducible refine pm3 ?_ | with_reducible refine pm4 ?_ | with_reducible refine pm5 ?_ | with_reducible refine pm6 ?_ | with_reducible refine pm7 ?_ | with_reducible refine pm8 ?_ | with_reducible refine pm9 ?_ | with_reducible refine pm10 ?_ | with_reducible refine pm11 ?_ | with_reducible refine pm12 ?_ | with_reducible refine pm13 ?_))).drop⟩
  · rw [decide_eq_false ht]
    have H := H.perm (rs' := bk x (Tg.c t) :: bk m [a, b, s] :: tgs s l :: rs) (by repeat (first | with_reducible exact List.Perm.refl _ | with_reducible refine pm0 ?_ | with_reducible refine pm1 ?_ | with_reducible refine pm2 ?_ | with_reducible refine pm3 ?_ | with_reducible refine pm4 ?_ | with_reducible refine pm5 ?_ | with_reducible refine pm6 ?_ | with_reducible refine pm7 ?_ | with_reducible refine pm8 ?_ | with_reducible refine pm9 ?_ | with_reducible refine pm10 ?_ | with_reducible refine pm11 ?_ | with_reducible refine pm12 ?_ | with_reducible refine pm13 ?_))
    have z1 : ∀ u ∈ ([vi 0, vu 0, vu 0, vi 0] : List Value), oneC u = true := by simp [oneC]
    have fin : ∀ h s' (R : SL), Hs h (bk m [a, b, s'] :: vec 4 s' (l.map Tg.c ++ [Tg.c t]) :: R :: bk x (Tg.c t) :: rs) → ∃ s', Hs h (bk m [a, b, s'] :: tgs s' (dm t l) :: rs) := by
      intro h s' R H
      refine ⟨s', ?_⟩
      rw [dm, if_neg ht]
      unfold tgs
      rw [List.map_append]
      exact (H.perm (rs' := R :: bk x (Tg.c t) :: bk m [a, b, s'] :: vec 4 s' (l.map Tg.c ++ [Tg.c t]) :: rs) (by repeat (first | with_reducible exact List.Perm.refl _ | with_reducible refine pm0 ?_ | with_reducible refine pm1 ?_ | with_reducible refine pm2 ?_ | with_reducible refine pm3 ?_ | with_reducible refine pm4 ?_ | with_reducible refine pm5 ?_ | with_reducible refine pm6 ?_ | with_reducible refine pm7 ?_ | with_reducible refine pm8 ?_ | with_reducible refine pm9 ?_ | with_reducible refine pm10 ?_ | with_reducible refine pm11 ?_ | with_reducible refine pm12 ?_ | with_reducible refine pm13 ?_))).drop.drop
    have b1 : ∀ n, n ≤ 2000000 → (n * 32 ≤ 140737488355328 ∧ n ≤ 9223372036854775807) := fun n h => by omega
    refine cn_t (nc_s (fa_s (ld1S H.p1 s rfl (ldaS H rfl ⟨?_, ?_⟩))))
    · refine bslS H [] rfl fun o h H => ⟨ld1S H.p2 s rfl rfl, ldaS H.p1 rfl rfl, ?_, ?_⟩
      · have H : Hs h (vec 4 (sl o 0 0 0) [] :: bk x (Tg.c t) :: bk m [a, b, s] :: tgs s l :: rs) := Hs.vec1 (v00 4) H
        refine apA [vi 0, vu 0, vu 0, vi 0] (H.perm (rs' := vec 4 (sl o 0 0 0) [] :: tgs s l :: bk x (Tg.c t) :: bk m [a, b, s] :: rs) (by repeat (first | with_reducible exact List.Perm.refl _ | with_reducible refine pm0 ?_ | with_reducible refine pm1 ?_ | with_reducible refine pm2 ?_ | with_reducible refine pm3 ?_ | with_reducible refine pm4 ?_ | with_reducible refine pm5 ?_ | with_reducible refine pm6 ?_ | with_reducible refine pm7 ?_ | with_reducible refine pm8 ?_ | with_reducible refine pm9 ?_ | with_reducible refine pm10 ?_ | with_reducible refine pm11 ?_ | with_reducible refine pm12 ?_ | with_reducible refine pm13 ?_))) rfl z1 (by simp; omega) (by simp; omega) fun s1 h H => ⟨ldaS H.p2 rfl rfl, ?_⟩
        refine bslS H (Tg.c t) (by simp [fill2, rep, Value.cells, Tg.c]) fun y h H => ⟨ld1S H.p4 s rfl rfl, ?_⟩
        refine ap1 [vi 0, vu 0, vu 0, vi 0] H.p1 rfl z1 rfl (Tg.one _) (by simp; omega) (by simp; omega) fun s2 h H => ?_
        refine nc_s (fa_s (st1S H.p3 H.vecC (by simp) fun h H => fin h s2 (tgs s l) H))
      · have H : Hs h (vec 4 (sl o 0 0 0) [] :: bk x (Tg.c t) :: bk m [a, b, s] :: tgs s l :: rs) := Hs.vec1 (v00 4) H
        refine bslS H (Tg.c t) (by simp [fill2, rep, Value.cells, Tg.c]) fun y h H => ⟨ld1S H.p3 s rfl rfl, ?_⟩
        refine apA [vi 0, vu 0, vu 0, vi 0] (H.perm (rs' := vec 4 (sl o 0 0 0) [] :: tgs s l :: bk y (Tg.c t) :: bk x (Tg.c t) :: bk m [a, b, s] :: rs) (by repeat (first | with_reducible exact List.Perm.refl _ | with_reducible refine pm0 ?_ | with_reducible refine pm1 ?_ | with_reducible refine pm2 ?_ | with_reducible refine pm3 ?_ | with_reducible refine pm4 ?_ | with_reducible refine pm5 ?_ | with_reducible refine pm6 ?_ | with_reducible refine pm7 ?_ | with_reducible refine pm8 ?_ | with_reducible refine pm9 ?_ | with_reducible refine pm10 ?_ | with_reducible refine pm11 ?_ | with_reducible refine pm12 ?_ | with_reducible refine pm13 ?_))) rfl z1 (by simp; omega) (by simp; omega) fun s1 h H => ⟨ldaS H.p3 rfl rfl, ?_⟩
        refine ap1 [vi 0, vu 0, vu 0, vi 0] (H.perm (rs' := vec 4 s1 ([] ++ l.map Tg.c) :: bk y (Tg.c t) :: tgs s l :: bk x (Tg.c t) :: bk m [a, b, s] :: rs) (by repeat (first | with_reducible exact List.Perm.refl _ | with_reducible refine pm0 ?_ | with_reducible refine pm1 ?_ | with_reducible refine pm2 ?_ | with_reducible refine pm3 ?_ | with_reducible refine pm4 ?_ | with_reducible refine pm5 ?_ | with_reducible refine pm6 ?_ | with_reducible refine pm7 ?_ | with_reducible refine pm8 ?_ | with_reducible refine pm9 ?_ | with_reducible refine pm10 ?_ | with_reducible refine pm11 ?_ | with_reducible refine pm12 ?_ | with_reducible refine pm13 ?_))) rfl z1 rfl (Tg.one _) (by simp; omega) (by simp; omega) fun s2 h H => ?_
        refine nc_s (fa_s (st1S H.p3 H.vecC (by simp) fun h H => fin h s2 (tgs s l) H))
    · refine bslS H (Tg.c t) (by simp [fill2, rep, Value.cells, Tg.c]) fun y h H => ⟨ld1S H.p2 s rfl rfl, ?_⟩
      refine bslS H [] rfl fun o h H => ⟨ld1S H.p3 s rfl rfl, ldaS H.p2 rfl rfl, ?_⟩
      have H : Hs h (vec 4 (sl o 0 0 0) [] :: bk y (Tg.c t) :: bk x (Tg.c t) :: bk m [a, b, s] :: tgs s l :: rs) := Hs.vec1 (v00 4) H
      refine apA [vi 0, vu 0, vu 0, vi 0] (H.perm (rs' := vec 4 (sl o 0 0 0) [] :: tgs s l :: bk y (Tg.c t) :: bk x (Tg.c t) :: bk m [a, b, s] :: rs) (by repeat (first | with_reducible exact List.Perm.refl _ | with_reducible refine pm0 ?_ | with_reducible refine pm1 ?_ | with_reducible refine pm2 ?_ | with_reducible refine pm3 ?_ | with_reducible refine pm4 ?_ | with_reducible refine pm5 ?_ | with_reducible refine pm6 ?_ | with_reducible refine pm7 ?_ | with_reducible refine pm8 ?_ | with_reducible refine pm9 ?_ | with_reducible refine pm10 ?_ | with_reducible refine pm11 ?_ | with_reducible refine pm12 ?_ | with_reducible refine pm13 ?_))) rfl z1 (by simp; omega) (by simp; omega) fun s1 h H => ⟨ldaS H.p3 rfl rfl, ?_⟩
      refine ap1 [vi 0, vu 0, vu 0, vi 0] (H.perm (rs' := vec 4 s1 ([] ++ l.map Tg.c) :: bk y (Tg.c t) :: tgs s l :: bk x (Tg.c t) :: bk m [a, b, s] :: rs) (by repeat (first | with_reducible exact List.Perm.refl _ | with_reducible refine pm0 ?_ | with_reducible refine pm1 ?_ | with_reducible refine pm2 ?_ | with_reducible refine pm3 ?_ | with_reducible refine pm4 ?_ | with_reducible refine pm5 ?_ | with_reducible refine pm6 ?_ | with_reducible refine pm7 ?_ | with_reducible refine pm8 ?_ | with_reducible refine pm9 ?_ | with_reducible refine pm10 ?_ | with_reducible refine pm11 ?_ | with_reducible refine pm12 ?_ | with_reducible refine pm13 ?_))) rfl z1 rfl (Tg.one _) (by simp; omega) (by simp; omega) fun s2 h H => ?_
      refine nc_s (fa_s (st1S H.p3 H.vecC (by simp) fun h H => fin h s2 (tgs s l) H))
end Go.Proofs.YtalknmdbamlabaaGreat.Q
