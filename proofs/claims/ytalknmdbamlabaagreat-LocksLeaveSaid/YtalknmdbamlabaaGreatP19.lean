/- The keys of a map as a sequence: maps.Keys, slices.Collect. Conditions: none. -/
import Derived.Test.YtalknmdbamlabaaGreatP18
namespace Go.Proofs.YtalknmdbamlabaaGreat.Q
open Go
open SL (bk bkn mp old it exS puS emS stS)
/-- maps.Keys' iterator. -/
def CKeys (P : Program) (t : TypeId) (yield_a0 a_a1 : Value) (R : Value → A) : A :=
 ld1 a_a1 fun v1 =>
 ru P (Instr.range t v1) fun v2 =>
 lp 0 (fun _ nx3 =>
 ru P (Instr.next v2 false 0) fun v4 =>
  ex 0 v4 fun v5 =>
  cn v5
  (qt P (Instr.entry v2) fun v6 =>
  ex 0 v6 fun v7 =>
  CV P yield_a0 [v7] fun v8 =>
  un .not v8 fun v9 =>
  cn v9
  (R (Value.tuple #[]))
  (nx3))
  (R (Value.tuple #[]))) []
theorem C229_eq : C229 = CKeys Tryz.prog 207 := rfl
section
variable {κ : Type} {P : Program}
/-- the iterator beside the map. -/
theorem mit_of {h : Hp} {r b c : Nat} {kc : κ → Value} {l rem : List (κ × Value)} {cur : Option (κ × Value)} {bs : List Nat} {seen : Array Nat} (hm : Mp h b (mkE kc l bs) c) (hi : h[r]? = some (.mapIter (some b) c seen c))
    (hf : bs.length = l.length ∧ bs.Nodup ∧ (∀ i ∈ bs, i < c) ∧ (l.map (·.1)).Nodup ∧ rem = (lft l bs seen).map (·.1) ∧ (∀ y, cur = some y → ∃ s, seen.back? = some s ∧ (y, s) ∈ l.zip bs)) : Hs h [mitS r b kc l rem cur] := by
  refine Hs.mit.2 ⟨bs, c, seen, hf, ⟨fun x => x = b ∨ x = r, fun x => x = b, fun x => x = r, fun _ => Iff.rfl, ?_, ⟨fun _ => Iff.rfl, hm⟩, fun x => x = r, fun _ => False, fun x => by simp, fun _ _ h => h, ⟨fun _ => Iff.rfl, hi⟩, fun _ h => h⟩⟩
  rintro x rfl rfl
  unfold Mp at hm
  rw [hm] at hi; cases hi
variable [DecidableEq κ]
theorem mdel_perm : ∀ {l : List (κ × Value)} {y : κ × Value}, (l.map (·.1)).Nodup → y ∈ l → l.Perm (y :: mdel y.1 l)
  | [], _, _, h => by cases h
  | x :: l, y, hn, h => by
    rw [List.map_cons] at hn
    obtain ⟨h1, h2⟩ := List.nodup_cons.1 hn
    have hno : ∀ z ∈ l, z.1 ≠ x.1 := fun z hz e => h1 (List.mem_map.2 ⟨z, hz, e⟩)
    by_cases e : x.1 = y.1
    · have hy : y = x := by
        rcases List.mem_cons.1 h with rfl | h
        · rfl
        · exact absurd e.symm (hno y h)
      subst hy
      have : mdel y.1 (y :: l) = l := by
        unfold mdel
        rw [List.filter_cons_of_neg (by simp)]
        exact List.filter_eq_self.2 fun z hz => by simpa using hno z hz
      rw [this]
    · have hy : y ∈ l := by
        rcases List.mem_cons.1 h with rfl | h
        · exact absurd rfl e
        · exact h
      have : mdel y.1 (x :: l) = x :: mdel y.1 l := by
        unfold mdel
        rw [List.filter_cons_of_pos (by simpa using e)]
      rw [this]
      exact (List.Perm.cons x (mdel_perm h2 hy)).trans (.swap ..)
/-- what a function value gives to the loops over it. -/
def Produces (P : Program) (fv : Value) (I : List (List Value) → A) (D : List (List Value) → List Value → Prop) (E : List (List Value) → Prop) : Prop :=
  (∃ g first cap, fv = .func (.func g) first cap) ∧
  ∀ (n : Nat) (y : Value) (J : List (List Value) → A) (Y : A) (h1 : Hp), (∀ pre h, J pre h → I pre h) → n ≤ h1.size → (∀ pre h h', J pre h → Sx n h h' → J pre h') → (∀ h h', Y h → Sx n h h' → Y h') → J [] h1 →
      (∀ pre x h', J pre h' → D pre x → CV P y x (fun b h'' => ((b = .bool true ∧ J (pre ++ [x]) h'') ∨ (b = .bool false ∧ Y h'')) ∧ Sk n h' h'') h') →
      CV P fv [y] (fun _ h2 => (∃ xs, E xs ∧ J xs h2) ∨ Y h2) h1
/-- a loop that always goes to its end. -/
theorem rfN {P : Program} {fv : Value} {round : Nat → (Exit → A) → List Value → A} {Qn Qr : A} {Qx : List (Nat × A)} {h : Hp} {D : List (List Value) → List Value → Prop} {E : List (List Value) → Prop} (I : List (List Value) → A) (hp : Produces P fv I D E) (hI : ∀ pre h1 h', I pre h1 → Cx h.size h1 h' → I pre h') (h0 : I [] h)
    (hround : ∀ pre x h', I pre h' → D pre x → round h.size (fun e => match e with | .normal => fun h'' => I (pre ++ [x]) h'' ∧ Sk h.size h' h'' | _ => fun h'' => False ∧ Sk h.size h' h'') x h')
    (hend : ∀ xs h2, E xs → I xs h2 → Qn h2) : rfW P fv round Qn Qr Qx h :=
  ⟨I, D, fun _ _ => False, E, hI, fun _ _ _ h _ => h, fun _ _ h => h.elim, h0, hp.1, fun y J Y h1 hl hJI => hp.2 h.size y J Y h1 hJI hl.1, hround, hend, fun _ h => h.elim, fun _ _ _ h => h.elim⟩
abbrev keyD (kc : κ → Value) (l : List (κ × Value)) (pre : List (List Value)) (x : List Value) : Prop := ∃ (ks : List κ) (k : κ) (rem : List κ), pre = ks.map (fun k => [kc k]) ∧ x = [kc k] ∧ (ks ++ k :: rem).Perm (l.map (·.1))
abbrev keyE (kc : κ → Value) (l : List (κ × Value)) (xs : List (List Value)) : Prop := ∃ ks : List κ, ks.Perm (l.map (·.1)) ∧ xs = ks.map (fun k => [kc k])
theorem keysGo {t kt et : TypeId} {kc : κ → Value} {a b c : Nat} {l : List (κ × Value)} {bs : List Nat} (ht : P.underlying t = some (.map kt et)) (hf : bs.length = l.length ∧ bs.Nodup ∧ (∀ i ∈ bs, i < c) ∧ (l.map (·.1)).Nodup)
    {I : List (List Value) → A} (hI : ∀ pre h, I pre h → Blk h a [.map (some b)] ∧ Mp h b (mkE kc l bs) c) {y : Value} {J : List (List Value) → A} {Y : A} {h1 : Hp} {n : Nat} (hn1 : n ≤ h1.size) (hJI : ∀ pre h, J pre h → I pre h) (hJs : ∀ pre h h', J pre h → Sx n h h' → J pre h') (h0 : J [] h1)
    (hy : ∀ pre x h', J pre h' → keyD kc l pre x → CV P y x (fun b h'' => ((b = .bool true ∧ J (pre ++ [x]) h'') ∨ (b = .bool false ∧ Y h'')) ∧ Sk n h' h'') h') :
    CKeys P t y (pt a 0) (fun _ h2 => (∃ xs, keyE kc l xs ∧ J xs h2) ∨ Y h2) h1 := by
  obtain ⟨hb, hm⟩ := hI _ _ (hJI _ _ h0)
  refine ld1_s hb (.map (some b)) rfl ?_
  refine rangeX (kc := kc) (l := l) (rs := []) ht (Hs.mpS.2 ⟨bs, c, hf, ⟨fun x => x = b, fun x => x = b, fun _ => False, fun x => by simp, fun _ _ h => h, ⟨fun _ => Iff.rfl, hm⟩, fun _ h => h⟩⟩) fun r h hs H => ?_
  have hnr : n ≤ r := by rw [hs.2]; exact hn1
  have h0 := hJs _ _ _ h0 ⟨hs.1.1, fun b hb => (hs.1.2 b hb).imp id fun ⟨hh, x⟩ => ⟨Nat.le_trans hn1 hh, x⟩⟩
  refine ⟨fun m h => ∃ ks rem cur, m = rem.length ∧ J (ks.map fun k => [kc k]) h ∧ Hs h [mitS r b kc l rem cur] ∧ (ks ++ rem.map (·.1)).Perm (l.map (·.1)), ⟨_, [], l, none, rfl, h0, H, List.Perm.refl _⟩, ?_⟩
  clear H h0 hs hm hb
  rintro m σ0 h ⟨ks, rem, cur, rfl, hJ, H, hpm⟩
  refine nextX H (fun hr H => ?_) fun z hz h2 hs H => ?_
  · subst hr
    refine ex_s _ rfl (cn_f (.inl ⟨_, ⟨ks, by simpa using hpm, rfl⟩, hJ⟩))
  · have hJ2 := hJs _ _ _ hJ ⟨hs.1, fun b hb => (hs.2 b hb).imp id fun ⟨hh, x⟩ => ⟨Nat.le_trans hnr hh, x⟩⟩
    have hnd : (ks ++ rem.map (·.1)).Nodup := hpm.nodup_iff.2 hf.2.2.2
    refine ex_s _ rfl (cn_t (entryS H (ex_s _ rfl ?_)))
    have hpz : (z.1 :: (mdel z.1 rem).map (fun p : κ × Value => p.1)).Perm (rem.map (·.1)) := (List.Perm.map (fun p : κ × Value => p.1) (mdel_perm ((List.nodup_append.1 hnd).2.1) hz)).symm
    refine (hy _ _ h2 hJ2 ⟨ks, z.1, (mdel z.1 rem).map (·.1), rfl, rfl, (List.Perm.append_left ks hpz).trans hpm⟩).mono ?_
    rintro v h3 ⟨hv, hk⟩
    obtain ⟨bs', c', seen, hf', H'⟩ := Hs.mit.1 H
    have hm1 : Mp h2 b (mkE kc l bs') c' := H'.mapd
    have hi1 : h2[r]? = some (.mapIter (some b) c' seen c') := by
      obtain ⟨F, F1, F2, e, d, H1, H2⟩ := H'.p1; exact H1.2
    have hm2 := (hI _ _ (hJI _ _ hJ2)).2
    have he : mkE kc l bs' = mkE kc l bs ∧ c' = c := by
      unfold Mp at hm1 hm2
      rw [hm1] at hm2
      simp only [Option.some.injEq, Obj.map.injEq] at hm2
      exact ⟨by simpa using hm2.1, hm2.2⟩
    rcases hv with ⟨rfl, hJ3⟩ | ⟨rfl, hY⟩
    · refine un_s (.bool false) rfl (cn_f ⟨(mdel z.1 rem).length, ?_, ks ++ [z.1], mdel z.1 rem, some z, rfl, ?_, ?_, ?_⟩)
      · unfold mdel
        exact List.length_filter_lt_length_iff_exists.2 ⟨_, hz, by simp⟩
      · rw [List.map_append]; exact hJ3
      · have hm3 := (hI _ _ (hJI _ _ hJ3)).2
        rw [← he.1, ← he.2] at hm3
        exact mit_of hm3 (hk _ _ hnr hi1 rfl) hf'
      · have hp2 := mdel_perm ((List.nodup_append.1 hnd).2.1) hz
        refine List.Perm.trans ?_ hpm
        rw [List.append_assoc]
        exact List.Perm.append_left ks (hp2.map _).symm
    · exact un_s (.bool true) rfl (cn_t (.inr hY))
end
/-- the same, of whatever assertion that holds the pieces that it reads. -/
def Gives (P : Program) (fv : Value) (rs : List SL) (D : List (List Value) → List Value → Prop) (E : List (List Value) → Prop) : Prop := ∀ I : List (List Value) → A, (∀ pre h, I pre h → ∃ q, Hs h (q :: rs)) → Produces P fv I D E
theorem keysGives {κ : Type} [DecidableEq κ] {kc : κ → Value} {a b c g : Nat} {l : List (κ × Value)} {bs : List Nat} {t kt et : TypeId} {rs : List SL} (ht : Tryz.prog.underlying t = some (.map kt et)) (hb : ∃ fn, Tryz.prog.funcs[g]? = some fn ∧ fn.body.isSome = true ∧ (fn.name == "runtime.NumGoroutine") = false)
    (hg : ∀ {y a : Value} {R : Value → A} {h : Hp}, CKeys Tryz.prog t y a R h → FnW Tryz.prog g #[y, a] R h) (hf : bs.length = l.length ∧ bs.Nodup ∧ (∀ i ∈ bs, i < c) ∧ (l.map (·.1)).Nodup) : Gives Tryz.prog (.func (.func g) #[] #[pt a 0]) (bk a [.map (some b)] :: mp b (mkE kc l bs) c :: rs) (keyD kc l) (keyE kc l) := by
  intro I hI
  refine ⟨⟨_, _, _, rfl⟩, fun n y J Y h1 hJI hn1 hJs _ h0 hy => cv_s hb (hg (keysGo (b := b) (c := c) ht hf (I := I) ?_ hn1 hJI hJs h0 hy)) fun _ _ h => h⟩
  intro pre h hi
  obtain ⟨q, H⟩ := hI pre h hi
  exact ⟨H.p1.blk, H.p2.mapd⟩
/-- AppendSeq, Collect. -/
theorem vec_lo {n z : Nat} {s : Value} {es : List (List Value)} : (vec z s es).lo n := by intro p; cases p <;> trivial
theorem lo_cons {n : Nat} {r : SL} {rs : List SL} (h : r.lo n) (h' : ∀ x ∈ rs, x.lo n) : ∀ x ∈ r :: rs, x.lo n := fun x hx => by
  rcases List.mem_cons.1 hx with rfl | hx
  · exact h
  · exact h' x hx
theorem lo_bk {n b : Nat} {cs : List Value} {rs : List SL} (h' : ∀ x ∈ rs, x.lo n) : ∀ x ∈ bk b cs :: rs, x.lo n := lo_cons (r := bk b cs) trivial h'
theorem lo_nil {n : Nat} : ∀ x ∈ ([] : List SL), x.lo n := fun _ h => by cases h
theorem lo_all {n m : Nat} {rs : List SL} (hm : n ≤ m) (h : ∀ x ∈ rs, x.lo n) : ∀ x ∈ rs, x.lo m := fun x hx => x.lo_mono hm (h x hx)
theorem lo_ll {n : Nat} {rs : List SL} (h : ∀ x ∈ rs, x.lo n) : ∀ x ∈ rs, x.ll n := fun x hx => x.lo_ll (h x hx)
theorem ll_cons {n : Nat} {r : SL} {rs : List SL} (h : r.ll n) (h' : ∀ x ∈ rs, x.ll n) : ∀ x ∈ r :: rs, x.ll n := fun x hx => by
  rcases List.mem_cons.1 hx with rfl | hx
  · exact h
  · exact h' x hx
/-- what there was is below. -/
theorem Hs.newLe {h h' : Hp} {b : Nat} {cs : List Value} (hn : New h h' b cs) : h.size ≤ h'.size := by rw [hn.size]; exact Nat.le_succ _
theorem Hs.los {n : Nat} {h : Hp} {rs : List SL} (H : Hs h (SL.sz n :: rs)) {ts : List SL} (hn : ∀ r ∈ ts, r.lo n) : ∀ r ∈ ts, r.lo h.size := lo_all H.szle hn
theorem lo_sz {n m : Nat} {rs : List SL} (h' : ∀ x ∈ rs, x.lo n) : ∀ x ∈ SL.sz m :: rs, x.lo n := lo_cons (r := SL.sz m) trivial h'
theorem s322 {h : Hp} {rs : List SL} {fv : Value} {D : List (List Value) → List Value → Prop} {E : List (List Value) → Prop} (hg : Gives Tryz.prog fv rs D E) (hns : ∀ r ∈ rs, r.lo h.size) (hD : ∀ pre x, D pre x → pre.length ≤ 1000000000 ∧ ∃ u, x = [u] ∧ oneC u = true) (H : Hs h rs) :
    FnW Tryz.prog 322 #[nilS, fv] (fun v h' => ∃ xs, E xs ∧ Hs h' (vec 1 v xs :: rs)) h := by
  refine c322 ?_
  unfold C322
  refine bx_s fun h2 s1 hn => ?_
  have hle := Hs.newLe hn
  have hns2 := lo_all hle hns
  have H : Hs h2 (bk s1 [nilS] :: rs) := H.new hn
  have H : Hs h2 (vec 1 nilS [] :: bk s1 [nilS] :: rs) := Hs.vec0 H
  refine rfN (fun pre h => ∃ s, Hs h (vec 1 s pre :: bk s1 [s] :: rs)) (hg _ fun pre h ⟨s, H⟩ => ⟨_, Hs.st.2 H⟩) ?_ ⟨nilS, H⟩ ?_ ?_
  · rintro pre h h' ⟨s, H⟩ hc
    exact ⟨s, H.cx (lo_cons vec_lo (lo_bk hns2)) hc⟩
  · rintro pre x h1 ⟨s, H⟩ hd
    obtain ⟨hlen, u, rfl, h1u⟩ := hD _ _ hd
    have H := H.sfs (lo_cons vec_lo (lo_bk hns2))
    refine ⟨rfl, fun b o hb _ => hb, fun h3 hl => ?_⟩
    have H := H.lx (ll_cons (r := SL.sf _ _) trivial (lo_ll (lo_cons vec_lo (lo_bk hns2)))) hl
    refine ldB ?_
    refine bslB [u] (fun y h H => ?_) (hf := by simp [fill2, rep, List.headD, oneC_cells h1u])
    refine ap1B (x := [u]) (by simpa using h1u) fun s' h H => ?_
    refine stB (h1 := H.vecC) fun h H => ?_
    exact ⟨⟨s', H.pl⟩, (H.pl (ts := SL.sf _ _ :: _)).sk⟩
  · rintro xs h3 hE ⟨s, H⟩
    refine ldB ?_
    intro h4 hl
    exact ⟨xs, hE, (H.lx (lo_ll (lo_cons vec_lo (lo_bk hns))) hl).pl⟩
end Go.Proofs.YtalknmdbamlabaaGreat.Q
