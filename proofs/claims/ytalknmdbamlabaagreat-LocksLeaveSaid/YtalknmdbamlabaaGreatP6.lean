/- The store: New, Default, Get, set, Move. Conditions: none. -/
import Derived.Test.YtalknmdbamlabaaGreatP5
namespace Go.Proofs.YtalknmdbamlabaaGreat.Q
open Go
open SL (bk bkn mp old exS puS emS stS)
abbrev u8c (b : UInt8) : Value := .int .u8 b.toNat
/-- bytes with their own memory. -/
def byR (s : Value) (bs : List UInt8) : SL := vec 1 s (bs.map fun b => [u8c b])
theorem El5 : El Tryz.prog [.int .u8 0] 1 5 82 :=
  ⟨by kernel_rfl, ⟨_, _, (by kernel_rfl : Tryz.prog.info? 5 = some (Tryz.prog.info? 5).get!), (by kernel_rfl : _ = some (.int .u8 0)), rfl, by kernel_rfl, by kernel_rfl⟩, by simp, by simp [oneC]⟩
theorem C127_eq : C127 = CClo Tryz.prog [.int .u8 0] 1 5 82 := rfl
theorem Hs.vecSl {h : Hp} {z : Nat} {s : Value} {es : List (List Value)} {rs : List SL} (H : Hs h (Q.vec z s es :: rs)) : ∃ a n c, s = .slice a n c := by
  rcases H.vec with ⟨rfl, _, _⟩ | ⟨_, _, _, rfl, _⟩ <;> exact ⟨_, _, _, rfl⟩
theorem s127 {h : Hp} {rs : List SL} {s : Value} {bs : List UInt8} (H : Hs h (byR s bs :: rs)) (hb : bs.length ≤ 1000000000) : FnW Tryz.prog 127 #[s] (fun s' h' => Hs h' (byR s' bs :: byR s bs :: rs)) h := by
  obtain ⟨a, n, c, rfl⟩ := H.vecSl
  refine c127 ?_
  rw [C127_eq]
  exact cloC (zl := [.int .u8 0]) El5 H (Hs.vecSrc H) (by simp) (by simp [oneC]) (by simp; omega) (by simp; omega) fun s' h' H' => H'
/-- a record. -/
structure Rc where
  has : Bool
  vl : List UInt8
  home : Int
  cnt : Nat
def Rc.c (r : Rc) (s : Value) : List Value := [.bool r.has, s, vi r.home, vu r.cnt]
theorem rc_ok {r : Rc} {s : Value} (h : oneC s = true) (k : ByteArray) : It.ok (k, r.c s) := ⟨rfl, by simp [Rc.c, oneC] at *; exact h⟩
section
variable {α β : Type}
def glo (k : ByteArray) (l : List (ByteArray × α)) : List (ByteArray × α) := l.filter fun x => bl x.1 k
def ghi (k : ByteArray) (l : List (ByteArray × α)) : List (ByteArray × α) := l.filter fun x => bl k x.1
def gin (k : ByteArray) (v : α) (l : List (ByteArray × α)) : List (ByteArray × α) := glo k l ++ (k, v) :: ghi k l
def gdel (k : ByteArray) (l : List (ByteArray × α)) : List (ByteArray × α) := glo k l ++ ghi k l
def gval (k : ByteArray) (l : List (ByteArray × α)) : Option α := (l.find? fun x => decide (x.1 = k)).map (·.2)
def mapV (f : α → β) (l : List (ByteArray × α)) : List (ByteArray × β) := l.map fun x => (x.1, f x.2)
theorem glo_mapV (k : ByteArray) (f : α → β) (l : List (ByteArray × α)) : glo k (mapV f l) = mapV f (glo k l) := by
  unfold glo mapV; rw [List.filter_map]; rfl
theorem ghi_mapV (k : ByteArray) (f : α → β) (l : List (ByteArray × α)) : ghi k (mapV f l) = mapV f (ghi k l) := by
  unfold ghi mapV; rw [List.filter_map]; rfl
theorem gin_mapV (k : ByteArray) (f : α → β) (v : α) (l : List (ByteArray × α)) : gin k (f v) (mapV f l) = mapV f (gin k v l) := by
  unfold gin; rw [glo_mapV, ghi_mapV]; simp [mapV]
theorem gdel_mapV (k : ByteArray) (f : α → β) (l : List (ByteArray × α)) : gdel k (mapV f l) = mapV f (gdel k l) := by
  unfold gdel; rw [glo_mapV, ghi_mapV]; simp [mapV]
theorem gval_mapV (k : ByteArray) (f : α → β) (l : List (ByteArray × α)) : gval k (mapV f l) = (gval k l).map f := by
  unfold gval mapV; rw [List.find?_map]; simp only [Function.comp_def, Option.map_map]
theorem keys_mapV (f : α → β) (l : List (ByteArray × α)) : (mapV f l).map (·.1) = l.map (·.1) := by unfold mapV; rw [List.map_map]; rfl
theorem gval_mem {k : ByteArray} {v : α} {l : List (ByteArray × α)} (h : gval k l = some v) : ∃ a b, l = a ++ (k, v) :: b ∧ ∀ y ∈ a, y.1 ≠ k := by
  unfold gval at h
  obtain ⟨x, hx, rfl⟩ := Option.map_eq_some_iff.1 h
  obtain ⟨h1, a, b, rfl, h2⟩ := List.find?_eq_some_iff_append.1 hx
  simp only [decide_eq_true_eq] at h1
  exact ⟨a, b, by rw [← h1], by simpa using h2⟩
end
theorem ins_gin (k : ByteArray) (v : List Value) (l : List It) : ins k v l = gin k v l := rfl
theorem val_gval (k : ByteArray) (l : List It) : val k l = gval k l := rfl
/-! the first home -/
def dflt (k : ByteArray) (reg : Int) : Int := if reg < 1 then 0 else k.data.toList.foldl (fun s b => (s + b.toNat) % reg) 0
theorem idxT {P : Program} {h : Hp} {K : Value → A} {t : TypeId} {s : ByteArray} {kd : IntKind} {n : Int} (ht : P.underlying t = some .string) (i : Nat) (hn : n = i) (hi : i < s.data.toList.length)
    (k : K (u8c s.data.toList[i]) h) : pp P (Instr.index t (.string s) (.int kd n)) K h := by
  refine ⟨u8c s.data.toList[i], fun w => ?_, k⟩
  subst hn
  unfold Instr.index
  have hi' : i < s.size := by simpa using hi
  have e : s[i]? = some s.data.toList[i] := by
    rw [getElem?_pos s i hi']; rfl
  simp only [asIntOf, Sem.run_bind, Sem.run_pure, Result.andThen, run_und ht]
  rw [if_pos (by omega), Int.toNat_natCast, e]; rfl
theorem und9 : Tryz.prog.underlying 9 = some .string := by kernel_rfl
theorem dflt_bound (l : List UInt8) (reg : Int) (hr : 1 ≤ reg) (s : Int) (h0 : 0 ≤ s) (h1 : s < reg) : 0 ≤ l.foldl (fun s b => (s + b.toNat) % reg) s ∧ l.foldl (fun s b => (s + b.toNat) % reg) s < reg := by
  induction l generalizing s with
  | nil => exact ⟨h0, h1⟩
  | cons b l ih => exact ih _ (Int.emod_nonneg _ (by omega)) (Int.emod_lt_of_pos _ (by omega))
theorem s242 {h : Hp} {k : ByteArray} {reg : Int} (hr : reg ≤ 1000) (hk : k.size ≤ 4611686018427387904) : FnW Tryz.prog 242 #[.string k, vi reg] (fun v h' => v = vi (dflt k reg) ∧ h' = h) h := by
  refine c242 ?_
  unfold C242
  refine cn_lss (fun hlt => ?_) fun hge => ?_
  · exact ⟨by rw [dflt, if_pos hlt], rfl⟩
  · have hks : k.data.toList.length = k.size := by simp
    refine lnT_s ⟨fun m vs vj h' => ∃ (j : Nat) (s : Int), vj = vi j ∧ vs = vi s ∧ m = k.size - j ∧ j ≤ k.size ∧ 0 ≤ s ∧ s < reg ∧ (k.data.toList.drop j).foldl (fun s b => (s + b.toNat) % reg) s = dflt k reg ∧ h' = h,
      ⟨_, 0, 0, rfl, rfl, rfl, Nat.zero_le _, Int.le_refl _, by omega, by rw [dflt, if_neg (by omega)]; rfl, rfl⟩, ?_⟩
    rintro m σ0 _ _ h' ⟨j, s, rfl, rfl, rfl, hj, h0, h1, hs, rfl⟩
    refine cn_lss (fun hlt => ?_) fun hge2 => ?_
    · have hj' : j < k.data.toList.length := by omega
      refine idxT und9 j rfl hj' (cvi_s ?_)
      have hb : (k.data.toList[j].toNat : Int) < 256 := by have := k.data.toList[j].toNat_lt; omega
      rw [w64_id (by omega) (by omega)]
      refine bn_add (by omega) (by omega) (bn_s (vi ((s + k.data.toList[j].toNat) % reg)) ?_ (bn_add (by omega) (by omega) ⟨_, ?_, j + 1, _, by congr 1, rfl, rfl, by omega, Int.emod_nonneg _ (by omega), Int.emod_lt_of_pos _ (by omega), ?_, rfl⟩))
      · simp only [binV, intV, if_true]
        rw [if_neg (by omega), Int.tmod_eq_emod_of_nonneg (by omega)]
      · omega
      · rw [← hs, List.drop_eq_getElem_cons hj', List.foldl_cons]
    · have : j = k.size := by omega
      subst this
      rw [List.drop_of_length_le (by omega), List.foldl_nil] at hs
      exact ⟨by rw [hs], rfl⟩
/-! the store -/
abbrev SRow := ByteArray × (Rc × Value)
def sit (x : Rc × Value) : List Value := x.1.c x.2
def svc (x : SRow) : SL := byR x.2.2 x.2.1.vl
def storeR (s : Nat) (reg : Int) (rows : List (ByteArray × Rc)) : SL := exS fun tL : Nat × List SRow =>
  puS (mapV (·.1) tL.2 = rows ∧ ∀ x ∈ rows, x.2.vl.length ≤ 1000000000) (sep [bk s [vi reg, pt tL.1 0], treeR tL.1 (mapV sit tL.2), sep (tL.2.map svc)])
theorem Hs.store {h : Hp} {s : Nat} {reg : Int} {rows : List (ByteArray × Rc)} {rs : List SL} : Hs h (storeR s reg rows :: rs) ↔
    ∃ t L, mapV (·.1) L = rows ∧ (∀ x ∈ rows, x.2.vl.length ≤ 1000000000) ∧ Hs h (bk s [vi reg, pt t 0] :: treeR t (mapV sit L) :: sep (L.map svc) :: rs) := by
  constructor
  · intro H
    obtain ⟨⟨t, L⟩, H⟩ := Hs.ex.1 H
    obtain ⟨⟨h1, h2⟩, H⟩ := Hs.pu.1 H
    exact ⟨t, L, h1, h2, Hs.join.1 H⟩
  · rintro ⟨t, L, h1, h2, H⟩
    exact Hs.ex.2 ⟨(t, L), Hs.pu.2 ⟨⟨h1, h2⟩, Hs.join.2 H⟩⟩
theorem Hs.storeRise {h : Hp} {s : Nat} {reg : Int} {rows : List (ByteArray × Rc)} {rs : List SL} (H : Hs h (storeR s reg rows :: rs)) : Rise (rows.map (·.1)) := by
  obtain ⟨t, L, rfl, _, H⟩ := Hs.store.1 H
  obtain ⟨p, d, hr, _⟩ := Hs.tree.1 H.p1
  rw [keys_mapV]
  unfold RiseI at hr
  rwa [keys_mapV] at hr
def getRc (k : ByteArray) (reg : Int) (rows : List (ByteArray × Rc)) : Rc := (gval k rows).getD ⟨false, [], dflt k reg, 0⟩
theorem s19 {h : Hp} {rs : List SL} {reg : Int} (h1 : 1 ≤ reg) (h3 : reg ≤ 3) (H : Hs h rs) : FnW Tryz.prog 19 #[vi reg] (fun v h' => ∃ s, v = .tuple #[pt s 0, vi 0] ∧ Hs h' (storeR s reg [] :: rs)) h := by
  refine c19 ?_
  unfold C19
  refine bn_s (.bool false) (by simp [binV, intV]; omega) (gd_t (gd_t (bn_s (.bool false) (by simp [binV, intV]; omega) (pk_s (cn_f ?_)))))
  refine cl_s b102 (s102 H) ?_
  rintro _ h ⟨t, rfl, H⟩
  refine bd_s [vi reg, pt t 0] rfl (bxS H fun s h H => ⟨s, rfl, Hs.store.2 ⟨t, [], rfl, by simp, ?_⟩⟩)
  have H : Hs h (emS :: bk s [vi reg, pt t 0] :: treeR t [] :: rs) := Hs.em.2 H
  exact H.perm (by
    show List.Perm _ (bk s [vi reg, pt t 0] :: treeR t [] :: emS :: rs)
    repeat (first | with_reducible exact List.Perm.refl _ | with_reducible refine pm0 ?_ | with_reducible refine pm1 ?_ | with_reducible refine pm2 ?_ | with_reducible refine pm3 ?_ | with_reducible refine pm4 ?_ | with_reducible refine pm5 ?_ | with_reducible refine pm6 ?_ | with_reducible refine pm7 ?_ | with_reducible refine pm8 ?_ | with_reducible refine pm9 ?_ | with_reducible refine pm10 ?_ | with_reducible refine pm11 ?_ | with_reducible refine pm12 ?_ | with_reducible refine pm13 ?_))
theorem vec_nil {h : Hp} {z : Nat} {rs : List SL} (H : Hs h rs) : Hs h (vec z nilS [] :: rs) := H.vec0
theorem s135 {h : Hp} {rs : List SL} {s : Nat} {reg : Int} {rows : List (ByteArray × Rc)} {k : ByteArray} (hr : reg ≤ 1000) (hk : k.size ≤ 4611686018427387904) (H : Hs h (storeR s reg rows :: rs)) :
    FnW Tryz.prog 135 #[pt s 0, .string k] (fun v h' => ∃ sl, v = .agg ((getRc k reg rows).c sl).toArray ∧ Hs h' (byR sl (getRc k reg rows).vl :: storeR s reg rows :: rs)) h := by
  obtain ⟨t, L, e, hlen, H⟩ := Hs.store.1 H
  refine c135 ?_
  unfold C135
  refine alS H fun x h H => nc_s (fa_s (ld1S H.p1 (pt t 0) rfl ?_))
  refine cl_s b241 (s241 (rs := bk x zero4 :: bk s [vi reg, pt t 0] :: sep (L.map svc) :: rs) (H.perm (by repeat (first | with_reducible exact List.Perm.refl _ | with_reducible refine pm0 ?_ | with_reducible refine pm1 ?_ | with_reducible refine pm2 ?_ | with_reducible refine pm3 ?_ | with_reducible refine pm4 ?_ | with_reducible refine pm5 ?_ | with_reducible refine pm6 ?_ | with_reducible refine pm7 ?_ | with_reducible refine pm8 ?_ | with_reducible refine pm9 ?_ | with_reducible refine pm10 ?_ | with_reducible refine pm11 ?_ | with_reducible refine pm12 ?_ | with_reducible refine pm13 ?_)))) ?_
  rintro _ h ⟨hok, rfl, H⟩
  refine ex_s _ rfl (ex_s _ rfl (alS H fun r h H => staS H hok.1 rfl hok.2 fun h H => ?_))
  have hval : val k (mapV sit L) = (gval k L).map sit := gval_mapV k sit L
  have hgv : gval k rows = (gval k L).map (·.1) := by rw [← e]; exact gval_mapV k _ L
  intro k9 hk9
  have fin : ∀ (h : Hp) (sl : Value) (M : SL), (∀ h' rs, Hs h' (byR sl (getRc k reg rows).vl :: M :: rs) → Hs h' (sep (L.map svc) :: rs)) →
      Hs h (bk r ((getRc k reg rows).c sl) :: byR sl (getRc k reg rows).vl :: M :: bk x zero4 :: treeR t (mapV sit L) :: bk s [vi reg, pt t 0] :: rs) → k9 h := by
    intro h sl M hM H
    have hvl : (getRc k reg rows).vl.length ≤ 1000000000 := by
      unfold getRc
      cases hg : gval k rows with
      | none => simp
      | some r =>
        obtain ⟨a, b, e2, _⟩ := gval_mem hg
        exact hlen (k, r) (by rw [e2]; simp)
    refine hk9 h fun _ => fa_s (ld1S H sl rfl (cl_s b127 (s127 (rs := M :: bk r ((getRc k reg rows).c sl) :: bk x zero4 :: treeR t (mapV sit L) :: bk s [vi reg, pt t 0] :: rs) (H.perm (by repeat (first | with_reducible exact List.Perm.refl _ | with_reducible refine pm0 ?_ | with_reducible refine pm1 ?_ | with_reducible refine pm2 ?_ | with_reducible refine pm3 ?_ | with_reducible refine pm4 ?_ | with_reducible refine pm5 ?_ | with_reducible refine pm6 ?_ | with_reducible refine pm7 ?_ | with_reducible refine pm8 ?_ | with_reducible refine pm9 ?_ | with_reducible refine pm10 ?_ | with_reducible refine pm11 ?_ | with_reducible refine pm12 ?_ | with_reducible refine pm13 ?_))) hvl) fun sl' h H => ?_))
    have o1 := Hs.vecC H
    refine fa_s (st1S H.p3 o1 (by simp [Rc.c]) fun h H => ?_)
    have H : Hs h (bk r ((getRc k reg rows).c sl') :: byR sl' (getRc k reg rows).vl :: byR sl (getRc k reg rows).vl :: M :: bk x zero4 :: treeR t (mapV sit L) :: bk s [vi reg, pt t 0] :: rs) := H
    have hc := rc_ok (r := getRc k reg rows) o1 k
    refine ldaS H rfl (staS H.p4 rfl rfl hc.2 fun h H => ldaS H rfl ⟨sl', rfl, ?_⟩)
    have H := hM _ _ (H.drop.drop.perm (rs' := byR sl (getRc k reg rows).vl :: M :: byR sl' (getRc k reg rows).vl :: treeR t (mapV sit L) :: bk s [vi reg, pt t 0] :: rs) (by repeat (first | with_reducible exact List.Perm.refl _ | with_reducible refine pm0 ?_ | with_reducible refine pm1 ?_ | with_reducible refine pm2 ?_ | with_reducible refine pm3 ?_ | with_reducible refine pm4 ?_ | with_reducible refine pm5 ?_ | with_reducible refine pm6 ?_ | with_reducible refine pm7 ?_ | with_reducible refine pm8 ?_ | with_reducible refine pm9 ?_ | with_reducible refine pm10 ?_ | with_reducible refine pm11 ?_ | with_reducible refine pm12 ?_ | with_reducible refine pm13 ?_)))
    exact (Hs.store.2 ⟨t, L, e, hlen, H.perm (rs' := bk s [vi reg, pt t 0] :: treeR t (mapV sit L) :: sep (L.map svc) :: byR sl' (getRc k reg rows).vl :: rs) (by repeat (first | with_reducible exact List.Perm.refl _ | with_reducible refine pm0 ?_ | with_reducible refine pm1 ?_ | with_reducible refine pm2 ?_ | with_reducible refine pm3 ?_ | with_reducible refine pm4 ?_ | with_reducible refine pm5 ?_ | with_reducible refine pm6 ?_ | with_reducible refine pm7 ?_ | with_reducible refine pm8 ?_ | with_reducible refine pm9 ?_ | with_reducible refine pm10 ?_ | with_reducible refine pm11 ?_ | with_reducible refine pm12 ?_ | with_reducible refine pm13 ?_))⟩).p1
  cases hg : gval k L with
  | none =>
    rw [hval, hg] at H
    have hrc : getRc k reg rows = ⟨false, [], dflt k reg, 0⟩ := by unfold getRc; rw [hgv, hg]; rfl
    rw [hval, hg]
    refine un_s (.bool true) rfl (cn_t (nc_s (fa_s (ld1S H.p3 (vi reg) rfl (cl_s b242 (s242 hr hk) ?_)))))
    rintro _ h' ⟨rfl, rfl⟩
    refine fa_s (st1S H rfl (by simp) fun h H => fin h nilS (sep (L.map svc)) (fun h' rs H' => H'.drop) ?_)
    rw [hrc]
    have H : Hs h (bk r (Rc.c ⟨false, [], dflt k reg, 0⟩ nilS) :: treeR t (mapV sit L) :: bk x zero4 :: bk s [vi reg, pt t 0] :: sep (L.map svc) :: rs) := H
    have H : Hs h (byR nilS [] :: bk r (Rc.c ⟨false, [], dflt k reg, 0⟩ nilS) :: treeR t (mapV sit L) :: bk x zero4 :: bk s [vi reg, pt t 0] :: sep (L.map svc) :: rs) := H.vec0
    exact H.perm (by repeat (first | with_reducible exact List.Perm.refl _ | with_reducible refine pm0 ?_ | with_reducible refine pm1 ?_ | with_reducible refine pm2 ?_ | with_reducible refine pm3 ?_ | with_reducible refine pm4 ?_ | with_reducible refine pm5 ?_ | with_reducible refine pm6 ?_ | with_reducible refine pm7 ?_ | with_reducible refine pm8 ?_ | with_reducible refine pm9 ?_ | with_reducible refine pm10 ?_ | with_reducible refine pm11 ?_ | with_reducible refine pm12 ?_ | with_reducible refine pm13 ?_))
  | some rv =>
    obtain ⟨A, B, eL, _⟩ := gval_mem hg
    rw [hval, hg] at H
    have hrc : getRc k reg rows = rv.1 := by unfold getRc; rw [hgv, hg]; rfl
    rw [hval, hg]
    refine un_s (.bool false) rfl (cn_f (fin h rv.2 (stS (sep (A.map svc)) (sep (B.map svc))) ?_ ?_))
    · intro h' rs H'
      rw [eL, sep_mid]
      rw [hrc] at H'
      exact (Hs.st.1 H'.p1).perm (by
        show List.Perm _ (byR rv.2 rv.1.vl :: sep (A.map svc) :: sep (B.map svc) :: rs)
        repeat (first | with_reducible exact List.Perm.refl _ | with_reducible refine pm0 ?_ | with_reducible refine pm1 ?_ | with_reducible refine pm2 ?_ | with_reducible refine pm3 ?_ | with_reducible refine pm4 ?_ | with_reducible refine pm5 ?_ | with_reducible refine pm6 ?_ | with_reducible refine pm7 ?_ | with_reducible refine pm8 ?_ | with_reducible refine pm9 ?_ | with_reducible refine pm10 ?_ | with_reducible refine pm11 ?_ | with_reducible refine pm12 ?_ | with_reducible refine pm13 ?_))
    · rw [hrc]
      have H : Hs h (bk r (rv.1.c rv.2) :: treeR t (mapV sit L) :: bk x zero4 :: bk s [vi reg, pt t 0] :: sep (L.map svc) :: rs) := H
      have H := H.perm (rs' := sep (L.map svc) :: bk r (rv.1.c rv.2) :: treeR t (mapV sit L) :: bk x zero4 :: bk s [vi reg, pt t 0] :: rs) (by repeat (first | with_reducible exact List.Perm.refl _ | with_reducible refine pm0 ?_ | with_reducible refine pm1 ?_ | with_reducible refine pm2 ?_ | with_reducible refine pm3 ?_ | with_reducible refine pm4 ?_ | with_reducible refine pm5 ?_ | with_reducible refine pm6 ?_ | with_reducible refine pm7 ?_ | with_reducible refine pm8 ?_ | with_reducible refine pm9 ?_ | with_reducible refine pm10 ?_ | with_reducible refine pm11 ?_ | with_reducible refine pm12 ?_ | with_reducible refine pm13 ?_))
      have e3 : ∀ h rs, Hs h (sep (L.map svc) :: rs) ↔ Hs h (byR rv.2 rv.1.vl :: sep (A.map svc) :: sep (B.map svc) :: rs) := by
        intro h rs
        rw [eL]
        exact sep_mid
      have H := Hs.st.2 (((e3 _ _).1 H).perm (rs' := sep (A.map svc) :: sep (B.map svc) :: byR rv.2 rv.1.vl :: bk r (rv.1.c rv.2) :: treeR t (mapV sit L) :: bk x zero4 :: bk s [vi reg, pt t 0] :: rs) (by repeat (first | with_reducible exact List.Perm.refl _ | with_reducible refine pm0 ?_ | with_reducible refine pm1 ?_ | with_reducible refine pm2 ?_ | with_reducible refine pm3 ?_ | with_reducible refine pm4 ?_ | with_reducible refine pm5 ?_ | with_reducible refine pm6 ?_ | with_reducible refine pm7 ?_ | with_reducible refine pm8 ?_ | with_reducible refine pm9 ?_ | with_reducible refine pm10 ?_ | with_reducible refine pm11 ?_ | with_reducible refine pm12 ?_ | with_reducible refine pm13 ?_)))
      exact H.perm (by repeat (first | with_reducible exact List.Perm.refl _ | with_reducible refine pm0 ?_ | with_reducible refine pm1 ?_ | with_reducible refine pm2 ?_ | with_reducible refine pm3 ?_ | with_reducible refine pm4 ?_ | with_reducible refine pm5 ?_ | with_reducible refine pm6 ?_ | with_reducible refine pm7 ?_ | with_reducible refine pm8 ?_ | with_reducible refine pm9 ?_ | with_reducible refine pm10 ?_ | with_reducible refine pm11 ?_ | with_reducible refine pm12 ?_ | with_reducible refine pm13 ?_))
/-! set, Move -/
theorem glo_app {α : Type} (k : ByteArray) (a b : List (ByteArray × α)) : glo k (a ++ b) = glo k a ++ glo k b := List.filter_append ..
/-- of the pieces of a list some stay. -/
theorem sep_filter {α : Type} {h : Hp} {f : α → SL} (p : α → Bool) : ∀ {l : List α} {rs : List SL}, Hs h (sep (l.map f) :: rs) → Hs h (sep ((l.filter p).map f) :: rs)
  | [], rs, H => H
  | x :: l, rs, H => by
    have H : Hs h (f x :: sep (l.map f) :: rs) := Hs.st.1 H
    have H2 := (sep_filter p H.p1).p1
    cases hp : p x with
    | true => rw [List.filter_cons_of_pos hp]; exact Hs.st.2 H2
    | false => rw [List.filter_cons_of_neg (by simp [hp])]; exact H2.drop
theorem sep_two {α : Type} {h : Hp} {f : α → SL} (p q : α → Bool) : ∀ {l : List α} {rs : List SL}, (∀ x ∈ l, ¬ (p x = true ∧ q x = true)) → Hs h (sep (l.map f) :: rs) → Hs h (sep ((l.filter p).map f) :: sep ((l.filter q).map f) :: rs)
  | [], rs, _, H => Hs.em.2 H
  | x :: l, rs, hd, H => by
    have H : Hs h (f x :: sep (l.map f) :: rs) := Hs.st.1 H
    have H2 := sep_two p q (fun y hy => hd y (List.mem_cons_of_mem _ hy)) H.p1
    have hx := hd x (List.mem_cons_self ..)
    cases hp : p x with
    | true =>
      have hq : q x = false := by
        cases hq : q x with
        | false => rfl
        | true => exact absurd ⟨hp, hq⟩ hx
      rw [List.filter_cons_of_pos hp, List.filter_cons_of_neg (by simp [hq])]
      exact Hs.st.2 (H2.perm (by repeat (first | with_reducible exact List.Perm.refl _ | with_reducible refine pm0 ?_ | with_reducible refine pm1 ?_ | with_reducible refine pm2 ?_ | with_reducible refine pm3 ?_ | with_reducible refine pm4 ?_ | with_reducible refine pm5 ?_ | with_reducible refine pm6 ?_ | with_reducible refine pm7 ?_ | with_reducible refine pm8 ?_ | with_reducible refine pm9 ?_ | with_reducible refine pm10 ?_ | with_reducible refine pm11 ?_ | with_reducible refine pm12 ?_ | with_reducible refine pm13 ?_)))
    | false =>
      rw [List.filter_cons_of_neg (by simp [hp])]
      cases hq : q x with
      | true =>
        rw [List.filter_cons_of_pos hq]
        have H3 : Hs h (sep (f x :: (l.filter q).map f) :: sep ((l.filter p).map f) :: rs) := Hs.st.2 (H2.perm (by repeat (first | with_reducible exact List.Perm.refl _ | with_reducible refine pm0 ?_ | with_reducible refine pm1 ?_ | with_reducible refine pm2 ?_ | with_reducible refine pm3 ?_ | with_reducible refine pm4 ?_ | with_reducible refine pm5 ?_ | with_reducible refine pm6 ?_ | with_reducible refine pm7 ?_ | with_reducible refine pm8 ?_ | with_reducible refine pm9 ?_ | with_reducible refine pm10 ?_ | with_reducible refine pm11 ?_ | with_reducible refine pm12 ?_ | with_reducible refine pm13 ?_)))
        exact H3.p1
      | false =>
        rw [List.filter_cons_of_neg (by simp [hq])]
        exact (H2.perm (rs' := f x :: sep ((l.filter p).map f) :: sep ((l.filter q).map f) :: rs) (by repeat (first | with_reducible exact List.Perm.refl _ | with_reducible refine pm0 ?_ | with_reducible refine pm1 ?_ | with_reducible refine pm2 ?_ | with_reducible refine pm3 ?_ | with_reducible refine pm4 ?_ | with_reducible refine pm5 ?_ | with_reducible refine pm6 ?_ | with_reducible refine pm7 ?_ | with_reducible refine pm8 ?_ | with_reducible refine pm9 ?_ | with_reducible refine pm10 ?_ | with_reducible refine pm11 ?_ | with_reducible refine pm12 ?_ | with_reducible refine pm13 ?_))).drop
theorem s221 {h : Hp} {rs : List SL} {s : Nat} {reg : Int} {rows : List (ByteArray × Rc)} {k : ByteArray} {r : Rc} {sl : Value} (hk : r.has = true ∨ r.cnt ≠ 0) (hl : r.vl.length ≤ 1000000000) (H : Hs h (byR sl r.vl :: storeR s reg rows :: rs)) :
    FnW Tryz.prog 221 #[pt s 0, .string k, .agg (r.c sl).toArray] (fun v h' => Hs h' (storeR s reg (gin k r rows) :: rs)) h := by
  have o1 := Hs.vecC H
  obtain ⟨t, L, e, hlen, H⟩ := Hs.store.1 H.p1
  refine c221 ?_
  unfold C221
  refine bxS H fun x h H => ?_
  have H : Hs h (bk x (r.c sl) :: bk s [vi reg, pt t 0] :: treeR t (mapV sit L) :: sep (L.map svc) :: byR sl r.vl :: rs) := H
  have hput : ∀ h', Hs h' (treeR t (ins k (r.c sl) (mapV sit L)) :: bk s [vi reg, pt t 0] :: sep (L.map svc) :: byR sl r.vl :: rs) → Hs h' (storeR s reg (gin k r rows) :: rs) := by
    intro h' H'
    refine Hs.store.2 ⟨t, gin k (r, sl) L, by rw [← e, ← gin_mapV], ?_, ?_⟩
    · intro y hy
      unfold gin glo ghi at hy
      rcases List.mem_append.1 hy with hy | hy
      · exact hlen y (List.mem_filter.1 hy).1
      · rcases List.mem_cons.1 hy with rfl | hy
        · exact hl
        · exact hlen y (List.mem_filter.1 hy).1
    · have e2 : ins k (r.c sl) (mapV sit L) = mapV sit (gin k (r, sl) L) := by rw [ins_gin]; exact gin_mapV k sit (r, sl) L
      rw [e2] at H'
      have H' := sep_two (fun x : SRow => bl x.1 k) (fun x : SRow => bl k x.1) (fun x _ hx => by rw [bl_asym hx.1] at hx; exact absurd hx.2 (by simp)) (H'.perm (rs' := sep (L.map svc) :: byR sl r.vl :: treeR t (mapV sit (gin k (r, sl) L)) :: bk s [vi reg, pt t 0] :: rs) (by repeat (first | with_reducible exact List.Perm.refl _ | with_reducible refine pm0 ?_ | with_reducible refine pm1 ?_ | with_reducible refine pm2 ?_ | with_reducible refine pm3 ?_ | with_reducible refine pm4 ?_ | with_reducible refine pm5 ?_ | with_reducible refine pm6 ?_ | with_reducible refine pm7 ?_ | with_reducible refine pm8 ?_ | with_reducible refine pm9 ?_ | with_reducible refine pm10 ?_ | with_reducible refine pm11 ?_ | with_reducible refine pm12 ?_ | with_reducible refine pm13 ?_)))
      have H' : Hs h' (sep ((glo k L).map svc) :: sep ((ghi k L).map svc) :: svc (k, (r, sl)) :: treeR t (mapV sit (gin k (r, sl) L)) :: bk s [vi reg, pt t 0] :: rs) := H'
      have H' := sep_mid.2 (H'.perm (rs' := svc (k, (r, sl)) :: sep ((glo k L).map svc) :: sep ((ghi k L).map svc) :: treeR t (mapV sit (gin k (r, sl) L)) :: bk s [vi reg, pt t 0] :: rs) (by repeat (first | with_reducible exact List.Perm.refl _ | with_reducible refine pm0 ?_ | with_reducible refine pm1 ?_ | with_reducible refine pm2 ?_ | with_reducible refine pm3 ?_ | with_reducible refine pm4 ?_ | with_reducible refine pm5 ?_ | with_reducible refine pm6 ?_ | with_reducible refine pm7 ?_ | with_reducible refine pm8 ?_ | with_reducible refine pm9 ?_ | with_reducible refine pm10 ?_ | with_reducible refine pm11 ?_ | with_reducible refine pm12 ?_ | with_reducible refine pm13 ?_)))
      have H' : Hs h' (sep ((gin k (r, sl) L).map svc) :: treeR t (mapV sit (gin k (r, sl) L)) :: bk s [vi reg, pt t 0] :: rs) := H'
      exact H'.perm (by repeat (first | with_reducible exact List.Perm.refl _ | with_reducible refine pm0 ?_ | with_reducible refine pm1 ?_ | with_reducible refine pm2 ?_ | with_reducible refine pm3 ?_ | with_reducible refine pm4 ?_ | with_reducible refine pm5 ?_ | with_reducible refine pm6 ?_ | with_reducible refine pm7 ?_ | with_reducible refine pm8 ?_ | with_reducible refine pm9 ?_ | with_reducible refine pm10 ?_ | with_reducible refine pm11 ?_ | with_reducible refine pm12 ?_ | with_reducible refine pm13 ?_))
  have hc := rc_ok (r := r) o1 k
  have put : (nc (pt s 0) fun v13 => fa v13 1 fun v14 => ld1 v14 fun v15 => ldn 4 (pt x 0) fun v16 => cl Tryz.prog 321 [v15, .string k, v16] fun v17 => fun h' => Hs h' (storeR s reg (gin k r rows) :: rs)) h := by
    refine nc_s (fa_s (ld1S H.p1 (pt t 0) rfl (ldaS H rfl ?_)))
    refine cl_s b321 (s321 (rs := bk x (r.c sl) :: bk s [vi reg, pt t 0] :: sep (L.map svc) :: byR sl r.vl :: rs) (H.perm (by repeat (first | with_reducible exact List.Perm.refl _ | with_reducible refine pm0 ?_ | with_reducible refine pm1 ?_ | with_reducible refine pm2 ?_ | with_reducible refine pm3 ?_ | with_reducible refine pm4 ?_ | with_reducible refine pm5 ?_ | with_reducible refine pm6 ?_ | with_reducible refine pm7 ?_ | with_reducible refine pm8 ?_ | with_reducible refine pm9 ?_ | with_reducible refine pm10 ?_ | with_reducible refine pm11 ?_ | with_reducible refine pm12 ?_ | with_reducible refine pm13 ?_))) hc) ?_
    rintro _ h ⟨_, rfl, H⟩
    exact hput h (H.p1.drop)
  refine fa_s (ld1S H (.bool r.has) rfl (un_s (.bool !r.has) rfl ?_))
  cases hh : r.has with
  | true => exact gd_f (by simp) (gd_f (by simp) (gd_f (by simp) (pk_s (cn_f put))))
  | false =>
    have hcn : r.cnt ≠ 0 := by
      rcases hk with h1 | h1
      · rw [hh] at h1; cases h1
      · exact h1
    refine gd_t (fa_s (gd_t (ld1S H (vu r.cnt) rfl (gd_t (bn_s (.bool false) (by simp [binV, intV]; omega) (pk_s (cn_f put)))))))
def MaxU : Nat := 18446744073709551615
/-- what a move leaves, and the number that it gives. -/
def mvRows (k : ByteArray) (home reg : Int) (rows : List (ByteArray × Rc)) : List (ByteArray × Rc) :=
  if home < 0 ∨ reg ≤ home then rows else if (getRc k reg rows).cnt = 18446744073709551615 then rows else gin k { getRc k reg rows with home := home, cnt := (getRc k reg rows).cnt + 1 } rows
def mvNum (k : ByteArray) (home reg : Int) (rows : List (ByteArray × Rc)) : Int :=
  if home < 0 ∨ reg ≤ home then 1 else if (getRc k reg rows).cnt = 18446744073709551615 then 111 else 0
theorem s104 {h : Hp} {rs : List SL} {s : Nat} {reg home : Int} {rows : List (ByteArray × Rc)} {k : ByteArray} (hr : reg ≤ 1000) (hk : k.size ≤ 4611686018427387904) (hc : ∀ x ∈ rows, x.2.cnt ≤ 18446744073709551615) (H : Hs h (storeR s reg rows :: rs)) :
    FnW Tryz.prog 104 #[pt s 0, .string k, vi home] (fun v h' => v = vi (mvNum k home reg rows) ∧ Hs h' (storeR s reg (mvRows k home reg rows) :: rs)) h := by
  refine c104 ?_
  unfold C104
  refine cl_s b135 (s135 hr hk H) ?_
  rintro _ h ⟨sl, rfl, H⟩
  have o1 := Hs.vecC H
  have hcells := rc_ok (r := getRc k reg rows) o1 k
  have hlen : (getRc k reg rows).vl.length ≤ 1000000000 := by
    obtain ⟨t, L, e, hlen, _⟩ := Hs.store.1 H.p1
    unfold getRc
    cases hg : gval k rows with
    | none => simp
    | some r =>
      obtain ⟨a, b, e2, _⟩ := gval_mem hg
      exact hlen (k, r) (by rw [e2]; simp)
  have hcnt : (getRc k reg rows).cnt ≤ 18446744073709551615 := by
    unfold getRc
    cases hg : gval k rows with
    | none => simp
    | some r =>
      obtain ⟨a, b, e2, _⟩ := gval_mem hg
      exact hc (k, r) (by rw [e2]; simp)
  refine alS H fun x h H => staS H rfl rfl hcells.2 fun h H => ?_
  obtain ⟨t, L, e, hl, Hst⟩ := Hs.store.1 H.p2
  have hreg : ∀ {K : Value → A}, K (vi reg) h → ld1 (pt s 0) K h := fun k => ld1S Hst (vi reg) rfl k
  have stop1 : (home < 0 ∨ reg ≤ home) → (vi 1 = vi (mvNum k home reg rows) ∧ Hs h (storeR s reg (mvRows k home reg rows) :: rs)) := by
    intro hh
    unfold mvNum mvRows
    rw [if_pos hh, if_pos hh]
    exact ⟨rfl, H.drop.drop⟩
  have go : ¬ (home < 0 ∨ reg ≤ home) → (fa (pt x 0) 3 fun v11 => ld1 v11 fun v12 => bn .eql v12 (Value.int IntKind.u64 18446744073709551615) fun v13 => cn v13
      (fun h' => vi 111 = vi (mvNum k home reg rows) ∧ Hs h' (storeR s reg (mvRows k home reg rows) :: rs))
      (fa (pt x 0) 2 fun v14 => st 1 v14 (vi home) <| fa (pt x 0) 3 fun v15 => ld1 v15 fun v16 => bn .add v16 (Value.int IntKind.u64 1) fun v17 => fa (pt x 0) 3 fun v18 => st 1 v18 v17 <| ldn 4 (pt x 0) fun v19 =>
        cl Tryz.prog 221 [pt s 0, .string k, v19] fun v20 h' => vi 0 = vi (mvNum k home reg rows) ∧ Hs h' (storeR s reg (mvRows k home reg rows) :: rs))) h := by
    intro hh
    refine fa_s (ld1S H (vu (getRc k reg rows).cnt) rfl (cn_eql (fun hm => ?_) fun hm => ?_))
    · have hm : (getRc k reg rows).cnt = 18446744073709551615 := by omega
      unfold mvNum mvRows
      rw [if_neg hh, if_pos hm, if_neg hh, if_pos hm]
      exact ⟨rfl, H.drop.drop⟩
    · have hm : ¬ (getRc k reg rows).cnt = 18446744073709551615 := by omega
      refine fa_s (st1S H rfl (by simp [Rc.c]) fun h H => fa_s (ld1S H (vu (getRc k reg rows).cnt) rfl (bn_s (vu ((getRc k reg rows).cnt + 1 : Nat)) ?_ (fa_s (st1S H rfl (by simp [Rc.c]) fun h H => ?_)))))
      · simp only [binV, intV, if_true]; rw [wu64_id (by omega) (by omega)]; rfl
      · refine ldaS H rfl (cl_s b221 (s221 (r := { getRc k reg rows with home := home, cnt := (getRc k reg rows).cnt + 1 }) (sl := sl) (.inr (by simp)) hlen H.drop) fun v h' H' => ?_)
        unfold mvNum mvRows
        rw [if_neg hh, if_neg hm, if_neg hh, if_neg hm]
        exact ⟨rfl, H'⟩
  refine bn_s (.bool (decide (home < 0))) (by simp [binV, intV]) ?_
  by_cases hh : home < 0
  · rw [show decide (home < 0) = true from by simpa using hh]
    refine gd_f (by simp) (gd_f (by simp) (gd_f (by simp) (gd_f (by simp) (gd_f (by simp) (gd_f (by simp) (pk_s (cn_t ?_)))))))
    exact stop1 (.inl hh)
  · rw [show decide (home < 0) = false from by simpa using hh]
    refine gd_t (gd_t (gd_t (nc_s (gd_t (fa_s (gd_t (hreg (gd_t (bn_s (.bool (decide (home ≥ reg))) (by simp [binV, intV]) (pk_s (cn_s (fun h1 => ?_) fun h1 => ?_)))))))))))
    · exact stop1 (.inr (by simpa using h1))
    · exact go (fun h2 => by rcases h2 with h2 | h2; exact hh h2; simp at h1; omega)
end Go.Proofs.YtalknmdbamlabaaGreat.Q
