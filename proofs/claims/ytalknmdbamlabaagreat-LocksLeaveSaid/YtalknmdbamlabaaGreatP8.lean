/- The references' store and locks. Conditions: none. -/
import Derived.Test.YtalknmdbamlabaaGreatP7
namespace Go.Proofs.YtalknmdbamlabaaGreat.Q
open Go
open SL (bk bkn mp old exS puS emS stS)
/-- a record with its slice as it stands. -/
structure Rw where
  has : Bool
  sl : Value
  home : Int
  cnt : Nat
def Rw.c (r : Rw) : List Value := [.bool r.has, r.sl, vi r.home, vu r.cnt]
theorem Rw.ok {r : Rw} (h : oneC r.sl = true) (k : ByteArray) : It.ok (k, r.c) := ⟨rfl, by simp [Rw.c, oneC] at *; exact h⟩
abbrev Rws := List (ByteArray × Rw)
/-- rows as slices. -/
abbrev rws (s : Value) (l : Rws) : SL := vec 5 s ((mapV Rw.c l).map It.c)
def dflR (k : ByteArray) (reg : Int) : Int := if reg < 1 then 0 else ((k.data.toList.foldl (fun s b => s + b.toNat) 0 : Nat) : Int) % reg
theorem suml : ∀ (l : List UInt8) (s : Nat), l.foldl (fun s b => s + b.toNat) s ≤ s + 255 * l.length
  | [], s => by simp
  | b :: l, s => by
    have := suml l (s + b.toNat)
    have hb := b.toNat_lt
    simp only [List.foldl_cons, List.length_cons]
    omega
theorem s182 {h : Hp} {k : ByteArray} {reg : Int} (hr : reg ≤ 1000) (hk : k.size ≤ 1000000000) : FnW Tryz.prog 182 #[.string k, vi reg] (fun v h' => v = vi (dflR k reg) ∧ h' = h) h := by
  refine c182 ?_
  unfold C182
  refine cn_lss (fun hlt => ?_) fun hge => ?_
  · exact ⟨by rw [dflR, if_pos hlt], rfl⟩
  · have hks : k.data.toList.length = k.size := by simp
    refine lp2 k.size (fun i v h' => v = vu ((k.data.toList.take i).foldl (fun s b => s + b.toNat) 0 : Nat) ∧ h' = h) ⟨rfl, rfl⟩ ?_
    rintro i _ h' σ0 nx hi ⟨rfl, rfl⟩ hnx
    refine lnT_s (cn_lss (fun hlt => ?_) fun hge2 => ?_)
    · have hj : i < k.data.toList.length := by omega
      have hb := k.data.toList[i].toNat_lt
      have hs := suml (k.data.toList.take i) 0
      rw [List.length_take] at hs
      refine idxT und9 i rfl hj (cvi_s ?_)
      rw [wu64_id (by omega) (by omega)]
      refine bn_s (vu ((k.data.toList.take (i + 1)).foldl (fun s b => s + b.toNat) 0 : Nat)) ?_ (nx_add i (by omega) (hnx _ _ (by omega) ⟨rfl, rfl⟩))
      simp only [binV, intV, if_true]
      rw [wu64_id (by omega) (by omega), List.take_succ_eq_append_getElem hj, List.foldl_append]
      rfl
    · have : i = k.size := by omega
      subst this
      rw [List.take_of_length_le (by omega)]
      have hs := suml k.data.toList 0
      refine cvi_s ?_
      rw [wu64_id (by omega) (by omega)]
      refine bn_s (vu (dflR k reg)) ?_ (cvi_s ⟨?_, rfl⟩)
      · simp only [binV, intV, if_true]
        rw [if_neg (by omega), Int.tmod_eq_emod_of_nonneg (by omega), dflR, if_neg (by omega)]
      · have h0 : 0 ≤ dflR k reg := by rw [dflR, if_neg (by omega)]; exact Int.emod_nonneg _ (by omega)
        have h1 : dflR k reg < reg := by rw [dflR, if_neg (by omega)]; exact Int.emod_lt_of_pos _ (by omega)
        rw [w64_id (by omega) (by omega)]
theorem dfl_eq (k : ByteArray) (reg : Int) : dflR k reg = dflt k reg := by
  unfold dflR dflt
  split
  · rfl
  · have : ∀ (l : List UInt8) (s : Nat), ((l.foldl (fun s b => s + b.toNat) s : Nat) : Int) % reg = l.foldl (fun s b => (s + b.toNat) % reg) ((s : Int) % reg) := by
      intro l
      induction l with
      | nil => intro s; rfl
      | cons b l ih =>
        intro s
        simp only [List.foldl_cons]
        rw [ih]
        congr 1
        push_cast
        rw [Int.emod_add_emod]
    have := this k.data.toList 0
    simpa using this
theorem s83 {h : Hp} {rs : List SL} {m : Nat} {reg : Int} {sr : Value} {rows : Rws} {k : ByteArray} (hr : reg ≤ 1000) (hk : k.size ≤ 1000000000) (hl : rows.length ≤ 1000000000) (hone : ∀ x ∈ rows, oneC x.2.sl = true) (H : Hs h (bk m [vi reg, sr] :: rws sr rows :: rs)) :
    FnW Tryz.prog 83 #[pt m 0, .string k] (fun v h' => v = .agg ((gval k rows).getD ⟨false, nilS, dflt k reg, 0⟩).c.toArray ∧ Hs h' (bk m [vi reg, sr] :: rws sr rows :: rs)) h := by
  refine c83 ?_
  unfold C83
  refine alS H fun x h H => ?_
  refine lp1 rows.length (fun i h => Hs h (bk x zero4 :: bk m [vi reg, sr] :: rws sr rows :: rs) ∧ ∀ y ∈ rows.take i, y.1 ≠ k) ⟨H, by simp⟩ ?_
  rintro i h σ0 nx hi ⟨H, hno⟩ hnx
  have hll : ((mapV Rw.c rows).map It.c).length = rows.length := by simp [mapV]
  refine nc_s (fa_s (ld1S H.p1 sr rfl (lnV H.p2 ?_)))
  rw [hll]
  refine cn_lss (fun hlt => ?_) fun hge => ?_
  · have hlt : i < rows.length := by omega
    have hm : i < ((mapV Rw.c rows).map It.c).length := by rw [hll]; exact hlt
    have hel : ((mapV Rw.c rows).map It.c)[i] = .string rows[i].1 :: rows[i].2.c := by simp [mapV, It.c]
    refine nc_s (fa_s (ld1S H.p1 sr rfl (ixV H.p2 i rfl hm fun b hrd => fa_s ?_)))
    rw [hel] at hrd
    refine ld1R (hrd.nth 0 1 [.string rows[i].1] rfl (by simp)) (bn_s (.bool (decide (rows[i].1 = k))) (by simp [binV, strV, toList_beq]) (cn_s (fun he => ?_) fun he => ?_))
    · have he : rows[i].1 = k := by simpa using he
      have hok := Rw.ok (hone rows[i] (List.getElem_mem hlt)) k
      refine nc_s (fa_s (ld1S H.p1 sr rfl (ixV H.p2 i rfl hm fun b hrd => fa_s ?_)))
      rw [hel] at hrd
      refine ldnR (hrd.nth 1 4 rows[i].2.c rfl (by simp [Rw.c])) rfl (staS H rfl rfl hok.2 fun h H => ldaS H rfl ⟨?_, H.drop⟩)
      have : gval k rows = some rows[i].2 := by
        have e : rows = rows.take i ++ rows[i] :: rows.drop (i + 1) := by
          have := (List.take_append_drop i rows).symm
          rwa [List.drop_eq_getElem_cons hlt] at this
        unfold gval
        have h1 : rows.find? (fun x => decide (x.1 = k)) = some rows[i] := List.find?_eq_some_iff_append.2 ⟨by simpa using he, rows.take i, rows.drop (i + 1), e, fun y hy => by simpa using hno y hy⟩
        rw [h1]; rfl
      rw [this]; rfl
    · have he : ¬ rows[i].1 = k := by simpa using he
      refine nx_add i (by omega) (hnx h hlt ⟨H, fun y hy => ?_⟩)
      rw [List.take_succ_eq_append_getElem hlt] at hy
      rcases List.mem_append.1 hy with hy | hy
      · exact hno y hy
      · simp only [List.mem_singleton] at hy; subst hy; exact he
  · have : i = rows.length := by omega
    subst this
    rw [List.take_length] at hno
    have hg : gval k rows = none := by
      unfold gval; rw [List.find?_eq_none.2 (by simpa using hno)]; rfl
    rw [hg]
    refine nc_s (fa_s (ld1S H.p1 (vi reg) rfl (cl_s b182 (s182 hr hk) ?_)))
    rintro _ h' ⟨rfl, rfl⟩
    rw [dfl_eq]
    refine bd_s (Rw.c ⟨false, nilS, dflt k reg, 0⟩) rfl (staS H rfl rfl (by simp [Rw.c, oneC]) fun h H => ldaS H rfl ⟨rfl, H.drop⟩)
def T137 (s_a0 key_a1 r_1 v8 v7 : Value) (R : Value → A) : A :=
 lp 3 (fun _ nx9 out_10 keep_11 i_12 =>
 nc s_a0 fun v13 =>
  fa v13 1 fun v14 =>
  ld1 v14 fun v15 =>
  lnS v15 fun v16 =>
  bn .lss i_12 v16 fun v17 =>
  cn v17
  (jn 2 (fun k18 =>
  jn 2 (fun k19 =>
   gd keep_11 true (fun k => k s_a0) fun v20 =>
    gd keep_11 true (nc v20) fun v21 =>
    gd keep_11 true (fa v21 1) fun v22 =>
    gd keep_11 true (ld1 v22) fun v23 =>
    gd keep_11 true (fun k => k i_12) fun v24 =>
    gd keep_11 true (ixs 5 v23 v24) fun v25 =>
    gd keep_11 true (fa v25 0) fun v26 =>
    gd keep_11 true (ld1 v26) fun v27 =>
    gd keep_11 true (fun k => k key_a1) fun v28 =>
    gd keep_11 true (bn .gtr v27 v28) fun v29 =>
    pk keep_11 v29 (Value.bool false) fun v30 =>
    cn v30
    (ldn 4 r_1 fun v31 =>
     bd [Value.string { data := #[] }, Value.bool false, Value.slice none 0 0, Value.int IntKind.i64 0, Value.int IntKind.u64 0] [(0, 1, key_a1), (1, 4, v31)] fun v32 =>
     bsl [Value.string { data := #[] }, Value.bool false, Value.slice none 0 0, Value.int IntKind.i64 0, Value.int IntKind.u64 0] 88 1 [(0, 5, v32)] fun v33 =>
     apd [Value.string { data := #[] }, Value.bool false, Value.slice none 0 0, Value.int IntKind.i64 0, Value.int IntKind.u64 0] 64 88 out_10 v33 fun v34 =>
     k19 v34 (Value.bool false))
    (k19 out_10 keep_11))
   (fun _ out_35 keep_36 =>
   nc s_a0 fun v37 =>
    fa v37 1 fun v38 =>
    ld1 v38 fun v39 =>
    ixs 5 v39 i_12 fun v40 =>
    fa v40 0 fun v41 =>
    ld1 v41 fun v42 =>
    bn .neq v42 key_a1 fun v43 =>
    cn v43
    (nc s_a0 fun v44 =>
     fa v44 1 fun v45 =>
     ld1 v45 fun v46 =>
     ixs 5 v46 i_12 fun v47 =>
     ldn 5 v47 fun v48 =>
     bsl [Value.string { data := #[] }, Value.bool false, Value.slice none 0 0, Value.int IntKind.i64 0, Value.int IntKind.u64 0] 88 1 [(0, 5, v48)] fun v49 =>
     apd [Value.string { data := #[] }, Value.bool false, Value.slice none 0 0, Value.int IntKind.i64 0, Value.int IntKind.u64 0] 64 88 out_35 v49 fun v50 =>
     k18 v50 keep_36)
    (k18 out_35 keep_36)))
  (fun _ out_51 keep_52 =>
  bn .add i_12 (Value.int IntKind.i64 1) fun v53 =>
  nx9 out_51 keep_52 v53))
  (jn 1 (fun k54 =>
 cn keep_11
  (ldn 4 r_1 fun v55 =>
   bd [Value.string { data := #[] }, Value.bool false, Value.slice none 0 0, Value.int IntKind.i64 0, Value.int IntKind.u64 0] [(0, 1, key_a1), (1, 4, v55)] fun v56 =>
   bsl [Value.string { data := #[] }, Value.bool false, Value.slice none 0 0, Value.int IntKind.i64 0, Value.int IntKind.u64 0] 88 1 [(0, 5, v56)] fun v57 =>
   apd [Value.string { data := #[] }, Value.bool false, Value.slice none 0 0, Value.int IntKind.i64 0, Value.int IntKind.u64 0] 64 88 out_10 v57 fun v58 =>
   k54 v58)
  (k54 out_10))
 (fun _ out_59 =>
 nc s_a0 fun v60 =>
  fa v60 1 fun v61 =>
  st 1 v61 out_59 <|
  R (Value.tuple #[])))) [v8, v7, Value.int IntKind.i64 0]
theorem lp3 {h : Hp} {body : Rg → Cur 3 → Cur 3} {u0 v0 : Value} (n : Nat) (I : Nat → Value → Value → A) (h0 : I 0 u0 v0 h)
    (step : ∀ i u v h σ0 (nx : Cur 3), i ≤ n → I i u v h → (∀ u' v' h', i < n → I (i + 1) u' v' h' → nx u' v' (vi (i + 1 : Nat)) h') → body σ0 nx u v (vi i) h) : lp 3 body [u0, v0, vi 0] h := by
  refine ⟨fun m u v w h => ∃ i : Nat, w = vi i ∧ m = n - i ∧ i ≤ n ∧ I i u v h, ⟨n, 0, rfl, rfl, Nat.zero_le _, h0⟩, ?_⟩
  rintro m σ0 u v _ h ⟨i, rfl, rfl, hi, H⟩
  exact step i u v h σ0 _ hi H fun u' v' h' hlt H' => ⟨n - (i + 1), by omega, i + 1, rfl, rfl, by omega, H'⟩
/-- what the reference's Set does. -/
def setL (k : ByteArray) (r : Rw) : Bool → Rws → Rws
  | true, [] => [(k, r)]
  | false, [] => []
  | keep, y :: ys => (if keep && bl k y.1 then [(k, r)] else []) ++ (if y.1 = k then [] else [y]) ++ setL k r (keep && !(bl k y.1)) ys
theorem zero5_1 : ∀ u ∈ ([.string ⟨#[]⟩, .bool false, nilS, vi 0, vu 0] : List Value), oneC u = true := by simp [oneC]
theorem gtr_bl (a b : ByteArray) : (!(Op.bytesLess a.toList b.toList || a.toList == b.toList)) = bl b a := by
  rw [toList_beq]
  rcases bl_tri a b with h | h | h
  · have := bl_asym h; unfold bl at *; rw [h, this]; rfl
  · subst h; rw [bl_irr]; simp
  · have h2 := bl_asym h
    unfold bl at *
    have : ¬ a = b := fun e => by subst e; rw [bL_irr] at h; cases h
    rw [h2, h]; simp [this]
theorem t137 {h : Hp} {rs : List SL} {m x o : Nat} {reg : Int} {sr : Value} {rows : Rws} {k : ByteArray} {r : Rw} {keep : Bool} {R : Value → A} (hl : rows.length ≤ 1000000) (hone : ∀ x ∈ rows, oneC x.2.sl = true) (hr1 : oneC r.sl = true)
    (H : Hs h (rws (sl o 0 0 0) [] :: bk x r.c :: bk m [vi reg, sr] :: rws sr rows :: rs)) (k0 : ∀ h' s', Hs h' (bk m [vi reg, s'] :: rws s' (setL k r keep rows) :: rs) → R (.tuple #[]) h') : T137 (pt m 0) (.string k) (pt x 0) (sl o 0 0 0) (.bool keep) R h := by
  unfold T137
  have hll : ((mapV Rw.c rows).map It.c).length = rows.length := by simp [mapV]
  have hok := Rw.ok hr1 k
  refine lp3 rows.length (fun i u v h => ∃ out keep', v = .bool keep' ∧ out.length ≤ 2 * i ∧ out ++ setL k r keep' (rows.drop i) = setL k r keep rows ∧ Hs h (rws u out :: bk x r.c :: bk m [vi reg, sr] :: rws sr rows :: rs)) ⟨[], keep, rfl, by simp, by simp, H⟩ ?_
  rintro i u v h σ0 nx hi ⟨out, keep', rfl, hol, hout, H⟩ hnx
  have fin : ∀ u' h, Hs h (rws u' (setL k r keep rows) :: bk x r.c :: bk m [vi reg, sr] :: rws sr rows :: rs) → (nc (pt m 0) fun v60 => fa v60 1 fun v61 => st 1 v61 u' <| R (Value.tuple #[])) h := by
    intro u' h H
    refine nc_s (fa_s (st1S H.p2 H.vecC (by simp) fun h H => k0 h u' ?_))
    exact (H.perm (rs' := bk x r.c :: rws sr rows :: bk m [vi reg, u'] :: rws u' (setL k r keep rows) :: rs) (by
      show List.Perm (bk m [vi reg, u'] :: _) _
      repeat (first | with_reducible exact List.Perm.refl _ | with_reducible refine pm0 ?_ | with_reducible refine pm1 ?_ | with_reducible refine pm2 ?_ | with_reducible refine pm3 ?_ | with_reducible refine pm4 ?_ | with_reducible refine pm5 ?_ | with_reducible refine pm6 ?_ | with_reducible refine pm7 ?_ | with_reducible refine pm8 ?_ | with_reducible refine pm9 ?_ | with_reducible refine pm10 ?_ | with_reducible refine pm11 ?_ | with_reducible refine pm12 ?_ | with_reducible refine pm13 ?_))).drop.drop
  refine nc_s (fa_s (ld1S H.p2 sr rfl (lnV H.p3 ?_)))
  rw [hll]
  refine cn_lss (fun hlt => ?_) fun hge => ?_
  · have hlt : i < rows.length := by omega
    have hm : i < ((mapV Rw.c rows).map It.c).length := by rw [hll]; exact hlt
    have hel : ((mapV Rw.c rows).map It.c)[i] = .string rows[i].1 :: rows[i].2.c := by simp [mapV, It.c]
    rw [List.drop_eq_getElem_cons hlt, setL] at hout
    intro k18 hk18
    have next : ∀ u' b h out', out'.length ≤ 2 * (i + 1) → out' ++ setL k r b (rows.drop (i + 1)) = setL k r keep rows → Hs h (rws u' out' :: bk x r.c :: bk m [vi reg, sr] :: rws sr rows :: rs) → k18 u' (.bool b) h :=
      fun u' b h out' h1 h2 H => hk18 _ _ h fun _ => nx_add i (by omega) (hnx _ _ h hlt ⟨out', b, rfl, h1, h2, H⟩)
    intro k19 hk19
    have next2 : ∀ u' b h out', out'.length ≤ 2 * i + 1 → out' ++ (if rows[i].1 = k then [] else [rows[i]]) ++ setL k r b (rows.drop (i + 1)) = setL k r keep rows → Hs h (rws u' out' :: bk x r.c :: bk m [vi reg, sr] :: rws sr rows :: rs) → k19 u' (.bool b) h := by
      intro u' b h out' h1 h2 H
      refine hk19 _ _ h fun _ => nc_s (fa_s (ld1S H.p2 sr rfl (ixV H.p3 i rfl hm fun b' hrd => fa_s ?_)))
      rw [hel] at hrd
      refine ld1R (hrd.nth 0 1 [.string rows[i].1] rfl (by simp)) (bn_s (.bool (!decide (rows[i].1 = k))) (by simp [binV, strV, toList_beq]) (cn_s (fun he => ?_) fun he => ?_))
      · have he : ¬ rows[i].1 = k := by simpa using he
        rw [if_neg he] at h2
        have hoki := Rw.ok (hone rows[i] (List.getElem_mem hlt)) rows[i].1
        obtain ⟨h5, h51⟩ := It.ok_c hoki
        refine nc_s (fa_s (ld1S H.p2 sr rfl (ixV H.p3 i rfl hm fun b' hrd => ldnR hrd (by rw [hel]; rfl) ?_)))
        rw [hel]
        refine bslS H (It.c (rows[i].1, rows[i].2.c)) (by simp [fill2, rep, Value.cells, It.c, Rw.c]) fun y h H => ?_
        refine ap1 [.string ⟨#[]⟩, .bool false, nilS, vi 0, vu 0] H.p1 rfl zero5_1 h5 h51 (by simp [mapV]; omega) (by simp [mapV]; omega) fun u2 h H => next u2 b h (out' ++ [rows[i]]) (by simp; omega) (by simpa using h2) ?_
        unfold rws; simp only [mapV, List.map_append] at H ⊢; exact H
      · have he : rows[i].1 = k := by simpa using he
        rw [if_pos he, List.append_nil] at h2
        exact next u' b h out' (by omega) h2 H
    cases keep' with
    | false =>
      refine gd_f (by simp) (gd_f (by simp) (gd_f (by simp) (gd_f (by simp) (gd_f (by simp) (gd_f (by simp) (gd_f (by simp) (gd_f (by simp) (gd_f (by simp) (gd_f (by simp) (pk_s (cn_f ?_)))))))))))
      exact next2 u false h out (by omega) (by simpa using hout) H
    | true =>
      refine gd_t (gd_t (nc_s (gd_t (fa_s (gd_t (ld1S H.p2 sr rfl (gd_t (gd_t (ixV H.p3 i rfl hm fun b' hrd => gd_t (fa_s (gd_t ?_)))))))))))
      rw [hel] at hrd
      refine ld1R (hrd.nth 0 1 [.string rows[i].1] rfl (by simp)) (gd_t (gd_t (bn_s (.bool (bl k rows[i].1)) (by simp only [binV, strV]; rw [gtr_bl]) (pk_s (cn_s (fun he => ?_) fun he => ?_)))))
      · have he : bl k rows[i].1 = true := by simpa using he
        obtain ⟨h5, h51⟩ := It.ok_c hok
        refine ldaS H.p1 rfl (bd_s (It.c (k, r.c)) (by simp [fill2, Value.cells, It.c, Rw.c]) (bslS H (It.c (k, r.c)) (by simp [fill2, rep, Value.cells, It.c, Rw.c]) fun y h H => ?_))
        refine ap1 [.string ⟨#[]⟩, .bool false, nilS, vi 0, vu 0] H.p1 rfl zero5_1 h5 h51 (by simp [mapV]; omega) (by simp [mapV]; omega) fun u2 h H => next2 u2 false h (out ++ [(k, r)]) (by simp; omega) (by simpa [he] using hout) ?_
        unfold rws; simp only [mapV, List.map_append] at H ⊢; exact H
      · have he : bl k rows[i].1 = false := by simpa using he
        exact next2 u true h out (by omega) (by simpa [he] using hout) H
  · have : i = rows.length := by omega
    subst this
    rw [List.drop_length] at hout
    intro k54 hk54
    cases keep' with
    | false =>
      rw [setL, List.append_nil] at hout
      refine cn_f (hk54 _ h fun _ => fin u h ?_)
      rw [← hout]; exact H
    | true =>
      rw [setL] at hout
      obtain ⟨h5, h51⟩ := It.ok_c hok
      refine cn_t (ldaS H.p1 rfl (bd_s (It.c (k, r.c)) (by simp [fill2, Value.cells, It.c, Rw.c]) (bslS H (It.c (k, r.c)) (by simp [fill2, rep, Value.cells, It.c, Rw.c]) fun y h H => ?_)))
      refine ap1 [.string ⟨#[]⟩, .bool false, nilS, vi 0, vu 0] H.p1 rfl zero5_1 h5 h51 (by simp [mapV]; omega) (by simp [mapV]; omega) fun u2 h H => hk54 _ h fun _ => fin u2 h ?_
      rw [← hout]
      unfold rws; simp only [mapV, List.map_append] at H ⊢; exact H
theorem setL_eq {k : ByteArray} {r : Rw} : ∀ {l : Rws}, Rise (l.map (·.1)) → setL k r true l = gin k r l ∧ setL k r false l = gdel k l
  | [], _ => ⟨rfl, rfl⟩
  | y :: ys, h => by
    have h' : (∀ z ∈ ys, bl y.1 z.1 = true) ∧ Rise (ys.map (·.1)) := by
      unfold Rise at h
      rw [List.map_cons, List.pairwise_cons] at h
      exact ⟨fun z hz => h.1 z.1 (List.mem_map_of_mem hz), h.2⟩
    obtain ⟨e1, e2⟩ := setL_eq h'.2
    have hi : bl k y.1 = true → glo k ys = [] ∧ ghi k ys = ys := by
      intro hk
      refine ⟨List.filter_eq_nil_iff.2 fun z hz => ?_, List.filter_eq_self.2 fun z hz => bl_trans hk (h'.1 z hz)⟩
      rw [bl_asym (bl_trans hk (h'.1 z hz))]; simp
    rw [setL.eq_def, setL.eq_def]
    rcases bl_tri k y.1 with hk | hk | hk
    · obtain ⟨i1, i2⟩ := hi hk
      have hne : ¬ y.1 = k := fun e => by rw [e, bl_irr] at hk; cases hk
      have hn := bl_asym hk
      simp only [hk, e2, gin, gdel, glo, ghi, List.filter_cons, hn, hne, if_true, if_false, Bool.and_true, Bool.not_true, Bool.false_and, Bool.false_eq_true]
      unfold glo at i1; unfold ghi at i2
      simp [i1, i2]
      rw [e2]; simp [gdel, glo, ghi, i1, i2]
    · subst hk
      have g1 : glo y.1 ys = [] := List.filter_eq_nil_iff.2 fun z hz => by rw [bl_asym (h'.1 z hz)]; simp
      have g2 : ghi y.1 ys = ys := List.filter_eq_self.2 fun z hz => h'.1 z hz
      simp only [bl_irr, e1, e2, gin, gdel, glo, ghi, List.filter_cons, if_true, if_false, Bool.and_false, Bool.not_false, Bool.and_true, Bool.false_and, Bool.false_eq_true]
      unfold glo at g1; unfold ghi at g2
      simp [g1, g2]
      try rw [e1]
      try rw [e2]
      try simp [gin, gdel, glo, ghi, g1, g2]
    · have hn := bl_asym hk
      have hne : ¬ y.1 = k := fun e => by rw [e, bl_irr] at hk; cases hk
      simp only [hk, hn, e1, e2, gin, gdel, glo, ghi, List.filter_cons, hne, if_true, if_false, Bool.and_false, Bool.not_false, Bool.and_true, Bool.false_and, Bool.false_eq_true]
      simp
      try rw [e1]
      try rw [e2]
      try exact ⟨rfl, rfl⟩
def setRw (k : ByteArray) (r : Rw) (l : Rws) : Rws := if r.has = true ∨ r.cnt ≠ 0 then gin k r l else gdel k l
theorem s137 {h : Hp} {rs : List SL} {m : Nat} {reg : Int} {sr : Value} {rows : Rws} {k : ByteArray} {r : Rw} (hl : rows.length ≤ 1000000) (hone : ∀ x ∈ rows, oneC x.2.sl = true) (hr1 : oneC r.sl = true) (hrise : Rise (rows.map (·.1)))
    (H : Hs h (bk m [vi reg, sr] :: rws sr rows :: rs)) : FnW Tryz.prog 137 #[pt m 0, .string k, .agg r.c.toArray] (fun v h' => ∃ s', Hs h' (bk m [vi reg, s'] :: rws s' (setRw k r rows) :: rs)) h := by
  refine c137 ?_
  unfold C137
  obtain ⟨e1, e2⟩ := setL_eq (k := k) (r := r) hrise
  refine bxS H fun x h H => ?_
  have H : Hs h (bk x r.c :: bk m [vi reg, sr] :: rws sr rows :: rs) := by simpa [Value.cells] using H
  have go : ∀ (o : Nat) (keep : Bool) (h : Hp), keep = decide (r.has = true ∨ r.cnt ≠ 0) → Hs h (bk o [] :: bk x r.c :: bk m [vi reg, sr] :: rws sr rows :: rs) →
      T137 (pt m 0) (.string k) (pt x 0) (sl o 0 0 0) (.bool keep) (fun v h' => ∃ s', Hs h' (bk m [vi reg, s'] :: rws s' (setRw k r rows) :: rs)) h := by
    intro o keep h hk H
    have H : Hs h (rws (sl o 0 0 0) [] :: bk x r.c :: bk m [vi reg, sr] :: rws sr rows :: rs) := Hs.vec1 (v00 5) H
    refine t137 hl hone hr1 H fun h' s' H' => ⟨s', ?_⟩
    have : setL k r keep rows = setRw k r rows := by
      unfold setRw
      by_cases hc : r.has = true ∨ r.cnt ≠ 0
      · rw [if_pos hc, hk, decide_eq_true hc, e1]
      · rw [if_neg hc, hk, decide_eq_false hc, e2]
    rw [← this]; exact H'
  refine fa_s (ld1S H (.bool r.has) rfl ?_)
  cases hh : r.has with
  | true =>
    refine gd_f (by simp) (gd_f (by simp) (gd_f (by simp) (pk_s (bslS H [] rfl fun o h H => ⟨ld1S H.p1 (.bool true) (by simp [Rw.c, hh]) rfl, gd_f (by simp) rfl, gd_f (by simp) rfl, ?_⟩))))
    exact go o true h (by simp [hh]) H
  | false =>
    refine gd_t (fa_s (gd_t (ld1S H (vu r.cnt) rfl (gd_t (bn_s (.bool (decide (r.cnt ≠ 0))) ?_ (pk_s (bslS H [] rfl fun o h H => ⟨ld1S H.p1 (.bool false) (by simp [Rw.c, hh]) rfl, gd_t (ld1S H.p1 (vu r.cnt) rfl rfl), gd_t (ld1S H.p1 (vu r.cnt) rfl rfl), ?_⟩)))))))
    · simp only [binV, intV, if_true]; congr 2; apply decide_eq_decide.2; omega
    · exact go o _ h (by simp [hh]) H
/-- what a move leaves in the reference. -/
def getRw (k : ByteArray) (reg : Int) (rows : Rws) : Rw := (gval k rows).getD ⟨false, nilS, dflt k reg, 0⟩
def mvRw (k : ByteArray) (home reg : Int) (rows : Rws) : Rws :=
  if home < 0 ∨ reg ≤ home then rows else if (getRw k reg rows).cnt = 18446744073709551615 then rows else gin k { getRw k reg rows with home := home, cnt := (getRw k reg rows).cnt + 1 } rows
def mvRwNum (k : ByteArray) (home reg : Int) (rows : Rws) : Int :=
  if home < 0 ∨ reg ≤ home then 1 else if (getRw k reg rows).cnt = 18446744073709551615 then 111 else 0
theorem getRw_one {k : ByteArray} {reg : Int} {rows : Rws} (hone : ∀ x ∈ rows, oneC x.2.sl = true) : oneC (getRw k reg rows).sl = true := by
  unfold getRw
  cases hg : gval k rows with
  | none => rfl
  | some r =>
    obtain ⟨a, b, e2, _⟩ := gval_mem hg
    exact hone (k, r) (by rw [e2]; simp)
theorem s105 {h : Hp} {rs : List SL} {m : Nat} {reg home : Int} {sr : Value} {rows : Rws} {k : ByteArray} (hr : reg ≤ 1000) (hk : k.size ≤ 1000000000) (hl : rows.length ≤ 1000000) (hone : ∀ x ∈ rows, oneC x.2.sl = true) (hrise : Rise (rows.map (·.1)))
    (hc : ∀ x ∈ rows, x.2.cnt ≤ 18446744073709551615) (H : Hs h (bk m [vi reg, sr] :: rws sr rows :: rs)) :
    FnW Tryz.prog 105 #[pt m 0, .string k, vi home] (fun v h' => v = vi (mvRwNum k home reg rows) ∧ ∃ s', Hs h' (bk m [vi reg, s'] :: rws s' (mvRw k home reg rows) :: rs)) h := by
  refine c105 ?_
  unfold C105
  have hcnt : (getRw k reg rows).cnt ≤ 18446744073709551615 := by
    unfold getRw
    cases hg : gval k rows with
    | none => simp
    | some r =>
      obtain ⟨a, b, e2, _⟩ := gval_mem hg
      exact hc (k, r) (by rw [e2]; simp)
  have h1 := getRw_one (k := k) (reg := reg) hone
  have stop1 : (home < 0 ∨ reg ≤ home) → (vi 1 = vi (mvRwNum k home reg rows) ∧ ∃ s', Hs h (bk m [vi reg, s'] :: rws s' (mvRw k home reg rows) :: rs)) := by
    intro hh
    unfold mvRwNum mvRw
    rw [if_pos hh, if_pos hh]
    exact ⟨rfl, sr, H⟩
  have go : ¬ (home < 0 ∨ reg ≤ home) → (cl Tryz.prog 83 [pt m 0, .string k] fun v9 => al [Value.bool false, Value.slice none 0 0, Value.int IntKind.i64 0, Value.int IntKind.u64 0] 86 fun r_10 => st 4 r_10 v9 <| fa r_10 3 fun v11 => ld1 v11 fun v12 =>
      bn .eql v12 (Value.int IntKind.u64 18446744073709551615) fun v13 => cn v13 (fun h' => vi 111 = vi (mvRwNum k home reg rows) ∧ ∃ s', Hs h' (bk m [vi reg, s'] :: rws s' (mvRw k home reg rows) :: rs))
      (fa r_10 2 fun v14 => st 1 v14 (vi home) <| fa r_10 3 fun v15 => ld1 v15 fun v16 => bn .add v16 (Value.int IntKind.u64 1) fun v17 => fa r_10 3 fun v18 => st 1 v18 v17 <| ldn 4 r_10 fun v19 =>
        cl Tryz.prog 137 [pt m 0, .string k, v19] fun v20 h' => vi 0 = vi (mvRwNum k home reg rows) ∧ ∃ s', Hs h' (bk m [vi reg, s'] :: rws s' (mvRw k home reg rows) :: rs))) h := by
    intro hh
    refine cl_s b83 (s83 hr hk (by omega) hone H) ?_
    rintro _ h ⟨rfl, H⟩
    have hok := Rw.ok h1 k
    refine alS H fun x h H => staS H rfl rfl hok.2 fun h H => ?_
    have H : Hs h (bk x (getRw k reg rows).c :: bk m [vi reg, sr] :: rws sr rows :: rs) := H
    refine fa_s (ld1S H (vu (getRw k reg rows).cnt) rfl (cn_eql (fun hm => ?_) fun hm => ?_))
    · have hm : (getRw k reg rows).cnt = 18446744073709551615 := by omega
      unfold mvRwNum mvRw
      rw [if_neg hh, if_pos hm, if_neg hh, if_pos hm]
      exact ⟨rfl, sr, H.drop⟩
    · have hm : ¬ (getRw k reg rows).cnt = 18446744073709551615 := by omega
      refine fa_s (st1S H rfl (by simp [Rw.c]) fun h H => fa_s (ld1S H (vu (getRw k reg rows).cnt) rfl (bn_s (vu ((getRw k reg rows).cnt + 1 : Nat)) ?_ (fa_s (st1S H rfl (by simp [Rw.c]) fun h H => ?_)))))
      · simp only [binV, intV, if_true]; rw [wu64_id (by omega) (by omega)]; rfl
      · refine ldaS H rfl (cl_s b137 (s137 (r := { getRw k reg rows with home := home, cnt := (getRw k reg rows).cnt + 1 }) hl hone h1 hrise H.drop) ?_)
        rintro v h' ⟨s', H'⟩
        unfold mvRwNum mvRw
        rw [if_neg hh, if_neg hm, if_neg hh, if_neg hm]
        refine ⟨rfl, s', ?_⟩
        have : setRw k { getRw k reg rows with home := home, cnt := (getRw k reg rows).cnt + 1 } rows = gin k { getRw k reg rows with home := home, cnt := (getRw k reg rows).cnt + 1 } rows := if_pos (.inr (by simp))
        rwa [this] at H'
  refine bn_s (.bool (decide (home < 0))) (by simp [binV, intV]) ?_
  by_cases hh : home < 0
  · rw [show decide (home < 0) = true from by simpa using hh]
    refine gd_f (by simp) (gd_f (by simp) (gd_f (by simp) (gd_f (by simp) (gd_f (by simp) (gd_f (by simp) (pk_s (cn_t ?_)))))))
    exact stop1 (.inl hh)
  · rw [show decide (home < 0) = false from by simpa using hh]
    refine gd_t (gd_t (gd_t (nc_s (gd_t (fa_s (gd_t (ld1S H (vi reg) rfl (gd_t (bn_s (.bool (decide (home ≥ reg))) (by simp [binV, intV]) (pk_s (cn_s (fun h1 => ?_) fun h1 => ?_)))))))))))
    · exact stop1 (.inr (by simpa using h1))
    · exact go (fun h2 => by rcases h2 with h2 | h2; exact hh h2; simp at h1; omega)
end Go.Proofs.YtalknmdbamlabaaGreat.Q
