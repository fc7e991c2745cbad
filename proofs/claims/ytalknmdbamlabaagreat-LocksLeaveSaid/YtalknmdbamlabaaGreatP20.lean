/- slices.Sort at strings, out of the library's contract; slices.Sorted. Conditions: none. -/
import Derived.Test.YtalknmdbamlabaaGreatP19
import Derived.Shelf.SortM.Plain
import Derived.Shelf.SortM.SortNone
namespace Go.Proofs.YtalknmdbamlabaaGreat.Q
open Go
open SL (bk bkn mp old it exS puS emS stS)
/-- the numbers of the functions and types that slices.Sort at strings reaches. -/
def sortRen : Go.Shelf.Ren := ⟨fun | 6 => 228 | 8 => 282 | 9 => 323 | 19 => 358 | 20 => 359 | 21 => 387 | 22 => 388 | 23 => 389 | 24 => 390 | 25 => 391 | 26 => 392 | 27 => 393 | 28 => 394 | 29 => 395 | 36 => 428 | 31 => 408 | 32 => 409 | 37 => 429 | 38 => 430 | 39 => 431 | 41 => 453 | n => n, fun | 27 => 48 | 29 => 9 | 3 => 3 | 32 => 106 | 26 => 48 | 0 => 0 | 44 => 536 | 46 => 23 | 4 => 4 | 36 => 529 | 35 => 528 | 41 => 503 | 5 => 5 | 9 => 9 | 53 => 579 | 57 => 521 | 63 => 605 | 64 => 456 | n => n, fun n => n⟩
theorem sortLay : SlLaysM.n6 Tryz.prog sortRen := {
  mixed := (by kernel_rfl),
  f6 := ⟨Tryz.f228.name, by decide, Tryz.func228.trans (congrArg some (by kernel_rfl))⟩,
  f8 := Tryz.func282.trans (congrArg some (by kernel_rfl)),
  f9 := ⟨Tryz.f323.name, by decide, Tryz.func323.trans (congrArg some (by kernel_rfl))⟩,
  f19 := Tryz.func358.trans (congrArg some (by kernel_rfl)),
  f20 := Tryz.func359.trans (congrArg some (by kernel_rfl)),
  f21 := ⟨Tryz.f387.name, by decide, Tryz.func387.trans (congrArg some (by kernel_rfl))⟩,
  f22 := ⟨Tryz.f388.name, by decide, Tryz.func388.trans (congrArg some (by kernel_rfl))⟩,
  f23 := ⟨Tryz.f389.name, by decide, Tryz.func389.trans (congrArg some (by kernel_rfl))⟩,
  f24 := ⟨Tryz.f390.name, by decide, Tryz.func390.trans (congrArg some (by kernel_rfl))⟩,
  f25 := ⟨Tryz.f391.name, by decide, Tryz.func391.trans (congrArg some (by kernel_rfl))⟩,
  f26 := ⟨Tryz.f392.name, by decide, Tryz.func392.trans (congrArg some (by kernel_rfl))⟩,
  f27 := ⟨Tryz.f393.name, by decide, Tryz.func393.trans (congrArg some (by kernel_rfl))⟩,
  f28 := ⟨Tryz.f394.name, by decide, Tryz.func394.trans (congrArg some (by kernel_rfl))⟩,
  f29 := ⟨Tryz.f395.name, by decide, Tryz.func395.trans (congrArg some (by kernel_rfl))⟩,
  f31 := Tryz.func408.trans (congrArg some (by kernel_rfl)),
  f32 := Tryz.func409.trans (congrArg some (by kernel_rfl)),
  f36 := ⟨Tryz.f428.name, by decide, Tryz.func428.trans (congrArg some (by kernel_rfl))⟩,
  f37 := ⟨Tryz.f429.name, by decide, Tryz.func429.trans (congrArg some (by kernel_rfl))⟩,
  f38 := ⟨Tryz.f430.name, by decide, Tryz.func430.trans (congrArg some (by kernel_rfl))⟩,
  f39 := ⟨Tryz.f431.name, by decide, Tryz.func431.trans (congrArg some (by kernel_rfl))⟩,
  f41 := ⟨Tryz.f453.name, by decide, Tryz.func453.trans (congrArg some (by kernel_rfl))⟩,
  t0 := Tryz.underlying0,
  a0 := Tryz.isAgg0,
  z0 := Tryz.sizeOf0,
  v0 := Tryz.zeroValue0,
  t3 := Tryz.underlying3,
  a3 := Tryz.isAgg3,
  z3 := Tryz.sizeOf3,
  v3 := Tryz.zeroValue3,
  t4 := Tryz.underlying4,
  a4 := Tryz.isAgg4,
  z4 := Tryz.sizeOf4,
  v4 := Tryz.zeroValue4,
  t5 := Tryz.underlying5,
  a5 := Tryz.isAgg5,
  z5 := Tryz.sizeOf5,
  v5 := Tryz.zeroValue5,
  t9 := Tryz.underlying9,
  a9 := Tryz.isAgg9,
  z9 := Tryz.sizeOf9,
  v9 := Tryz.zeroValue9,
  t26 := Tryz.underlying48,
  a26 := Tryz.isAgg48,
  z26 := Tryz.sizeOf48,
  v26 := Tryz.zeroValue48,
  t27 := Tryz.underlying48,
  a27 := Tryz.isAgg48,
  z27 := Tryz.sizeOf48,
  v27 := Tryz.zeroValue48,
  t29 := Tryz.underlying9,
  a29 := Tryz.isAgg9,
  z29 := Tryz.sizeOf9,
  v29 := Tryz.zeroValue9,
  t32 := Tryz.underlying106,
  a32 := Tryz.isAgg106,
  z32 := Tryz.sizeOf106,
  v32 := Tryz.zeroValue106,
  t35 := Tryz.underlying528,
  a35 := Tryz.isAgg528,
  z35 := Tryz.sizeOf528,
  v35 := Tryz.zeroValue528,
  t36 := Tryz.underlying529,
  a36 := Tryz.isAgg529,
  z36 := Tryz.sizeOf529,
  v36 := Tryz.zeroValue529,
  t41 := Tryz.underlying503,
  a41 := Tryz.isAgg503,
  z41 := Tryz.sizeOf503,
  v41 := Tryz.zeroValue503,
  t44 := Tryz.underlying536,
  a44 := Tryz.isAgg536,
  z44 := Tryz.sizeOf536,
  v44 := Tryz.zeroValue536,
  t46 := Tryz.underlying23,
  a46 := Tryz.isAgg23,
  z46 := Tryz.sizeOf23,
  v46 := Tryz.zeroValue23,
  t53 := Tryz.underlying579,
  a53 := Tryz.isAgg579,
  z53 := Tryz.sizeOf579,
  v53 := Tryz.zeroValue579,
  t57 := Tryz.underlying521,
  a57 := Tryz.isAgg521,
  z57 := Tryz.sizeOf521,
  v57 := Tryz.zeroValue521,
  t63 := Tryz.underlying605,
  a63 := Tryz.isAgg605,
  z63 := Tryz.sizeOf605,
  v63 := Tryz.zeroValue605,
  t64 := Tryz.underlying456,
  a64 := Tryz.isAgg456,
  z64 := Tryz.sizeOf456,
  v64 := Tryz.zeroValue456 }
abbrev strs (s : Value) (l : List ByteArray) : SL := vec 1 s (l.map fun k => [Value.string k])
def Sorted (l : List ByteArray) : Prop := l.Pairwise fun a b => bl b a = false
theorem putCells_list (d : List (List UInt8)) (X tl : List Value) (hX : X.length = d.length) : Go.Sort.putCells encStr 0 d.toArray (X ++ tl).toArray = (d.map encStr ++ tl).toArray := by
  apply Array.ext_getElem?
  intro k
  unfold Go.Sort.putCells
  rw [Array.getElem?_mapIdx]
  simp only [List.getElem?_toArray, List.size_toArray, Nat.zero_le, true_and, Nat.zero_add, Nat.sub_zero]
  by_cases hk : k < d.length
  · rw [List.getElem?_append_left (by omega), List.getElem?_append_left (by simpa using hk), List.getElem?_eq_getElem (by omega), List.getElem?_map, List.getElem?_eq_getElem hk]
    simp [hk]
  · rw [List.getElem?_append_right (by omega), List.getElem?_append_right (by simpa using hk), List.length_map, hX]
    cases tl[k - d.length]? <;> simp [hk]
theorem encStr_of (x : ByteArray) : encStr x.toList = .string x := by
  show Value.string ⟨x.toList.toArray⟩ = _
  rw [ByteArray.toList_eq]
theorem strs_flat (l : List ByteArray) : (l.map fun k => [Value.string k]).flatten = (l.map ByteArray.toList).map encStr := by
  rw [List.map_map]
  induction l with
  | nil => rfl
  | cons x l ih => simp only [List.map_cons, List.flatten_cons, List.singleton_append, ih, Function.comp, encStr_of]
theorem bl_le {a b : List UInt8} : decide (a ≤ b) = !Op.bytesLess b a := by
  rw [Go.Proofs.bytesLess_eq]
  by_cases h : b < a
  · have : ¬ a ≤ b := fun e => e h
    simp [h, this]
  · have : a ≤ b := h
    simp [h, this]
theorem s228 {h : Hp} {rs : List SL} {s : Value} {l : List ByteArray} (hl : l.length ≤ 1000000000) (H : Hs h (strs s l :: rs)) :
    FnW Tryz.prog 228 #[s] (fun _ h' => ∃ l', l'.Perm l ∧ Sorted l' ∧ Hs h' (strs s l' :: rs)) h := by
  rcases H.vec with ⟨rfl, hnil, H0⟩ | ⟨b, c, tl, rfl, hv, H0⟩
  · intro w hw
    refine (AnyM.slices_Sort_string_none sortLay none 0 w).mono ?_
    rintro e w' ⟨rfl, rfl⟩
    refine ⟨_, rfl, ⟨l, .refl _, ?_, by rw [hw]; exact H⟩, KW.refl _⟩
    have : l = [] := by simpa using hnil
    rw [this]; exact List.Pairwise.nil
  · intro w hw
    subst hw
    have hb := H0.blk
    obtain ⟨e, fz, hcell, hfz⟩ := hb
    have hlen : (l.map fun k => [Value.string k]).flatten.length = l.length := by rw [strs_flat]; simp
    have hcell0 := hcell
    rw [strs_flat] at hcell
    generalize hss : l.map ByteArray.toList = ss at hcell
    have hsl : ss.length = l.length := by rw [← hss]; simp
    have hH : Go.Sort.Holds encStr w b 0 ss.toArray := by
      intro j hj
      have hj : j < ss.length := by simpa using hj
      refine ⟨?_, ?_⟩
      · simp only [World.cell?, Nat.zero_add, hcell]
        rw [List.getElem?_toArray, List.getElem?_append_left (by simpa using hj), List.getElem?_map, List.getElem?_eq_getElem hj]
        simp [hj]
      · have := hfz j (by rw [List.length_append, hlen]; omega)
        simp only [World.frozen?, Nat.zero_add, hcell]
        simpa using this
    have hlt : b < w.heap.size := lt_of_get hcell
    rw [List.length_map]
    have hc := AnyM.slices_Sort_string sortLay b 0 c ss w hH hlt (by omega)
    rw [hsl] at hc
    refine hc.mono ?_
    rintro e' w' ⟨rfl, n, os, rfl⟩
    generalize hms : ss.mergeSort (fun x y => decide (x ≤ y)) = ms
    have hp : ms.Perm ss := by rw [← hms]; exact List.mergeSort_perm _ _
    have hml : ms.length = l.length := by rw [hp.length_eq, hsl]
    have hupd : Upd w.heap (w.heap.modify b (Go.Sort.onCells (Go.Sort.putCells encStr 0 ms.toArray))) b (ms.map encStr ++ tl) := by
      refine ⟨by simp, fun b' hb' => ?_, e, fz, ?_, ?_⟩
      · rw [Array.getElem?_modify, if_neg (Ne.symm hb')]
      · rw [Array.getElem?_modify, if_pos rfl, hcell]
        simp only [Option.map_some, Go.Sort.onCells]
        rw [putCells_list _ _ _ (by simp [hml, hsl])]
      · intro i hi
        refine hfz i ?_
        rw [List.length_append, List.length_map] at hi
        rw [List.length_append, hlen]; omega
    have H1 := H0.upd hupd
    have hlx : Ext (w.heap.modify b (Go.Sort.onCells (Go.Sort.putCells encStr 0 ms.toArray))) (w.heap.modify b (Go.Sort.onCells (Go.Sort.putCells encStr 0 ms.toArray)) ++ os) :=
      ⟨by simp, fun x hx _ => by rw [Array.getElem?_append_left hx]⟩
    have H2 := Hs.extd H1 hlx
    refine ⟨_, rfl, ⟨ms.map fun x => ⟨x.toArray⟩, ?_, ?_, ?_⟩, ?_⟩
    · have : l = ss.map fun x => (⟨x.toArray⟩ : ByteArray) := by
        rw [← hss, List.map_map]
        conv => lhs; rw [← List.map_id l]
        exact List.map_congr_left fun x _ => by simp [Function.comp, ByteArray.toList_eq]
      rw [this]
      exact hp.map _
    · have hsrt : ms.Pairwise fun x y => decide (x ≤ y) = true := by
        rw [← hms]
        refine List.pairwise_mergeSort ?_ ?_ ss
        · intro a b c h1 h2
          rw [bl_le] at *
          cases hca : Op.bytesLess c a with
          | false => rfl
          | true =>
            rcases bL_tri b a with hx | rfl | hx
            · rw [hx] at h1; cases h1
            · rw [hca] at h2; cases h2
            · have := bL_trans _ _ _ hca hx
              rw [this] at h2; cases h2
        · intro a b
          rw [bl_le, bl_le]
          cases h1 : Op.bytesLess b a with
          | false => simp
          | true =>
            have : Op.bytesLess a b = false := by
              cases h2 : Op.bytesLess a b with
              | false => rfl
              | true => have := bL_trans _ _ _ h1 h2; rw [bL_irr] at this; cases this
            simp [this]
      unfold Sorted
      rw [List.pairwise_map]
      refine hsrt.imp fun {a b} hab => ?_
      rw [bl_le] at hab
      unfold bl
      rw [ByteArray.toList_eq, ByteArray.toList_eq]
      simpa using hab
    · have hmm : ((ms.map fun x => (⟨x.toArray⟩ : ByteArray)).map fun k => [Value.string k]).flatten = ms.map encStr := by
        rw [strs_flat, List.map_map, List.map_map]
        exact List.map_congr_left fun x _ => by simp [Function.comp, ByteArray.toList_eq]
      have hv' : VOk 1 ((ms.map fun x => (⟨x.toArray⟩ : ByteArray)).map fun k => [Value.string k]) c tl :=
        ⟨by simp, by simp [oneC], by have := hv.cap; simp at this; simp; omega, by have := hv.room; simp at this; simp; omega⟩
      have := Hs.vec1 (b := b) (rs := rs) hv' (h := w.heap.modify b (Go.Sort.onCells (Go.Sort.putCells encStr 0 ms.toArray)) ++ os) (by rw [hmm]; exact H2)
      have e2 : ((ms.map fun x => (⟨x.toArray⟩ : ByteArray)).map fun k => [Value.string k]).length = l.length := by simp [hml]
      rw [e2] at this
      exact this
    · refine ⟨⟨by simp [Go.Sort.grow, Go.Sort.putRow, Go.Sort.mapBlock, Go.Sort.ahead], fun x o hx ho => ?_⟩, rfl, rfl, rfl⟩
      have hne : x ≠ b := by rintro rfl; rw [hcell] at hx; cases hx; simp [isK] at ho
      show (w.heap.modify b _ ++ os)[x]? = some o
      rw [Array.getElem?_append_left (by simpa using lt_of_get hx), Array.getElem?_modify, if_neg (Ne.symm hne)]
      exact hx
end Go.Proofs.YtalknmdbamlabaaGreat.Q
