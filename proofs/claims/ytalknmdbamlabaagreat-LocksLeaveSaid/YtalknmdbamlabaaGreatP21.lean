/- slices.Sorted; the locks: Keys. Conditions: none. -/
import Derived.Test.YtalknmdbamlabaaGreatP20
namespace Go.Proofs.YtalknmdbamlabaaGreat.Q
open Go
open SL (bk bkn mp old it exS puS emS stS)
/-! pieces without iterators -/
theorem mpS_lo {n : Nat} {κ : Type} {b : Nat} {kc : κ → Value} {l : List (κ × Value)} : (mpS b kc l).lo n := fun _ => trivial
theorem sepm_lo {n : Nat} {α : Type} {f : α → SL} (hf : ∀ x, (f x).lo n) (l : List α) : (sep (l.map f)).lo n := by
  induction l with
  | nil => trivial
  | cons x l ih => exact ⟨hf x, ih⟩
theorem gR_lo {n : Nat} (x : GRow) : (gR x).lo n := ⟨trivial, vec_lo, vec_lo, trivial⟩
theorem locksR_lo {n m : Nat} {G : GS} {D : List Tg} : (locksR m G D).lo n := fun _ => ⟨trivial, mpS_lo, sepm_lo gR_lo _, mpS_lo, trivial⟩
theorem s227 {h : Hp} {rs : List SL} {fv : Value} {D : List (List Value) → List Value → Prop} {E : List (List Value) → Prop} (hg : Gives Tryz.prog fv rs D E) (hns : ∀ r ∈ rs, r.lo h.size) (hD : ∀ pre x, D pre x → pre.length ≤ 1000000000 ∧ ∃ u, x = [u] ∧ oneC u = true) (H : Hs h rs) :
    FnW Tryz.prog 227 #[fv] (fun v h' => ∃ xs, E xs ∧ Hs h' (vec 1 v xs :: rs)) h := by
  refine c227 ?_
  unfold C227
  exact clB (s322 hg hns hD H) (fun v h H => H) b322
theorem s110 {h : Hp} {rs : List SL} {fv : Value} {D : List (List Value) → List Value → Prop} {l : List ByteArray} (hg : Gives Tryz.prog fv rs D (fun xs => ∃ ks : List ByteArray, ks.Perm l ∧ xs = ks.map fun k => [Value.string k])) (hns : ∀ r ∈ rs, r.lo h.size)
    (hD : ∀ pre x, D pre x → pre.length ≤ 1000000000 ∧ ∃ u, x = [u] ∧ oneC u = true) (hl : l.length ≤ 1000000000) (H : Hs h rs) :
    FnW Tryz.prog 110 #[fv] (fun v h' => ∃ l', l'.Perm l ∧ Sorted l' ∧ Hs h' (strs v l' :: rs)) h := by
  refine c110 ?_
  unfold C110
  refine clB (s227 hg hns hD H) ?_ b227
  rintro v h ⟨_, ⟨ks, hk, rfl⟩, H⟩
  refine clB (s228 (l := ks) (by rw [hk.length_eq]; exact hl) H) ?_ b228
  rintro _ h ⟨l', h1, h2, H⟩
  exact ⟨l', h1.trans hk, h2, H⟩
/-- sorted keys of a map. -/
theorem sortedKeys {h : Hp} {rs : List SL} {a b t kt et g : Nat} {l : List (ByteArray × Value)} (ht : Tryz.prog.underlying t = some (.map kt et)) (hb : ∃ fn, Tryz.prog.funcs[g]? = some fn ∧ fn.body.isSome = true ∧ (fn.name == "runtime.NumGoroutine") = false)
    (hg : ∀ {y a : Value} {R : Value → A} {h : Hp}, CKeys Tryz.prog t y a R h → FnW Tryz.prog g #[y, a] R h) (hl : l.length ≤ 1000000000) (hns : ∀ r ∈ rs, r.lo h.size) (H : Hs h (bk a [.map (some b)] :: mpS b Value.string l :: rs)) :
    FnW Tryz.prog 110 #[.func (.func g) #[] #[pt a 0]] (fun v h' => ∃ l', l'.Perm (l.map (·.1)) ∧ Sorted l' ∧ Hs h' (strs v l' :: bk a [.map (some b)] :: mpS b Value.string l :: rs)) h := by
  obtain ⟨bs, c, hf, H⟩ := Hs.mpS.1 H.p1
  refine (s110 (l := l.map (·.1)) (keysGives (rs := rs) ht hb hg hf) (lo_bk (lo_cons (r := mp _ _ _) trivial hns)) ?_ (by simpa using hl) H.p1).mono ?_
  · rintro pre x ⟨ks, k, rem, rfl, rfl, hp⟩
    refine ⟨?_, _, rfl, rfl⟩
    have := hp.length_eq
    simp at this ⊢; omega
  · rintro v h' ⟨l', h1, h2, H⟩
    exact ⟨l', h1, h2, (Hs.mpS.2 ⟨bs, c, hf, H.pl⟩).pl⟩
theorem s111 {h : Hp} {rs : List SL} {v : Value} (h1 : oneC v = true) (H : Hs h rs) : FnW Tryz.prog 111 #[v] (fun f h' => ∃ a, f = .func (.func 229) #[] #[pt a 0] ∧ Hs h' (bk a [v] :: rs)) h := by
  refine c111 ?_
  unfold C111
  refine bx1 fun a h H => ?_
  repeat (first | with_reducible refine nc_s ?_ | with_reducible refine fa_0 ?_ | with_reducible refine fa_s ?_ | with_reducible refine ldB ?_ | with_reducible refine ldaB ?_ | with_reducible refine ldnB ?_ | with_reducible refine gd_t ?_ | with_reducible refine gd_f (by simp) ?_ | with_reducible refine an_s (ldB rfl) ?_ | with_reducible refine an_s (ldaB rfl) ?_ | with_reducible refine an_s (gd_t (ldaB rfl)) ?_ | with_reducible refine an_s (gd_t (ldB rfl)) ?_ | with_reducible refine an_s (gd_f (by simp) rfl) ?_ | with_reducible refine lnM ?_ | with_reducible refine lnB ?_ | with_reducible refine lnT_s ?_ | with_reducible refine mf_s ?_ | with_reducible refine pk_t ?_ | with_reducible refine pk_f ?_ | with_reducible refine nt_t ?_ | with_reducible refine nt_f ?_ | with_reducible refine cn_t ?_ | with_reducible refine cn_f ?_ | with_reducible refine ex0 ?_ | with_reducible refine ex1 ?_ | with_reducible refine ex2 ?_)
  exact ⟨a, rfl, H⟩
theorem keys229 {y a : Value} {R : Value → A} {h : Hp} (H : CKeys Tryz.prog 207 y a R h) : FnW Tryz.prog 229 #[y, a] R h := c229 (by rw [C229_eq]; exact H)
end Go.Proofs.YtalknmdbamlabaaGreat.Q
