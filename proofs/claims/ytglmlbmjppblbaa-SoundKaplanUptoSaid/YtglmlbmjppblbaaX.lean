/- Plain: the search for a walk. -/
import Derived.Test.YtglmlbmjppblbaaW
namespace Go.Proofs.Ytglmlbmjppblbaa
open Go.Kap

def stepC (inn out : List Int) (p : Pl) (a : ArcM) : Option Pl :=
  if 0 < a.i ∧ (p.i = inn.length ∨ inn.getD p.i.toNat 0 ≠ a.i) then none
  else if 0 < a.o ∧ (p.j = out.length ∨ out.getD p.j.toNat 0 ≠ a.o) then none
  else some ⟨a.t, p.i + (if 0 < a.i then 1 else 0), p.j + (if 0 < a.o then 1 else 0)⟩
structure OkP (n : Nat) (arcs : List ArcM) (inn out : List Int) (p : Pl) : Prop where
  s : 0 ≤ p.s ∧ p.s < n
  i : 0 ≤ p.i ∧ p.i ≤ inn.length
  j : 0 ≤ p.j ∧ p.j ≤ out.length
  path : PathM arcs 0 (inn.take p.i.toNat) (out.take p.j.toNat) p.s
structure CInv (n : Nat) (arcs : List ArcM) (inn out : List Int) (dn V : List Pl) : Prop where
  nodup : V.Nodup
  reach : ∀ p ∈ V, OkP n arcs inn out p
  start : (⟨0, 0, 0⟩ : Pl) ∈ V
  closed : ∀ p ∈ dn, ∀ a ∈ arcs, a.f = p.s → ∀ q, stepC inn out p a = some q → q ∈ V

theorem PathM.snoc {arcs : List ArcM} {s t : Int} {i o : List Int} (h : PathM arcs s i o t) {a : ArcM} (ha : a ∈ arcs) (hf : a.f = t) : PathM arcs s (i ++ sy1 a.i) (o ++ sy1 a.o) a.t := by
  induction h with
  | nil s =>
    subst hf
    have := PathM.cons ha (PathM.nil a.t)
    simpa using this
  | @cons b i o t hb k ih =>
    rw [List.append_assoc, List.append_assoc]
    exact PathM.cons hb (ih hf)
theorem take_one {l : List Int} {k : Nat} (h : k < l.length) : l.take (k + 1) = l.take k ++ [l.getD k 0] := by
  rw [List.take_succ_eq_append_getElem h]
  simp [List.getD, h]
theorem drop_one {l : List Int} {k : Nat} (h : k < l.length) : l.drop k = l.getD k 0 :: l.drop (k + 1) := by
  rw [List.drop_eq_getElem_cons h]
  simp [List.getD, h]

variable {n : Nat} {arcs : List ArcM} {fins inn out : List Int} {dn V : List Pl}
theorem cinv_start (hn : 1 ≤ n) : CInv n arcs inn out [] [⟨0, 0, 0⟩] :=
  ⟨by simp, fun p hp => by
    simp at hp
    subst hp
    exact ⟨⟨by simp, by simp; omega⟩, ⟨by simp, by simp⟩, ⟨by simp, by simp⟩, PathM.nil 0⟩, by simp, fun p hp => by cases hp⟩
theorem step_ok (hg : GoodM n arcs fins) {p q : Pl} (hp : OkP n arcs inn out p) {a : ArcM} (ha : a ∈ arcs) (hf : a.f = p.s) (hs : stepC inn out p a = some q) : OkP n arcs inn out q := by
  obtain ⟨_, ⟨t1, t2⟩, ⟨i1, _⟩, ⟨o1, _⟩⟩ := hg.arc a ha
  have hpath := hp.path.snoc ha hf
  obtain ⟨hi1, hi2⟩ := hp.i
  obtain ⟨hj1, hj2⟩ := hp.j
  unfold stepC at hs
  split at hs
  · cases hs
  · rename_i h1
    split at hs
    · cases hs
    · rename_i h2
      injection hs with hs
      subst hs
      have hi : (0 ≤ p.i + (if 0 < a.i then 1 else 0) ∧ p.i + (if 0 < a.i then 1 else 0) ≤ inn.length) ∧ inn.take (p.i + (if 0 < a.i then 1 else 0)).toNat = inn.take p.i.toNat ++ sy1 a.i := by
        by_cases h0 : 0 < a.i
        · have h3 : p.i ≠ inn.length := fun e => h1 ⟨h0, .inl e⟩
          have h4 : inn.getD p.i.toNat 0 = a.i := Decidable.byContradiction fun e => h1 ⟨h0, .inr e⟩
          simp only [if_pos h0]
          refine ⟨by omega, ?_⟩
          rw [show (p.i + 1).toNat = p.i.toNat + 1 by omega, take_one (by omega), h4, sy1_pos h0]
        · simp only [if_neg h0]
          have : a.i = 0 := by omega
          rw [this, sy1_zero]
          simp
          omega
      have hj : (0 ≤ p.j + (if 0 < a.o then 1 else 0) ∧ p.j + (if 0 < a.o then 1 else 0) ≤ out.length) ∧ out.take (p.j + (if 0 < a.o then 1 else 0)).toNat = out.take p.j.toNat ++ sy1 a.o := by
        by_cases h0 : 0 < a.o
        · have h3 : p.j ≠ out.length := fun e => h2 ⟨h0, .inl e⟩
          have h4 : out.getD p.j.toNat 0 = a.o := Decidable.byContradiction fun e => h2 ⟨h0, .inr e⟩
          simp only [if_pos h0]
          refine ⟨by omega, ?_⟩
          rw [show (p.j + 1).toNat = p.j.toNat + 1 by omega, take_one (by omega), h4, sy1_pos h0]
        · simp only [if_neg h0]
          have : a.o = 0 := by omega
          rw [this, sy1_zero]
          simp
          omega
      refine ⟨⟨t1, t2⟩, hi.1, hj.1, ?_⟩
      show PathM arcs 0 (inn.take _) (out.take _) a.t
      rw [hi.2, hj.2]
      exact hpath
theorem cinv_add (hg : GoodM n arcs fins) (h : CInv n arcs inn out dn V) {p q : Pl} (hp : p ∈ V) {a : ArcM} (ha : a ∈ arcs) (hf : a.f = p.s) (hs : stepC inn out p a = some q) (hq : q ∉ V) : CInv n arcs inn out dn (V ++ [q]) := by
  refine ⟨nodup_snoc h.nodup hq, fun x hx => ?_, by simp [h.start], fun x hx b hb hbf y hy => by have := h.closed x hx b hb hbf y hy; simp [this]⟩
  simp at hx
  rcases hx with hx | rfl
  · exact h.reach x hx
  · exact step_ok hg (h.reach p hp) ha hf hs
theorem cinv_done (h : CInv n arcs inn out dn V) {p : Pl} (hc : ∀ a ∈ arcs, a.f = p.s → ∀ q, stepC inn out p a = some q → q ∈ V) : CInv n arcs inn out (dn ++ [p]) V := by
  refine ⟨h.nodup, h.reach, h.start, fun x hx a ha hf q hq => ?_⟩
  simp at hx
  rcases hx with hx | rfl
  · exact h.closed x hx a ha hf q hq
  · exact hc a ha hf q hq

def allPl (n p q : Nat) : List Pl := (List.range n).flatMap fun (s : Nat) => (List.range (p + 1)).flatMap fun (i : Nat) => (List.range (q + 1)).map fun (j : Nat) => (⟨s, i, j⟩ : Pl)
theorem flatMap_len {α β : Type} (f : α → List β) (k : Nat) (h : ∀ a, (f a).length = k) : ∀ l : List α, (l.flatMap f).length = l.length * k
  | [] => by simp
  | a :: l => by
    rw [List.flatMap_cons, List.length_append, flatMap_len f k h l, h a, List.length_cons, Nat.add_mul]
    omega
theorem allPl_len (n p q : Nat) : (allPl n p q).length = n * ((p + 1) * (q + 1)) := by
  unfold allPl
  rw [flatMap_len _ ((p + 1) * (q + 1))]
  · simp
  · intro s
    rw [flatMap_len _ (q + 1)]
    · simp
    · intro i; simp
theorem cinv_len (h : CInv n arcs inn out dn V) : V.length ≤ n * ((inn.length + 1) * (out.length + 1)) := by
  have := pigeon (U := allPl n inn.length out.length) h.nodup (fun x hx => by
    obtain ⟨⟨s1, s2⟩, ⟨i1, i2⟩, ⟨j1, j2⟩, _⟩ := h.reach x hx
    unfold allPl
    rw [List.mem_flatMap]
    refine ⟨x.s.toNat, by simp; omega, ?_⟩
    rw [List.mem_flatMap]
    refine ⟨x.i.toNat, by simp; omega, ?_⟩
    rw [List.mem_map]
    refine ⟨x.j.toNat, by simp; omega, ?_⟩
    cases x
    simp at *
    omega)
  rwa [allPl_len] at this
theorem closed_path (hg : GoodM n arcs fins) (h : CInv n arcs inn out V V) {s t : Int} {x y : List Int} (hp : PathM arcs s x y t) :
    ∀ i j : Nat, i ≤ inn.length → j ≤ out.length → x = inn.drop i → y = out.drop j → (⟨s, i, j⟩ : Pl) ∈ V → (⟨t, inn.length, out.length⟩ : Pl) ∈ V := by
  induction hp with
  | nil s =>
    intro i j hi hj hx hy hm
    have h1 : i = inn.length := by
      have := congrArg List.length hx
      simp at this
      omega
    have h2 : j = out.length := by
      have := congrArg List.length hy
      simp at this
      omega
    subst h1 h2
    exact hm
  | @cons a x y t ha k ih =>
    intro i j hi hj hx hy hm
    obtain ⟨_, _, ⟨i1, _⟩, ⟨o1, _⟩⟩ := hg.arc a ha
    have hI : ¬ (0 < a.i ∧ ((i : Int) = inn.length ∨ inn.getD i 0 ≠ a.i)) ∧ x = inn.drop (i + if 0 < a.i then 1 else 0) ∧ (i + if 0 < a.i then 1 else 0) ≤ inn.length := by
      by_cases h0 : 0 < a.i
      · rw [sy1_pos h0] at hx
        have hlt : i < inn.length := by
          rcases Nat.lt_or_ge i inn.length with h | h
          · exact h
          · rw [List.drop_eq_nil_of_le h] at hx; cases hx
        rw [drop_one hlt] at hx
        simp at hx
        obtain ⟨e1, e2⟩ := hx
        simp only [if_pos h0]
        refine ⟨?_, e2, by omega⟩
        rintro ⟨_, h | h⟩
        · omega
        · rw [List.getD_eq_getElem?_getD] at h; exact h e1.symm
      · have e0 : a.i = 0 := by omega
        rw [e0, sy1_zero] at hx
        simp only [if_neg h0]
        exact ⟨fun h => h0 h.1, by simpa using hx, hi⟩
    have hO : ¬ (0 < a.o ∧ ((j : Int) = out.length ∨ out.getD j 0 ≠ a.o)) ∧ y = out.drop (j + if 0 < a.o then 1 else 0) ∧ (j + if 0 < a.o then 1 else 0) ≤ out.length := by
      by_cases h0 : 0 < a.o
      · rw [sy1_pos h0] at hy
        have hlt : j < out.length := by
          rcases Nat.lt_or_ge j out.length with h | h
          · exact h
          · rw [List.drop_eq_nil_of_le h] at hy; cases hy
        rw [drop_one hlt] at hy
        simp at hy
        obtain ⟨e1, e2⟩ := hy
        simp only [if_pos h0]
        refine ⟨?_, e2, by omega⟩
        rintro ⟨_, h | h⟩
        · omega
        · rw [List.getD_eq_getElem?_getD] at h; exact h e1.symm
      · have e0 : a.o = 0 := by omega
        rw [e0, sy1_zero] at hy
        simp only [if_neg h0]
        exact ⟨fun h => h0 h.1, by simpa using hy, hj⟩
    have hst : stepC inn out ⟨a.f, i, j⟩ a = some ⟨a.t, ((i + if 0 < a.i then 1 else 0 : Nat) : Int), ((j + if 0 < a.o then 1 else 0 : Nat) : Int)⟩ := by
      unfold stepC
      simp only [Int.toNat_natCast]
      rw [if_neg hI.1, if_neg hO.1]
      congr 2
      · split <;> simp
      · split <;> simp
    have hm' := h.closed _ hm a ha rfl _ hst
    exact ih _ _ hI.2.2 hO.2.2 hI.2.1 hO.2.1 hm'
/-- What the search finds. -/
theorem cinv_end (hg : GoodM n arcs fins) (h : CInv n arcs inn out V V) (f : Int) : (⟨f, inn.length, out.length⟩ : Pl) ∈ V ↔ PathM arcs 0 inn out f := by
  constructor
  · intro hm
    have := (h.reach _ hm).path
    simpa using this
  · intro hp
    exact closed_path hg h hp 0 0 (by omega) (by omega) rfl rfl h.start
end Go.Proofs.Ytglmlbmjppblbaa
