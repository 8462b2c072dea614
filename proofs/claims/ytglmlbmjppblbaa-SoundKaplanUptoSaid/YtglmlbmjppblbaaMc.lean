/- Plain: how one machine is put through another one. -/
import Derived.Test.YtglmlbmjppblbaaMa
namespace Go.Proofs.Ytglmlbmjppblbaa
open Go.Kap

structure PInv (A C : List ArcM) (nA nC : Nat) (l : List (Int × Int)) (X : List ArcM) (k : Nat) : Prop where
  nodup : l.Nodup
  zero : l[0]? = some (0, 0)
  okp : ∀ x ∈ l, (0 ≤ x.1 ∧ x.1 < nA) ∧ (0 ≤ x.2 ∧ x.2 < nC)
  okx : ∀ a ∈ X, (0 ≤ a.f ∧ a.f < l.length) ∧ (0 ≤ a.t ∧ a.t < l.length) ∧ (0 ≤ a.i ∧ a.i ≤ 60) ∧ (0 ≤ a.o ∧ a.o ≤ 60)
  done : ∀ j, j < k → ∀ x, l[j]? = some x → DoneP A C X l x.1 x.2
section
variable {A C X : List ArcM} {nA nC k : Nat} {l : List (Int × Int)}
theorem atM_ext (l : List (Int × Int)) (x : Int × Int) : (∃ m, (atM l x).1 = l ++ m) ∧ posF x (atM l x).1 = some (atM l x).2 ∧ (atM l x).1.length ≤ l.length + 1 ∧ (l.Nodup → (atM l x).1.Nodup) ∧ (∀ y ∈ (atM l x).1, y ∈ l ∨ y = x) := by
  unfold atM
  cases h : posF x l with
  | some n => exact ⟨⟨[], by simp⟩, h, by simp, fun h => h, fun y hy => .inl hy⟩
  | none => exact ⟨⟨[x], rfl⟩, posF_new h, by simp, fun hn => nodup_snoc hn (posF_none.1 h), fun y hy => by simp at hy; exact hy⟩
theorem posF_app' {x : Int × Int} {l m : List (Int × Int)} {n : Nat} (h : x ∈ l) (hp : posF x (l ++ m) = some n) : posF x l = some n := by
  obtain ⟨i, hi, _⟩ := posF_mem h
  rw [posF_app m hi] at hp
  exact hi.trans hp
theorem DoneP.ext {i j : Int} (h : DoneP A C X l i j) (hm : (i, j) ∈ l) (m : List (Int × Int)) (Y : List ArcM) : DoneP A C (X ++ Y) (l ++ m) i j := by
  intro k hk
  obtain ⟨h1, h2, h3⟩ := h k (posF_app' hm hk)
  refine ⟨fun f hf e1 e2 => ?_, fun f hf e1 e2 g hg e3 e4 => ?_, fun g hg e1 e2 => ?_⟩
  · obtain ⟨n, hn, hx⟩ := h1 f hf e1 e2
    exact ⟨n, posF_app m hn, by simp [hx]⟩
  · obtain ⟨n, hn, hx⟩ := h2 f hf e1 e2 g hg e3 e4
    exact ⟨n, posF_app m hn, by simp [hx]⟩
  · obtain ⟨n, hn, hx⟩ := h3 g hg e1 e2
    exact ⟨n, posF_app m hn, by simp [hx]⟩
/-- An arc is put in, to a pair that may be new. -/
theorem PInv.step (h : PInv A C nA nC l X k) {x : Int × Int} (hx : (0 ≤ x.1 ∧ x.1 < nA) ∧ (0 ≤ x.2 ∧ x.2 < nC)) {kN : Nat} (hk : kN < l.length) {i o : Int} (hi : 0 ≤ i ∧ i ≤ 60) (ho : 0 ≤ o ∧ o ≤ 60) (hkk : k ≤ l.length) :
    PInv A C nA nC (atM l x).1 (X ++ [⟨kN, (atM l x).2, i, o⟩]) k := by
  obtain ⟨⟨m, hm⟩, hp, hl, hn, hmem⟩ := atM_ext l x
  have hlt := posF_lt hp
  have hle : l.length ≤ (atM l x).1.length := by rw [hm]; simp
  refine ⟨hn h.nodup, ?_, fun y hy => ?_, fun a ha => ?_, fun j hj y hy => ?_⟩
  · rw [hm, List.getElem?_append_left (List.getElem?_eq_some_iff.1 h.zero).1]
    exact h.zero
  · rcases hmem y hy with h1 | h1
    · exact h.okp y h1
    · rw [h1]; exact hx
  · rw [List.mem_append] at ha
    rcases ha with ha | ha
    · obtain ⟨h1, h2, h3, h4⟩ := h.okx a ha
      exact ⟨by omega, by omega, h3, h4⟩
    · simp at ha
      subst ha
      exact ⟨⟨by simp, by show (kN : Int) < _; omega⟩, ⟨by simp, by show ((atM l x).2 : Int) < _; omega⟩, hi, ho⟩
  · rw [hm] at hy ⊢
    rw [List.getElem?_append_left (by omega)] at hy
    exact (h.done j hj y hy).ext (List.mem_of_getElem? hy) m _

/-- What one arc of the first machine brings at pair kN = (i, j). -/
def P1 (C X : List ArcM) (l : List (Int × Int)) (kN : Nat) (j : Int) (f : ArcM) : Prop :=
  (f.o = 0 → ∃ n : Nat, posF (f.t, j) l = some n ∧ (⟨kN, n, f.i, 0⟩ : ArcM) ∈ X) ∧ (f.o ≠ 0 → ∀ g ∈ C, g.f = j → g.i = f.o → ∃ n : Nat, posF (f.t, g.t) l = some n ∧ (⟨kN, n, f.i, g.o⟩ : ArcM) ∈ X)
def P2 (X : List ArcM) (l : List (Int × Int)) (kN : Nat) (f g : ArcM) : Prop := g.i = f.o → ∃ n : Nat, posF (f.t, g.t) l = some n ∧ (⟨kN, n, f.i, g.o⟩ : ArcM) ∈ X
def P3 (X : List ArcM) (l : List (Int × Int)) (kN : Nat) (i : Int) (g : ArcM) : Prop := g.i = 0 → ∃ n : Nat, posF (i, g.t) l = some n ∧ (⟨kN, n, 0, g.o⟩ : ArcM) ∈ X
theorem P1.ext {kN : Nat} {j : Int} {f : ArcM} (h : P1 C X l kN j f) (m : List (Int × Int)) (Y : List ArcM) : P1 C (X ++ Y) (l ++ m) kN j f :=
  ⟨fun e => by obtain ⟨n, hn, hx⟩ := h.1 e; exact ⟨n, posF_app m hn, by simp [hx]⟩, fun e g hg e1 e2 => by obtain ⟨n, hn, hx⟩ := h.2 e g hg e1 e2; exact ⟨n, posF_app m hn, by simp [hx]⟩⟩
theorem P2.ext {kN : Nat} {f g : ArcM} (h : P2 X l kN f g) (m : List (Int × Int)) (Y : List ArcM) : P2 (X ++ Y) (l ++ m) kN f g :=
  fun e => by obtain ⟨n, hn, hx⟩ := h e; exact ⟨n, posF_app m hn, by simp [hx]⟩
theorem P3.ext {kN : Nat} {i : Int} {g : ArcM} (h : P3 X l kN i g) (m : List (Int × Int)) (Y : List ArcM) : P3 (X ++ Y) (l ++ m) kN i g :=
  fun e => by obtain ⟨n, hn, hx⟩ := h e; exact ⟨n, posF_app m hn, by simp [hx]⟩
theorem PInv.pairDone (h : PInv A C nA nC l X k) {i j : Nat} (hk : l[k]? = some ((i : Int), (j : Int))) (h1 : ∀ f ∈ rowOf A i, P1 C X l k j f) (h3 : ∀ g ∈ rowOf C j, P3 X l k i g) : PInv A C nA nC l X (k + 1) := by
  refine ⟨h.nodup, h.zero, h.okp, h.okx, fun u hu x hx => ?_⟩
  by_cases e : u = k
  · subst e
    rw [hk] at hx
    injection hx with hx
    subst hx
    intro k' hk'
    have e2 := posF_inj h.nodup hk
    simp only at hk'
    rw [e2] at hk'
    injection hk' with hk'
    subst hk'
    exact ⟨fun f hf e1 e3 => (h1 f (mem_rowOf.2 ⟨hf, e1⟩)).1 e3, fun f hf e1 e3 g hg e4 e5 => (h1 f (mem_rowOf.2 ⟨hf, e1⟩)).2 e3 g hg e4 e5, fun g hg e1 e3 => h3 g (mem_rowOf.2 ⟨hg, e1⟩) e3⟩
  · exact h.done u (by omega) x hx
theorem PInv.start (hA : 1 ≤ nA) (hC : 1 ≤ nC) : PInv A C nA nC [(0, 0)] [] 0 :=
  ⟨by simp, rfl, fun x hx => by simp at hx; subst hx; simp; omega, (fun a ha => by cases ha), fun j hj => absurd hj (by omega)⟩

/-- The final of a pair. -/
def FinOf (l : List (Int × Int)) (fa fc : List Int) (fins : List Int) : Prop := fins.length ≤ 1 ∧ (∀ f ∈ fins, 0 ≤ f ∧ f < l.length) ∧ ∀ x ∈ fa, ∀ y ∈ fc, ∀ n : Nat, posF (x, y) l = some n → (n : Int) ∈ fins
theorem through_good (h : PInv A C nA nC l X l.length) (hl : l.length ≤ 3000) (hx : X.length ≤ 20000) {fa fc fins : List Int} (hf : FinOf l fa fc fins) : GoodM l.length X fins :=
  ⟨by have := (List.getElem?_eq_some_iff.1 h.zero).1; omega, hl, hx, hf.1, h.okx, hf.2.1⟩
theorem through_reads (h : PInv A C nA nC l X l.length) {fa fc fins : List Int} (hf : FinOf l fa fc fins) {text x y : List Int} (h1 : Reads A fa text x) (h2 : Reads C fc x y) : Reads X fins text y := by
  obtain ⟨f, hfa, hp⟩ := h1
  obtain ⟨g, hfc, hq⟩ := h2
  have hd : ∀ p ∈ l, DoneP A C X l p.1 p.2 := by
    intro p hp
    obtain ⟨j, hj⟩ := List.getElem?_of_mem hp
    exact h.done j (List.getElem?_eq_some_iff.1 hj).1 p hj
  obtain ⟨n, hn, hr⟩ := through_path hd hp hq 0 (posF_inj h.nodup h.zero)
  exact ⟨n, hf.2.2 f hfa g hfc n hn, hr⟩
end
end Go.Proofs.Ytglmlbmjppblbaa
