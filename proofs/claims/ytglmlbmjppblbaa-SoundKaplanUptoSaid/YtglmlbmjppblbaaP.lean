/- Plain: the netter and its labels side by side. -/
import Derived.Test.YtglmlbmjppblbaaO
namespace Go.Proofs.Ytglmlbmjppblbaa
open Go.Kap

theorem posF_map {α β : Type} [DecidableEq α] [DecidableEq β] (f : α → β) (x : α) : ∀ (l : List α), (∀ y ∈ l, f x = f y → x = y) → posF (f x) (l.map f) = posF x l
  | [], _ => rfl
  | y :: r, h => by
    simp only [List.map_cons, posF]
    by_cases e : x = y
    · simp [e]
    · rw [if_neg e, if_neg (fun e' => e (h y (by simp) e')), posF_map f x r (fun z hz => h z (by simp [hz]))]

def entryL : Option Lab → List Int × List Int
  | some (.S o i) => (o, i)
  | _ => ([], [])
structure Rel (s : NS) (L : LS) : Prop where
  names : s.names = L.labs.map (keyOf L.labs)
  arcs : s.arcs = L.arcs
  finals : s.finals = L.finals
  sl : s.sts.length ≤ L.labs.length
  st : ∀ j, j < s.sts.length → s.sts.getD j ([], []) = entryL L.labs[j]?
  all : ∀ j o i, L.labs[j]? = some (.S o i) → j < s.sts.length

theorem Rel.len {s : NS} {L : LS} (h : Rel s L) : s.names.length = L.labs.length := by rw [h.names]; simp
/-- What belongs to a label: its state is there. -/
def BackOK (labs : List Lab) (x : Lab) : Prop := ∀ o i b, x = .W o i b → Lab.S o i ∈ labs
theorem Rel.look {s : NS} {L : LS} (h : Rel s L) (ho : LabOK L.labs) {x : Lab} (hg : GoodLab x) (hb : BackOK L.labs x) : nameAt s.names (keyOf L.labs x) = (posF x L.labs).map fun (j : Nat) => (j : Int) := by
  rw [nameAt_pos, h.names, posF_map]
  intro y hy e
  exact keyOf_inj ho hg (ho.good y hy) hb (fun o i b e => ho.back o i b (by rw [← e]; exact hy)) e
theorem keyOf_snoc {labs : List Lab} {x y : Lab} (hb : BackOK labs y) : keyOf (labs ++ [x]) y = keyOf labs y := by
  cases y with
  | S _ _ => rfl
  | T _ => rfl
  | W o i b =>
    obtain ⟨n, hn, _⟩ := posF_mem (hb o i b rfl)
    simp only [keyOf, posF_app [x] hn, hn]
theorem names_snoc {labs : List Lab} (ho : LabOK labs) {x : Lab} (hb : BackOK labs x) : labs.map (keyOf labs) ++ [keyOf labs x] = (labs ++ [x]).map (keyOf (labs ++ [x])) := by
  rw [List.map_append, List.map_cons, List.map_nil, keyOf_snoc hb]
  congr 1
  apply List.map_congr_left
  intro y hy
  exact (keyOf_snoc (fun o i b e => ho.back o i b (by rw [← e]; exact hy))).symm

/-- A label that is no state. -/
theorem Rel.snoc {s : NS} {L : LS} (h : Rel s L) (ho : LabOK L.labs) {x : Lab} (hb : BackOK L.labs x) (hn : ¬ isS x) (arcs : List ArcM) (finals : List Int) :
    Rel { s with names := s.names ++ [keyOf L.labs x], arcs := arcs, finals := finals } { labs := L.labs ++ [x], arcs := arcs, finals := finals } := by
  refine ⟨by simp only [h.names]; exact names_snoc ho hb, rfl, rfl, by have := h.sl; simp; omega, fun j hj => ?_, fun j o i e => ?_⟩
  · rw [h.st j hj, List.getElem?_append_left (Nat.lt_of_lt_of_le hj h.sl)]
  · by_cases hj : j < L.labs.length
    · rw [List.getElem?_append_left hj] at e
      exact h.all j o i e
    · rw [List.getElem?_append_right (by omega)] at e
      obtain ⟨hj', e'⟩ := List.getElem?_eq_some_iff.1 e
      simp at hj' e'
      subst e'
      exact absurd trivial hn
theorem Rel.arcs_ {s : NS} {L : LS} (h : Rel s L) (a : ArcM) : Rel { s with arcs := s.arcs ++ [a] } { L with arcs := L.arcs ++ [a] } :=
  ⟨h.names, by simp only [h.arcs], h.finals, h.sl, h.st, h.all⟩

theorem state_sim {s : NS} {L : LS} (h : Rel s L) (ho : LabOK L.labs) (n3 : Nat) {o i : List Int} (hg : GoodLab (.S (truncL n3 o) i)) :
    Rel (stateM n3 s o i).1 (stateL L (truncL n3 o) i).1 ∧ (stateM n3 s o i).2 = ((stateL L (truncL n3 o) i).2 : Int) := by
  have hl := h.look ho hg (fun _ _ _ e => by cases e)
  simp only [keyOf] at hl
  unfold stateL stateM
  generalize truncL n3 o = o' at *
  rw [hl]
  cases hp : posF (Lab.S o' i) L.labs with
  | some j => exact ⟨h, rfl⟩
  | none =>
    simp only [Option.map_none]
    refine ⟨⟨?_, h.arcs, h.finals, ?_, fun j hj => ?_, fun j o i' e => ?_⟩, ?_⟩
    · simp only [h.names]
      exact names_snoc ho (x := .S o' i) (fun _ _ _ e => by cases e)
    · have := h.len
      have := h.sl
      simp
      omega
    · have hln := h.len
      have hsl := h.sl
      simp only [List.length_append, List.length_replicate, List.length_cons, List.length_nil] at hj
      by_cases h1 : j < s.sts.length
      · have e1 : (s.sts ++ List.replicate (s.names.length - s.sts.length) ([], []) ++ [(o', i)]).getD j ([], []) = s.sts.getD j ([], []) := by
          rw [List.append_assoc]; simp [List.getD, List.getElem?_append_left h1]
        simp only
        rw [e1, h.st j h1, List.getElem?_append_left (by omega)]
      · by_cases h2 : j = s.names.length
        · have e1 : (s.sts ++ List.replicate (s.names.length - s.sts.length) ([], []) ++ [(o', i)]).getD j ([], []) = (o', i) := by
            simp only [List.getD]
            rw [List.getElem?_append_right (by simp; omega)]
            simp
            rw [show j - (s.sts.length + (s.names.length - s.sts.length)) = 0 by omega]
            rfl
          simp only
          rw [e1, List.getElem?_append_right (by omega), show j - L.labs.length = 0 by omega]
          rfl
        · have e1 : (s.sts ++ List.replicate (s.names.length - s.sts.length) ([], []) ++ [(o', i)]).getD j ([], []) = ([], []) := by
            simp only [List.getD]
            rw [List.getElem?_append_left (by simp; omega), List.getElem?_append_right (by omega), List.getElem?_replicate, if_pos (by omega)]
            rfl
          simp only
          rw [e1, List.getElem?_append_left (by omega)]
          cases hx : L.labs[j]? with
          | none => rfl
          | some y =>
            cases y with
            | S a b => exact absurd (h.all j a b hx) h1
            | T _ => rfl
            | W _ _ _ => rfl
    · have hln := h.len
      have hsl := h.sl
      simp only [List.length_append, List.length_replicate, List.length_cons, List.length_nil]
      have := (List.getElem?_eq_some_iff.1 e).1
      simp at this
      omega
    · simp [h.len]

theorem tail_sim (l : List Int) : ∀ {s : NS} {L : LS} {c : ChgM} {P : List Lab}, Rel s L → LInv c P L → Sy l → l.length ≤ 4 → Rel (tailM s l).1 (tailL L l).1 ∧ (tailM s l).2 = ((tailL L l).2 : Int) := by
  induction l with
  | nil =>
    intro s L c P h hi hs hl
    have hk := h.look hi.ok (x := .T []) ⟨hs, hl⟩ (fun _ _ _ e => by cases e)
    simp only [keyOf] at hk
    unfold tailM tailL
    rw [hk]
    cases hp : posF (Lab.T []) L.labs with
    | some j => exact ⟨h, rfl⟩
    | none =>
      simp only [Option.map_none]
      refine ⟨?_, by simp [h.len]⟩
      have := h.snoc hi.ok (x := .T []) (fun _ _ _ e => by cases e) (fun h => h) L.arcs (L.finals ++ [(L.labs.length : Int)])
      rw [h.len, h.finals]
      exact ⟨this.names, h.arcs, rfl, this.sl, this.st, this.all⟩
  | cons x r ih =>
    intro s L c P h hi hs hl
    have hk := h.look hi.ok (x := .T (x :: r)) ⟨hs, hl⟩ (fun _ _ _ e => by cases e)
    simp only [keyOf] at hk
    unfold tailM tailL
    rw [hk]
    cases hp : posF (Lab.T (x :: r)) L.labs with
    | some j => exact ⟨h, rfl⟩
    | none =>
      simp only [Option.map_none]
      have h0 := h.snoc hi.ok (x := .T (x :: r)) (fun _ _ _ e => by cases e) (fun h => h) L.arcs L.finals
      rw [← h.arcs, ← h.finals] at h0
      obtain ⟨hi2, _⟩ := hi.lab hp (x := .T (x :: r)) ⟨hs, hl⟩ (fun _ _ _ e => by cases e) (by intro e; cases e) (.T (x :: r) :: P) (fun _ h => by simp [h]) (.inr (by simp))
      have h0' : Rel { s with names := s.names ++ [keyB 116 [x :: r]] } { L with labs := L.labs ++ [.T (x :: r)] } := by
        have e1 : s.arcs = L.arcs := h.arcs
        have e2 : s.finals = L.finals := h.finals
        rw [e1, e2] at h0
        have := h0
        simp only [keyOf] at this
        refine ⟨this.names, h.arcs, h.finals, this.sl, this.st, this.all⟩
      obtain ⟨h1, h2⟩ := ih h0' hi2 (fun z hz => hs z (by simp [hz])) (by simp at hl; omega)
      refine ⟨?_, by simp [h.len]⟩
      rw [h.len, h2]
      exact h1.arcs_ _

theorem writes_sim {s : NS} {L : LS} {c : ChgM} {P : List Lab} (h : Rel s L) (hi : LInv c P L) {o i : List Int} {b : Int} (hg : GoodLab (.W o i b)) {j : Nat} (hj : posF (.S o i) L.labs = some j) :
    Rel (writesM s j b).1 (writesL L o i j b).1 ∧ (writesM s j b).2 = ((writesL L o i j b).2 : Int) := by
  have hb : BackOK L.labs (.W o i b) := fun o' i' b' e => by injection e with e1 e2 e3; subst e1 e2; exact List.mem_of_getElem? (posF_get hj)
  have hk := h.look hi.ok hg hb
  simp only [keyOf, hj, Option.getD_some] at hk
  unfold writesM writesL
  rw [hk]
  cases hp : posF (Lab.W o i b) L.labs with
  | some n => exact ⟨h, rfl⟩
  | none =>
    simp only [Option.map_none]
    refine ⟨?_, by simp [h.len]⟩
    have := h.snoc hi.ok hb (fun h => h) (L.arcs ++ [⟨L.labs.length, j, 0, b⟩]) L.finals
    simp only [keyOf, hj, Option.getD_some] at this
    rw [h.len, h.arcs]
    rw [← h.finals] at this
    exact ⟨this.names, rfl, h.finals, this.sl, this.st, this.all⟩
end Go.Proofs.Ytglmlbmjppblbaa
