/- Plain: the netter's names as labels. -/
import Derived.Test.YtglmlbmjppblbaaL
namespace Go.Proofs.Ytglmlbmjppblbaa
open Go.Kap

/-! ### Places in a list -/
section
variable {α : Type} [DecidableEq α]
def posF (x : α) : List α → Option Nat
  | [] => none
  | y :: r => if x = y then some 0 else (posF x r).map (· + 1)
theorem posF_get {x : α} : ∀ {l : List α} {i : Nat}, posF x l = some i → l[i]? = some x
  | [], _, h => by cases h
  | y :: r, i, h => by
    unfold posF at h
    split at h
    · rename_i e
      injection h with h
      subst h e
      rfl
    · cases hr : posF x r with
      | none => rw [hr] at h; cases h
      | some j =>
        rw [hr] at h
        injection h with h
        subst h
        simpa using posF_get hr
theorem posF_none {x : α} : ∀ {l : List α}, posF x l = none ↔ x ∉ l
  | [] => by simp [posF]
  | y :: r => by
    unfold posF
    by_cases e : x = y
    · simp [e]
    · rw [if_neg e]
      have := posF_none (x := x) (l := r)
      simp [e, this]
theorem posF_mem {x : α} {l : List α} (h : x ∈ l) : ∃ i, posF x l = some i ∧ i < l.length := by
  cases hp : posF x l with
  | none => exact absurd h (posF_none.1 hp)
  | some i => exact ⟨i, rfl, (List.getElem?_eq_some_iff.1 (posF_get hp)).1⟩
theorem posF_lt {x : α} {l : List α} {i : Nat} (h : posF x l = some i) : i < l.length := (List.getElem?_eq_some_iff.1 (posF_get h)).1
theorem posF_app {x : α} : ∀ {l : List α} {i : Nat} (m : List α), posF x l = some i → posF x (l ++ m) = some i
  | [], _, _, h => by cases h
  | y :: r, i, m, h => by
    rw [List.cons_append]
    unfold posF at h ⊢
    split at h
    · rename_i e; rw [if_pos e]; exact h
    · rename_i e
      rw [if_neg e]
      cases hr : posF x r with
      | none => rw [hr] at h; cases h
      | some j => rw [posF_app m hr]; rw [hr] at h; exact h
theorem posF_new {x : α} : ∀ {l : List α}, posF x l = none → posF x (l ++ [x]) = some l.length
  | [], _ => by simp [posF]
  | y :: r, h => by
    rw [List.cons_append]
    unfold posF at h ⊢
    split at h
    · cases h
    · rename_i e
      rw [if_neg e]
      have : posF x r = none := by
        cases hr : posF x r with
        | none => rfl
        | some j => rw [hr] at h; cases h
      rw [posF_new this]
      simp
theorem posF_inj {x : α} {l : List α} (hn : l.Nodup) {i : Nat} (h : l[i]? = some x) : posF x l = some i := by
  obtain ⟨j, hj, hlt⟩ := posF_mem (List.mem_of_getElem? h)
  have h2 := posF_get hj
  have hi := (List.getElem?_eq_some_iff.1 h).1
  have : i = j := by
    have e : l[i]? = l[j]? := h.trans h2.symm
    exact (List.getElem?_inj hi hn).1 e
  rw [hj, this]
omit [DecidableEq α] in
theorem nodup_snoc {x : α} {l : List α} (h : l.Nodup) (hx : x ∉ l) : (l ++ [x]).Nodup := by
  rw [List.nodup_append]
  exact ⟨h, by simp, fun a ha b hb e => by simp at hb; subst hb; subst e; exact hx ha⟩
theorem pigeon : ∀ {l U : List α}, l.Nodup → (∀ x ∈ l, x ∈ U) → l.length ≤ U.length
  | [], U, _, _ => by simp
  | y :: r, U, h, hs => by
    have hy := hs y (by simp)
    rw [List.nodup_cons] at h
    have := pigeon (l := r) (U := U.erase y) h.2 (fun x hx => (List.mem_erase_of_ne (fun e => h.1 (by rw [← e]; exact hx))).2 (hs x (by simp [hx])))
    rw [List.length_erase_of_mem hy] at this
    have : 0 < U.length := List.length_pos_of_mem hy
    simp
    omega
end
theorem nameFrom_pos (x : List UInt8) : ∀ (l : List (List UInt8)) (i : Int), nameFrom i l x = (posF x l).map fun (j : Nat) => i + (j : Int)
  | [], i => rfl
  | y :: r, i => by
    unfold nameFrom posF
    split
    · simp
    · rw [nameFrom_pos x r]
      cases posF x r <;> simp
      omega
theorem nameAt_pos (l : List (List UInt8)) (x : List UInt8) : nameAt l x = (posF x l).map fun (j : Nat) => (j : Int) := by
  unfold nameAt
  rw [nameFrom_pos]
  cases posF x l <;> simp

/-! ### Bytes -/
def b8 (x : Int) : UInt8 := UInt8.ofNat (byteM x).toNat
theorem byteM_small {x : Int} (h : 0 ≤ x ∧ x ≤ 255) : byteM x = x := by
  unfold byteM IntKind.wrap
  simp [IntKind.bits, IntKind.signed]
  omega
theorem b8_inj {x y : Int} (hx : 0 ≤ x ∧ x ≤ 255) (hy : 0 ≤ y ∧ y ≤ 255) (h : b8 x = b8 y) : x = y := by
  unfold b8 at h
  rw [byteM_small hx, byteM_small hy] at h
  have := congrArg UInt8.toNat h
  simp at this
  omega
theorem keyB_eq (k : Int) (ls : List (List Int)) : keyB k ls = UInt8.ofNat k.toNat :: ls.flatMap fun l => (0 : UInt8) :: l.map b8 := by
  unfold keyB keyM
  simp only [List.map_cons, List.map_flatMap, List.cons.injEq, true_and]
  congr 1
  funext l
  simp [keyTail, b8, Function.comp_def]
theorem map_b8_inj : ∀ {l m : List Int}, (∀ x ∈ l, 0 ≤ x ∧ x ≤ 255) → (∀ x ∈ m, 0 ≤ x ∧ x ≤ 255) → l.map b8 = m.map b8 → l = m
  | [], [], _, _, _ => rfl
  | [], _ :: _, _, _, h => by simp at h
  | _ :: _, [], _, _, h => by simp at h
  | x :: l, y :: m, hl, hm, h => by
    simp only [List.map_cons, List.cons.injEq] at h
    rw [b8_inj (hl x (by simp)) (hm y (by simp)) h.1, map_b8_inj (fun z hz => hl z (by simp [hz])) (fun z hz => hm z (by simp [hz])) h.2]
theorem split_zero : ∀ {a a' b b' : List UInt8}, 0 ∉ a → 0 ∉ a' → a ++ 0 :: b = a' ++ 0 :: b' → a = a' ∧ b = b'
  | [], [], _, _, _, _, h => by simpa using h
  | [], y :: a', _, _, _, h2, h => by
    simp at h
    exact absurd h.1 (fun e => h2 (by simp [← e]))
  | x :: a, [], _, _, h1, _, h => by
    simp at h
    exact absurd h.1 (fun e => h1 (by simp [e]))
  | x :: a, y :: a', _, _, h1, h2, h => by
    simp only [List.cons_append, List.cons.injEq] at h
    have := split_zero (fun hh => h1 (by simp [hh])) (fun hh => h2 (by simp [hh])) h.2
    exact ⟨by rw [h.1, this.1], this.2⟩

/-- Symbols. -/
def Sy (l : List Int) : Prop := ∀ x ∈ l, 1 ≤ x ∧ x ≤ 4
theorem Sy.byte {l : List Int} (h : Sy l) : ∀ x ∈ l, 0 ≤ x ∧ x ≤ 255 := fun x hx => by have := h x hx; omega
theorem Sy.zero {l : List Int} (h : Sy l) : (0 : UInt8) ∉ l.map b8 := by
  intro hm
  rw [List.mem_map] at hm
  obtain ⟨x, hx, e⟩ := hm
  have := h x hx
  have := b8_inj (by omega) (by omega) (e.trans (show (0 : UInt8) = b8 0 by decide))
  omega
theorem Sy.app {l m : List Int} (h : Sy l) (k : Sy m) : Sy (l ++ m) := fun x hx => by
  rw [List.mem_append] at hx
  exact hx.elim (h x) (k x)
theorem Sy.drop {l : List Int} (h : Sy l) (n : Nat) : Sy (l.drop n) := fun x hx => h x (List.mem_of_mem_drop hx)
theorem Sy.take {l : List Int} (h : Sy l) (n : Nat) : Sy (l.take n) := fun x hx => h x (List.mem_of_mem_take hx)
theorem Sy.nil : Sy [] := fun x hx => by cases hx
theorem Sy.one {x : Int} (h : 1 ≤ x ∧ x ≤ 4) : Sy [x] := fun y hy => by simp at hy; subst hy; exact h

/-! ### Labels -/
inductive Lab where
  | S (o i : List Int)
  | T (l : List Int)
  | W (o i : List Int) (b : Int)
  deriving DecidableEq

def keyOf (labs : List Lab) : Lab → List UInt8
  | .S o i => keyB 115 [o, i]
  | .T l => keyB 116 [l]
  | .W o i b => keyB 119 [[(((posF (.S o i) labs).getD 0 : Nat) : Int) / 64, (((posF (.S o i) labs).getD 0 : Nat) : Int) % 64, b]]

/-- A label that may come up. -/
def GoodLab : Lab → Prop
  | .S o i => Sy o ∧ Sy i ∧ o.length ≤ 2 ∧ i.length ≤ 2
  | .T l => Sy l ∧ l.length ≤ 4
  | .W o i b => Sy o ∧ Sy i ∧ o.length ≤ 2 ∧ i.length ≤ 2 ∧ 1 ≤ b ∧ b ≤ 4

def upTo : Nat → List (List Int)
  | 0 => [[]]
  | n + 1 => [] :: (upTo n).flatMap fun l => [1 :: l, 2 :: l, 3 :: l, 4 :: l]
theorem mem_upTo : ∀ (n : Nat) {l : List Int}, Sy l → l.length ≤ n → l ∈ upTo n
  | 0, l, _, h => by
    have : l = [] := List.eq_nil_of_length_eq_zero (by omega)
    simp [upTo, this]
  | n + 1, [], _, _ => by simp [upTo]
  | n + 1, x :: l, hs, h => by
    have h1 := mem_upTo n (l := l) (fun z hz => hs z (by simp [hz])) (by simp at h; omega)
    have h2 := hs x (by simp)
    simp only [upTo, List.mem_cons, List.mem_flatMap]
    refine .inr ⟨l, h1, ?_⟩
    rcases (by omega : x = 1 ∨ x = 2 ∨ x = 3 ∨ x = 4) with e | e | e | e <;> simp [e]
def uLab : List Lab :=
  ((upTo 2).flatMap fun o => (upTo 2).map fun i => .S o i) ++ (upTo 4).map .T ++ (upTo 2).flatMap fun o => (upTo 2).flatMap fun i => [.W o i 1, .W o i 2, .W o i 3, .W o i 4]
theorem uLab_len : uLab.length = 2546 := by decide +kernel
theorem mem_uLab {x : Lab} (h : GoodLab x) : x ∈ uLab := by
  unfold uLab
  rw [List.mem_append, List.mem_append]
  cases x with
  | S o i =>
    obtain ⟨h1, h2, h3, h4⟩ := h
    exact .inl (.inl (List.mem_flatMap.2 ⟨o, mem_upTo 2 h1 h3, List.mem_map.2 ⟨i, mem_upTo 2 h2 h4, rfl⟩⟩))
  | T l =>
    exact .inl (.inr (List.mem_map.2 ⟨l, mem_upTo 4 h.1 h.2, rfl⟩))
  | W o i b =>
    obtain ⟨h1, h2, h3, h4, h5, h6⟩ := h
    refine .inr (List.mem_flatMap.2 ⟨o, mem_upTo 2 h1 h3, List.mem_flatMap.2 ⟨i, mem_upTo 2 h2 h4, ?_⟩⟩)
    rcases (by omega : b = 1 ∨ b = 2 ∨ b = 3 ∨ b = 4) with e | e | e | e <;> simp [e]

/-- A table of labels. -/
structure LabOK (labs : List Lab) : Prop where
  nodup : labs.Nodup
  good : ∀ x ∈ labs, GoodLab x
  back : ∀ o i b, Lab.W o i b ∈ labs → Lab.S o i ∈ labs
theorem LabOK.len {labs : List Lab} (h : LabOK labs) : labs.length ≤ 2546 := by
  have := pigeon h.nodup (fun x hx => mem_uLab (h.good x hx))
  rwa [uLab_len] at this
theorem LabOK.snoc {labs : List Lab} (h : LabOK labs) {x : Lab} (hx : x ∉ labs) (hg : GoodLab x) (hb : ∀ o i b, x = .W o i b → Lab.S o i ∈ labs) : LabOK (labs ++ [x]) := by
  refine ⟨nodup_snoc h.nodup hx, fun y hy => ?_, fun o i b hy => ?_⟩
  · rw [List.mem_append] at hy
    rcases hy with hy | hy
    · exact h.good y hy
    · simp at hy; subst hy; exact hg
  · rw [List.mem_append] at hy ⊢
    rcases hy with hy | hy
    · exact .inl (h.back _ _ _ hy)
    · simp at hy; exact .inl (hb _ _ _ hy.symm)

theorem flat1 (f : List Int → List UInt8) (a : List Int) : [a].flatMap f = f a := by simp
theorem flat2 (f : List Int → List UInt8) (a b : List Int) : [a, b].flatMap f = f a ++ f b := by simp

theorem keyOf_inj {labs : List Lab} (h : LabOK labs) {x y : Lab} (hx : GoodLab x) (hy : GoodLab y) (hbx : ∀ o i b, x = .W o i b → Lab.S o i ∈ labs) (hby : ∀ o i b, y = .W o i b → Lab.S o i ∈ labs) (e : keyOf labs x = keyOf labs y) : x = y := by
  have hlen := h.len
  cases x with
  | S o i =>
    cases y with
    | S o' i' =>
      simp only [keyOf, keyB_eq, flat2, List.cons.injEq, true_and, List.cons_append] at e
      obtain ⟨e1, e2⟩ := split_zero hx.1.zero hy.1.zero e
      rw [map_b8_inj hx.1.byte hy.1.byte e1, map_b8_inj hx.2.1.byte hy.2.1.byte e2]
    | T l => simp only [keyOf, keyB_eq, List.cons.injEq] at e; exact absurd e.1 (by decide)
    | W _ _ _ => simp only [keyOf, keyB_eq, List.cons.injEq] at e; exact absurd e.1 (by decide)
  | T l =>
    cases y with
    | S _ _ => simp only [keyOf, keyB_eq, List.cons.injEq] at e; exact absurd e.1 (by decide)
    | T l' =>
      simp only [keyOf, keyB_eq, flat1, List.cons.injEq, true_and] at e
      rw [map_b8_inj hx.1.byte hy.1.byte e]
    | W _ _ _ => simp only [keyOf, keyB_eq, List.cons.injEq] at e; exact absurd e.1 (by decide)
  | W o i b =>
    cases y with
    | S _ _ => simp only [keyOf, keyB_eq, List.cons.injEq] at e; exact absurd e.1 (by decide)
    | T l => simp only [keyOf, keyB_eq, List.cons.injEq] at e; exact absurd e.1 (by decide)
    | W o' i' b' =>
      obtain ⟨n, hn, hnl⟩ := posF_mem (hbx _ _ _ rfl)
      obtain ⟨m, hm, hml⟩ := posF_mem (hby _ _ _ rfl)
      simp only [keyOf, keyB_eq, flat1, List.cons.injEq, true_and, hn, hm, Option.getD_some] at e
      have := map_b8_inj (by
        intro z hz
        simp at hz
        obtain ⟨_, _, _, _, h5, h6⟩ := hx
        rcases hz with rfl | rfl | rfl <;> omega) (by
        intro z hz
        simp at hz
        obtain ⟨_, _, _, _, h5, h6⟩ := hy
        rcases hz with rfl | rfl | rfl <;> omega) e
      simp only [List.cons.injEq, and_true] at this
      have hnm : n = m := by omega
      subst hnm
      have hs := (posF_get hn).symm.trans (posF_get hm)
      injection hs with hs
      injection hs with h1 h2
      rw [h1, h2, this.2.2]
end Go.Proofs.Ytglmlbmjppblbaa
