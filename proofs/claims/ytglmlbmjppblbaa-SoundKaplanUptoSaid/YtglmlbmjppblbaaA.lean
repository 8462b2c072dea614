/- Words for memory: slices that read as lists of ints. -/
import Derived.Test.YtglmlbmjppblbaaRows
import Derived.Test.YtglmlbmjppblbaaG
namespace Go.Proofs.Ytglmlbmjppblbaa
open Go.RowKit Go.Kap

/-- The slice (address A, length n) reads as the ints xs, in blocks below B. -/
def Ints (w : World) (B : Nat) (A : Option Addr) (n c : Nat) (xs : List Int) : Prop :=
  xs.length = n ∧ (n ≤ 4611686018427387904 ∧ n ≤ c ∧ c ≤ 9223372036854775807) ∧ (0 < n → ∃ b off, A = some ⟨b, off, none⟩ ∧ b < B ∧ ∀ j, j < n → w.cell? ⟨b, off + j, none⟩ = some (.int .i64 (xs.getD j 0)))

def within (xs : List Int) (m : Int) : Bool := xs.all fun x => decide (1 ≤ x) && decide (x ≤ m)

theorem within_take (xs : List Int) (m : Int) (k : Nat) (h : k < xs.length) : within (xs.take (k + 1)) m = (within (xs.take k) m && (decide (1 ≤ xs.getD k 0) && decide (xs.getD k 0 ≤ m))) := by
  unfold within
  rw [List.take_succ_eq_append_getElem h, List.all_append]
  simp [List.getD, h]

theorem within_false (xs : List Int) (m : Int) (k : Nat) (h : k < xs.length) (hx : (decide (1 ≤ xs.getD k 0) && decide (xs.getD k 0 ≤ m)) = false) : within xs m = false := by
  unfold within
  rw [List.all_eq_false]
  refine ⟨xs.getD k 0, ?_, by simp only [hx]; decide⟩
  rw [List.getD_eq_getElem?_getD, List.getElem?_eq_getElem h]; exact List.getElem_mem h

theorem ret_int {k : IntKind} {a b : Int} (h : a = b) : Ending.returned (.int k a) = .returned (.int k b) := by rw [h]
theorem ret_bool {a b : Bool} (h : a = b) : Ending.returned (.bool a) = .returned (.bool b) := by rw [h]

theorem Ints.keep {w w' : World} {B n c : Nat} {A : Option Addr} {xs : List Int} (h : Ints w B A n c xs) (hk : ∀ p : Addr, p.block < B → w'.cell? p = w.cell? p) : Ints w' B A n c xs :=
  ⟨h.1, h.2.1, fun hn => by
    obtain ⟨b, off, e, hb, hc⟩ := h.2.2 hn
    exact ⟨b, off, e, hb, fun j hj => (hk _ hb).trans (hc j hj)⟩⟩
theorem Ints.more {w : World} {B B' n c : Nat} {A : Option Addr} {xs : List Int} (h : Ints w B A n c xs) (hB : B ≤ B') : Ints w B' A n c xs :=
  ⟨h.1, h.2.1, fun hn => by
    obtain ⟨b, off, e, hb, hc⟩ := h.2.2 hn
    exact ⟨b, off, e, by omega, hc⟩⟩
theorem Ints.below {w w' : World} {B n c : Nat} {A : Option Addr} {xs : List Int} (h : Ints w B A n c xs) (hb : Below B w w') : Ints w' B A n c xs := h.keep fun _ hp => hb.cell hp
theorem Ints.below' {w w' : World} {B n c : Nat} {A : Option Addr} {xs : List Int} (h : Ints w B A n c xs) (hb : Below B w w') (hs : B ≤ w'.heap.size) : Ints w' w'.heap.size A n c xs := (h.below hb).more hs
theorem Ints.new_ {w w' : World} {n c : Nat} {A : Option Addr} {xs : List Int} (h : Ints w w.heap.size A n c xs) (hb : New w w') : Ints w' w'.heap.size A n c xs := (h.below hb).more hb.size
theorem Ints.nil_ (w : World) (B : Nat) (A : Option Addr) : Ints w B A 0 0 [] := ⟨rfl, by omega, fun h => absurd h (by omega)⟩

theorem Ints.src {w : World} {B n c : Nat} {A : Option Addr} {xs : List Int} (h : Ints w B A n c xs) : Src w A n 1 (xs.map (.int .i64)) := by
  obtain ⟨h1, h2, h3⟩ := h
  refine ⟨by simp [h1], ints_oneCell _ _, fun hn => ?_⟩
  obtain ⟨b, off, rfl, hb, hc⟩ := h3 hn
  refine ⟨_, rfl, fun j u hu => ?_⟩
  rw [List.getElem?_map] at hu
  have hj : j < n := by
    rcases Nat.lt_or_ge j n with h | h
    · exact h
    · rw [List.getElem?_eq_none (by omega)] at hu; cases hu
  rw [Addr.add_lit, hc j hj]
  rw [List.getElem?_eq_getElem (by omega)] at hu
  simp at hu
  rw [← hu]
  simp [List.getD, h1, hj]
theorem Row.ints {w : World} {base n : Nat} {v : Value} {xs : List Int} (h : Row w base 3 1 v n (xs.map (.int .i64))) (hn : n ≤ 4611686018427387904) : ∃ A c, v = .slice A n c ∧ Ints w w.heap.size A n c xs := by
  obtain ⟨A, c, rfl, h1, h2, h3⟩ := h.len
  have hl : xs.length = n := by have := h.1; simpa using this
  refine ⟨A, c, rfl, hl, ⟨hn, h1, h2⟩, fun h0 => ?_⟩
  obtain ⟨g, off, rfl, _, hg, hc⟩ := h.cell h0
  refine ⟨g, off, rfl, hg, fun j hj => ?_⟩
  rw [hc j (by omega)]
  simp [List.getD, hl, hj]

theorem within_any (A : Option Addr) (n c : Nat) (xs : List Int) (m : Int) (w : World) (h : Ints w w.heap.size A n c xs) :
    Calls Try.prog 9 #[.slice A n c, .int .i64 m] w fun e w' => e = .returned (.bool (within xs m)) ∧ w = w' := by
  obtain ⟨hn, hb, h⟩ := h
  have HN := Lib.hid hn
  clear hn
  go_enter Try.func9, Try.ntmps9
  go_wp2
  go_loop [5] (fun i => ∃ k : Nat, k ≤ n ∧ i = .int .i64 k ∧ within (xs.take k) m = true) (fun i => n - (intOf i).toNat)
  case atStart => exact ⟨0, Nat.zero_le _, rfl, by simp [within]⟩
  case round =>
    obtain ⟨k, hk, rfl, hw⟩ := hrel
    have HW := Lib.hid hw
    clear hw
    by_cases hlt : k < n
    · obtain ⟨b, off, rfl, hbB, hc⟩ := h (by omega)
      have hck := hc k hlt
      generalize hx : xs.getD k 0 = x at hck
      have HX := Lib.hid hx
      clear hx hc h
      have HT := Lib.hid (within_take xs m k (by rw [HN.out]; exact hlt))
      have HF := Lib.hid (within_false xs m k (by rw [HN.out]; exact hlt))
      by_cases h1 : x < 1
      · go_wp2
        go_ret
        exact ⟨ret_bool (by rw [HF.out]; rw [HX.out]; simp; omega), rfl⟩
      · by_cases h2 : m < x
        · go_wp2
          go_ret
          exact ⟨ret_bool (by rw [HF.out]; rw [HX.out]; simp; omega), rfl⟩
        · go_wp2
          go_round
          case rel => exact ⟨k + 1, by omega, by go_num, by rw [HT.out, HW.out, HX.out]; simp; omega⟩
          case measure => simp [intOf]; omega
    · go_wp2
      go_ret
      have : k = n := by omega
      subst this
      refine ⟨ret_bool ?_, rfl⟩
      have := HW.out
      rw [List.take_of_length_le (by rw [HN.out]; omega)] at this
      rw [this]
end Go.Proofs.Ytglmlbmjppblbaa
