/- Leaf functions: equality, membership, ranges. -/
import Derived.Test.YtglmlbmjppblbaaA
namespace Go.Proofs.Ytglmlbmjppblbaa
open Go.RowKit Go.Kap

theorem take_same {xs ys : List Int} {k n : Nat} (hx : xs.length = n) (hy : ys.length = n) (hk : k < n) (h : xs.take k = ys.take k) (he : xs.getD k 0 = ys.getD k 0) : xs.take (k + 1) = ys.take (k + 1) := by
  rw [List.take_succ_eq_append_getElem (by omega), List.take_succ_eq_append_getElem (by omega), h]
  have h1 : xs.getD k 0 = xs[k]'(by omega) := by simp [List.getD, show k < xs.length by omega]
  have h2 : ys.getD k 0 = ys[k]'(by omega) := by simp [List.getD, show k < ys.length by omega]
  rw [← h1, ← h2, he]
theorem ne_of_getD {xs ys : List Int} {k : Nat} (he : xs.getD k 0 ≠ ys.getD k 0) : decide (xs = ys) = false := by
  rw [decide_eq_false_iff_not]
  rintro rfl
  exact he rfl

theorem same_any (A C : Option Addr) (n c m d : Nat) (xs ys : List Int) (w : World) (h : Ints w w.heap.size A n c xs) (h' : Ints w w.heap.size C m d ys) :
    Calls Try.prog 10 #[.slice A n c, .slice C m d] w fun e w' => e = .returned (.bool (decide (xs = ys))) ∧ ∃ q, w' = w.drewN q := by
  obtain ⟨hn, hb, h⟩ := h
  obtain ⟨hn', hb', h'⟩ := h'
  have HN := Lib.hid hn
  have HN' := Lib.hid hn'
  clear hn hn'
  by_cases hnm : n = m
  · subst hnm
    go_enter Try.func10, Try.ntmps10
    go_wp2
    go_loopw [5] (fun i wr => ∃ k : Nat, k ≤ n ∧ i = .int .i64 k ∧ xs.take k = ys.take k ∧ ∃ q, wr = w.drewN q) (fun i _ => n - (intOf i).toNat)
    case atStart => exact ⟨0, Nat.zero_le _, rfl, rfl, 0, rfl⟩
    case round =>
      obtain ⟨k, hk, rfl, hw, q, rfl⟩ := hrel
      have HW := Lib.hid hw
      clear hw
      by_cases hlt : k < n
      · obtain ⟨b, off, rfl, hbB, hc⟩ := h (by omega)
        obtain ⟨b', off', rfl, hbB', hc'⟩ := h' (by omega)
        have hck := hc k hlt
        have hck' := hc' k hlt
        generalize hx : xs.getD k 0 = x at hck
        generalize hy : ys.getD k 0 = y at hck'
        have HX := Lib.hid hx
        have HY := Lib.hid hy
        clear hx hy hc hc' h h'
        have hkk : (k : Int) < (n : Int) := by omega
        by_cases hxy : x = y
        · subst hxy
          go_wp2
          go_quiet (fail)
          go_wp2
          go_roundw
          case rel => exact ⟨k + 1, by omega, by go_num, take_same HN.out HN'.out hlt HW.out (by rw [HX.out, HY.out]), _, rfl⟩
          case measure => simp [intOf]; omega
        · have hne : (x != y) = true := by simpa using hxy
          have HXY := Lib.hid hxy
          clear hxy
          go_wp2
          go_quiet (fail)
          go_wp2
          go_ret
          exact ⟨ret_bool (ne_of_getD (k := k) (by rw [HX.out, HY.out]; exact HXY.out)).symm, q + nq, World.drewN_drewN ..⟩
      · go_wp2
        go_ret
        have : k = n := by omega
        subst this
        refine ⟨ret_bool ?_, _, rfl⟩
        have := HW.out
        rw [List.take_of_length_le (by rw [HN.out]; omega), List.take_of_length_le (by rw [HN'.out]; omega)] at this
        simp [this]
  · have hne : ((n : Int) != (m : Int)) = true := bne_iff_ne.2 (by omega)
    have HNM := Lib.hid hnm
    clear hnm
    go_enter Try.func10, Try.ntmps10
    go_wp2
    go_ret
    refine ⟨ret_bool ?_, 0, rfl⟩
    symm
    rw [decide_eq_false_iff_not]
    rintro rfl
    exact HNM.out (HN.out.symm.trans HN'.out)
theorem equal_any (A C : Option Addr) (n c m d : Nat) (xs ys : List Int) (w : World) (h : Ints w w.heap.size A n c xs) (h' : Ints w w.heap.size C m d ys) :
    Calls Try.prog 50 #[.slice A n c, .slice C m d] w fun e w' => e = .returned (.bool (decide (xs = ys))) ∧ ∃ q, w' = w.drewN q := by
  obtain ⟨hn, hb, h⟩ := h
  obtain ⟨hn', hb', h'⟩ := h'
  have HN := Lib.hid hn
  have HN' := Lib.hid hn'
  clear hn hn'
  by_cases hnm : n = m
  · subst hnm
    go_enter Try.func50, Try.ntmps50
    go_wp2
    go_loopw [13] (fun i wr => ∃ k : Nat, k ≤ n ∧ i = .int .i64 k ∧ xs.take k = ys.take k ∧ ∃ q, wr = w.drewN q) (fun i _ => n - (intOf i).toNat)
    case atStart => exact ⟨0, Nat.zero_le _, rfl, rfl, 0, rfl⟩
    case round =>
      obtain ⟨k, hk, rfl, hw, q, rfl⟩ := hrel
      have HW := Lib.hid hw
      clear hw
      by_cases hlt : k < n
      · obtain ⟨b, off, rfl, hbB, hc⟩ := h (by omega)
        obtain ⟨b', off', rfl, hbB', hc'⟩ := h' (by omega)
        have hck := hc k hlt
        have hck' := hc' k hlt
        generalize hx : xs.getD k 0 = x at hck
        generalize hy : ys.getD k 0 = y at hck'
        have HX := Lib.hid hx
        have HY := Lib.hid hy
        clear hx hy hc hc' h h'
        have hkk : (k : Int) < (n : Int) := by omega
        by_cases hxy : x = y
        · subst hxy
          go_wp2
          go_quiet (fail)
          go_wp2
          go_roundw
          case rel => exact ⟨k + 1, by omega, by go_num, take_same HN.out HN'.out hlt HW.out (by rw [HX.out, HY.out]), _, rfl⟩
          case measure => simp [intOf]; omega
        · have hne : (x != y) = true := by simpa using hxy
          have HXY := Lib.hid hxy
          clear hxy
          go_wp2
          go_quiet (fail)
          go_wp2
          go_ret
          exact ⟨ret_bool (ne_of_getD (k := k) (by rw [HX.out, HY.out]; exact HXY.out)).symm, q + nq, World.drewN_drewN ..⟩
      · go_wp2
        go_ret
        have : k = n := by omega
        subst this
        refine ⟨ret_bool ?_, _, rfl⟩
        have := HW.out
        rw [List.take_of_length_le (by rw [HN.out]; omega), List.take_of_length_le (by rw [HN'.out]; omega)] at this
        simp [this]
  · have hne : ((n : Int) != (m : Int)) = true := bne_iff_ne.2 (by omega)
    have HNM := Lib.hid hnm
    clear hnm
    go_enter Try.func50, Try.ntmps50
    go_wp2
    go_ret
    refine ⟨ret_bool ?_, 0, rfl⟩
    symm
    rw [decide_eq_false_iff_not]
    rintro rfl
    exact HNM.out (HN.out.symm.trans HN'.out)

/-- The first place of t in a list; -1: none. -/
def idx (t : Int) : List Int → Int
  | [] => -1
  | x :: r => if t = x then 0 else (let k := idx t r; if k < 0 then -1 else k + 1)
theorem idx_nonneg (t : Int) (xs : List Int) : (decide (0 ≤ idx t xs)) = decide (t ∈ xs) := by
  induction xs with
  | nil => simp [idx]
  | cons x r ih =>
    simp only [idx]
    by_cases h : t = x
    · simp [h]
    · rw [if_neg h]
      simp only [List.mem_cons, h, false_or]
      rw [← ih]
      by_cases hk : idx t r < 0
      · rw [if_pos hk]; simp; omega
      · rw [if_neg hk]; simp; omega
theorem idx_hit (t : Int) (xs : List Int) (k : Nat) (hk : k < xs.length) (hn : t ∉ xs.take k) (he : t = xs.getD k 0) : idx t xs = k := by
  induction xs generalizing k with
  | nil => simp at hk
  | cons x r ih =>
    cases k with
    | zero => simp at he; simp [idx, he]
    | succ k =>
      simp at hn
      have := ih k (by simpa using hk) hn.2 (by simpa using he)
      simp only [idx]
      rw [if_neg hn.1, this, if_neg (by omega)]
      omega
theorem idx_miss (t : Int) (xs : List Int) (hn : t ∉ xs) : idx t xs = -1 := by
  induction xs with
  | nil => rfl
  | cons x r ih =>
    simp at hn
    simp only [idx]
    rw [if_neg hn.1, ih hn.2]
    simp
theorem not_mem_take_succ {t : Int} {xs : List Int} {k : Nat} (hk : k < xs.length) (h : t ∉ xs.take k) (he : t ≠ xs.getD k 0) : t ∉ xs.take (k + 1) := by
  rw [List.take_succ_eq_append_getElem hk]
  simp only [List.mem_append, List.mem_singleton, not_or]
  exact ⟨h, by have : xs.getD k 0 = xs[k] := by simp [List.getD, hk]
               rw [← this]; exact he⟩

theorem index_any (A : Option Addr) (n c : Nat) (xs : List Int) (t : Int) (w : World) (h : Ints w w.heap.size A n c xs) :
    Calls Try.prog 53 #[.slice A n c, .int .i64 t] w fun e w' => e = .returned (.int .i64 (idx t xs)) ∧ w = w' := by
  obtain ⟨hn, hb, h⟩ := h
  have HN := Lib.hid hn
  clear hn
  go_enter Try.func53, Try.ntmps53
  go_wp2
  go_loop [8] (fun i => ∃ k : Nat, k ≤ n ∧ i = .int .i64 k ∧ t ∉ xs.take k) (fun i => n - (intOf i).toNat)
  case atStart => exact ⟨0, Nat.zero_le _, rfl, by simp⟩
  case round =>
    obtain ⟨k, hk, rfl, hw⟩ := hrel
    have HW := Lib.hid hw
    clear hw
    by_cases hlt : k < n
    · obtain ⟨b, off, rfl, hbB, hc⟩ := h (by omega)
      have hck := hc k hlt
      generalize hx : xs.getD k 0 = x at hck
      have HX := Lib.hid hx
      clear hx hc h
      by_cases h1 : t = x
      · have H1 := Lib.hid h1
        have h2 : (t == x) = true := by simpa using h1
        clear h1
        go_wp2
        go_ret
        exact ⟨ret_int (idx_hit t xs k (by rw [HN.out]; exact hlt) HW.out (by rw [HX.out]; exact H1.out)).symm, rfl⟩
      · have H1 := Lib.hid h1
        have h2 : (t == x) = false := by simpa using h1
        clear h1
        go_wp2
        go_round
        case rel => exact ⟨k + 1, by omega, by go_num, not_mem_take_succ (by rw [HN.out]; exact hlt) HW.out (by rw [HX.out]; exact H1.out)⟩
        case measure => simp [intOf]; omega
    · go_wp2
      go_ret
      have : k = n := by omega
      subst this
      refine ⟨ret_int ?_, rfl⟩
      have := HW.out
      rw [List.take_of_length_le (by rw [HN.out]; omega)] at this
      exact (idx_miss t xs this).symm

theorem contains_any (A : Option Addr) (n c : Nat) (xs : List Int) (t : Int) (w : World) (h : Ints w w.heap.size A n c xs) :
    Calls Try.prog 52 #[.slice A n c, .int .i64 t] w fun e w' => e = .returned (.bool (decide (t ∈ xs))) ∧ w = w' := by
  have HI := Lib.hid (idx_nonneg t xs)
  go_enter Try.func52, Try.ntmps52
  go_wp2_with fail
  refine (index_any A n c xs t _ h).mono ?_
  rintro e w' ⟨rfl, rfl⟩
  generalize idx t xs = z at *
  go_wp2_with fail
  go_ret
  exact ⟨ret_bool HI.out, rfl⟩

/-- The first place at which p holds; -1: none. -/
def fidx {α : Type} (p : α → Bool) : List α → Int
  | [] => -1
  | x :: r => if p x then 0 else (let k := fidx p r; if k < 0 then -1 else k + 1)
theorem fidx_nonneg {α : Type} (p : α → Bool) (xs : List α) : (decide (0 ≤ fidx p xs)) = xs.any p := by
  induction xs with
  | nil => simp [fidx]
  | cons x r ih =>
    simp only [fidx]
    by_cases h : p x = true
    · simp [h]
    · rw [if_neg h]
      simp only [List.any_cons]
      rw [← ih]
      have h' : p x = false := by simpa using h
      rw [h']
      by_cases hk : fidx p r < 0
      · rw [if_pos hk]; simp; omega
      · rw [if_neg hk]; simp; omega
theorem fidx_hit {α : Type} (p : α → Bool) (xs : List α) (k : Nat) (hk : k < xs.length) (hn : (xs.take k).any p = false) (he : p xs[k] = true) : fidx p xs = k := by
  induction xs generalizing k with
  | nil => simp at hk
  | cons x r ih =>
    cases k with
    | zero => simp at he; simp [fidx, he]
    | succ k =>
      simp only [List.take_succ_cons, List.any_cons, Bool.or_eq_false_iff] at hn
      have := ih k (by simpa using hk) hn.2 (by simpa using he)
      simp only [fidx]
      rw [hn.1, this]
      rw [if_neg (by simp), if_neg (by omega)]
      omega
theorem fidx_miss {α : Type} (p : α → Bool) (xs : List α) (hn : xs.any p = false) : fidx p xs = -1 := by
  induction xs with
  | nil => rfl
  | cons x r ih =>
    simp only [List.any_cons, Bool.or_eq_false_iff] at hn
    simp only [fidx]
    rw [hn.1, ih hn.2]
    simp
theorem any_take_succ {α : Type} {p : α → Bool} {xs : List α} {k : Nat} (hk : k < xs.length) (h : (xs.take k).any p = false) (he : p xs[k] = false) : (xs.take (k + 1)).any p = false := by
  rw [List.take_succ_eq_append_getElem hk, List.any_append, h]
  simp [he]
theorem getElem_of_getD {xs : List Int} {k : Nat} (hk : k < xs.length) {x : Int} (h : xs.getD k 0 = x) : xs[k] = x := by
  rw [← h]; simp [List.getD, hk]

/-- slices.IndexFunc over ints, its function a closure that leaves the world alone. -/
theorem indexFunc_any (A : Option Addr) (n c : Nat) (xs : List Int) (p : Int → Bool) (g : FuncId) (cap : Array Value) (w : World) (h : Ints w w.heap.size A n c xs)
    (hg : ∀ x ∈ xs, Calls Try.prog g (#[.int .i64 x] ++ cap) w fun e w' => e = .returned (.bool (p x)) ∧ w = w')
    (hcf : ∀ args w, (callFunc g args).run Try.prog w = .ok (.enter g args) w) :
    Calls Try.prog 47 #[.slice A n c, .func (.func g) #[] cap] w fun e w' => e = .returned (.int .i64 (fidx p xs)) ∧ w = w' := by
  obtain ⟨hn, hb, h⟩ := h
  have HN := Lib.hid hn
  have HG := Lib.hid hg
  clear hn hg
  go_enter Try.func47, Try.ntmps47
  go_wp2
  go_loop [8] (fun i => ∃ k : Nat, k ≤ n ∧ i = .int .i64 k ∧ (xs.take k).any p = false) (fun i => n - (intOf i).toNat)
  case atStart => exact ⟨0, Nat.zero_le _, rfl, by simp⟩
  case round =>
    obtain ⟨k, hk, rfl, hw⟩ := hrel
    have HW := Lib.hid hw
    clear hw
    by_cases hlt : k < n
    · obtain ⟨b, off, rfl, hbB, hc⟩ := h (by omega)
      have hck := hc k hlt
      generalize hx : xs.getD k 0 = x at hck
      have HX := Lib.hid hx
      clear hx hc h
      have hkl : k < xs.length := by rw [HN.out]; exact hlt
      have hmem : x ∈ xs := by rw [← getElem_of_getD hkl HX.out]; exact List.getElem_mem hkl
      have HK := Lib.hid hkl
      have HM := Lib.hid hmem
      clear hkl hmem
      cases hp : p x
      · have HP := Lib.hid hp
        clear hp
        go_wp2_with fail
        refine (HG.out x HM.out).mono ?_
        rw [HP.out]
        rintro e w' ⟨rfl, rfl⟩
        go_wp2
        go_round
        case rel => exact ⟨k + 1, by omega, by go_num, any_take_succ HK.out HW.out (by rw [getElem_of_getD HK.out HX.out]; exact HP.out)⟩
        case measure => simp [intOf]; omega
      · have HP := Lib.hid hp
        clear hp
        go_wp2_with fail
        refine (HG.out x HM.out).mono ?_
        rw [HP.out]
        rintro e w' ⟨rfl, rfl⟩
        go_wp2
        go_ret
        exact ⟨ret_int (fidx_hit p xs k HK.out HW.out (by rw [getElem_of_getD HK.out HX.out]; exact HP.out)).symm, rfl⟩
    · go_wp2
      go_ret
      have : k = n := by omega
      subst this
      refine ⟨ret_int ?_, rfl⟩
      have := HW.out
      rw [List.take_of_length_le (by rw [HN.out]; omega)] at this
      exact (fidx_miss p xs this).symm

theorem call_ok {g : FuncId} {fn : Func} (hf : Try.prog.funcs[g]? = some fn) (hname : (fn.name == "runtime.NumGoroutine") = false) (hb : fn.body.isNone = false) (args : Array Value) (w : World) :
    (callFunc g args).run Try.prog w = .ok (.enter g args) w := by
  have h1 : fn.name ≠ "runtime.NumGoroutine" := by simpa using hname
  have h2 : fn.body ≠ none := by intro h; rw [h] at hb; cases hb
  simp [callFunc, go_sem, hf, h1, h2]
theorem call35 (args : Array Value) (w : World) : (callFunc 35 args).run Try.prog w = .ok (.enter 35 args) w := call_ok Try.func35 (by kernel_rfl) (by kernel_rfl) args w
theorem call44 (args : Array Value) (w : World) : (callFunc 44 args).run Try.prog w = .ok (.enter 44 args) w := call_ok Try.func44 (by kernel_rfl) (by kernel_rfl) args w

theorem containsFunc_any (A : Option Addr) (n c : Nat) (xs : List Int) (p : Int → Bool) (g : FuncId) (cap : Array Value) (w : World) (h : Ints w w.heap.size A n c xs)
    (hg : ∀ x ∈ xs, Calls Try.prog g (#[.int .i64 x] ++ cap) w fun e w' => e = .returned (.bool (p x)) ∧ w = w')
    (hcf : ∀ args w, (callFunc g args).run Try.prog w = .ok (.enter g args) w) :
    Calls Try.prog 34 #[.slice A n c, .func (.func g) #[] cap] w fun e w' => e = .returned (.bool (xs.any p)) ∧ w = w' := by
  have HI := Lib.hid (fidx_nonneg p xs)
  have HG := Lib.hid hg
  have HC := Lib.hid hcf
  clear hg hcf
  go_enter Try.func34, Try.ntmps34
  go_wp2_with fail
  refine (indexFunc_any A n c xs p g cap _ h HG.out HC.out).mono ?_
  rintro e w' ⟨rfl, rfl⟩
  generalize fidx p xs = z at *
  go_wp2_with fail
  go_ret
  exact ⟨ret_bool HI.out, rfl⟩

/-- right's own function literal. -/
theorem rightLit_any (x m : Int) (p : Addr) (w : World) (hm : w.cell? p = some (.int .i64 m)) :
    Calls Try.prog 35 (#[.int .i64 x] ++ #[.pointer (some p)]) w fun e w' => e = .returned (.bool (!(decide (1 ≤ x) && decide (x ≤ m)))) ∧ w = w' := by
  show Calls Try.prog 35 #[.int .i64 x, .pointer (some p)] w _
  by_cases h1 : x < 1
  · go_enter Try.func35, Try.ntmps35
    go_wp2
    go_ret
    exact ⟨ret_bool (by simp; omega), rfl⟩
  · by_cases h2 : m < x
    · go_enter Try.func35, Try.ntmps35
      go_wp2
      go_ret
      exact ⟨ret_bool (by simp; omega), rfl⟩
    · go_enter Try.func35, Try.ntmps35
      go_wp2
      go_ret
      exact ⟨ret_bool (by simp <;> omega), rfl⟩

theorem right_any (A : Option Addr) (n c : Nat) (xs : List Int) (m : Int) (w : World) (h : Ints w w.heap.size A n c xs) :
    Calls Try.prog 13 #[.slice A n c, .int .i64 m] w fun e w' => e = .returned (.bool (within xs m)) ∧ Below w.heap.size w w' := by
  have hW : within xs m = !(xs.any fun x => !(decide (1 ≤ x) && decide (x ≤ m))) := by
    unfold within
    rw [List.not_any_eq_all_not]
    congr 1
    funext x
    simp
  have HW := Lib.hid hW
  clear hW
  have h' : Ints (w.alloc (.cells #[.int .i64 m] 3)) (w.alloc (.cells #[.int .i64 m] 3)).heap.size A n c xs := h.below' ((Below.refl _ _).alloc (Nat.le_refl _) _) (by simp)
  go_enter Try.func13, Try.ntmps13
  go_wp2_with fail
  refine (containsFunc_any A n c xs _ 35 _ _ h' (fun x _ => rightLit_any x m _ _ (by simp [go_sem])) call35).mono ?_
  rintro e w' ⟨rfl, rfl⟩
  generalize xs.any _ = z at *
  go_wp2_with fail
  go_ret
  exact ⟨ret_bool HW.out.symm, (Below.refl _ _).alloc (Nat.le_refl _) _⟩

theorem spokenLit_any (x : Int) (w : World) :
    Calls Try.prog 44 (#[.int .i64 x] ++ #[]) w fun e w' => e = .returned (.bool (!(decide (1 ≤ x) && decide (x ≤ 60)))) ∧ w = w' := by
  show Calls Try.prog 44 #[.int .i64 x] w _
  by_cases h1 : x < 1
  · go_enter Try.func44, Try.ntmps44
    go_wp2
    go_ret
    exact ⟨ret_bool (by simp; omega), rfl⟩
  · by_cases h2 : 60 < x
    · go_enter Try.func44, Try.ntmps44
      go_wp2
      go_ret
      exact ⟨ret_bool (by simp; omega), rfl⟩
    · go_enter Try.func44, Try.ntmps44
      go_wp2
      go_ret
      exact ⟨ret_bool (by simp <;> omega), rfl⟩

theorem spoken_any (A : Option Addr) (n c : Nat) (xs : List Int) (w : World) (h : Ints w w.heap.size A n c xs) :
    Calls Try.prog 24 #[.slice A n c] w fun e w' => e = .returned (.bool (within xs 60)) ∧ w = w' := by
  have hW : within xs 60 = !(xs.any fun x => !(decide (1 ≤ x) && decide (x ≤ 60))) := by
    unfold within
    rw [List.not_any_eq_all_not]
    congr 1
    funext x
    simp
  have HW := Lib.hid hW
  clear hW
  go_enter Try.func24, Try.ntmps24
  go_wp2_with fail
  refine (containsFunc_any A n c xs _ 44 _ _ h (fun x _ => spokenLit_any x _) call44).mono ?_
  rintro e w' ⟨rfl, rfl⟩
  generalize xs.any _ = z at *
  go_wp2_with fail
  go_ret
  exact ⟨ret_bool HW.out.symm, rfl⟩
end Go.Proofs.Ytglmlbmjppblbaa
