/- Sound changes: Concat, Check. -/
import Derived.Test.YtglmlbmjppblbaaD
import Derived.Lib.AppendZeros
namespace Go.Proofs.Ytglmlbmjppblbaa
open Go.RowKit Go.Kap

theorem info45 : (Try.prog.info? 45).map (fun i => (i.zero, i.size, i.bytes)) = some (some (.agg #[.slice none 0 0, .bool false]), 2, 32) := by kernel_rfl
theorem under3 : Try.prog.underlying 3 = some (.int .i64) := by kernel_rfl

set_option maxRecDepth 100000 in
/-- slices.Grow of a nil slice of spots. -/
theorem grow_nil (n : Nat) (w : World) (hn : n ≤ 1099511627776) :
    Calls Try.prog 45 #[.slice none 0 0, .int .i64 n] w (RowPost w w.heap.size 45 2 0 []) := by
  obtain ⟨i0, hi0, hz0, hz1, hz2⟩ := info_parts info45
  by_cases h0 : 0 < n
  · have hr := Lib.run_append_nil_zeros (P := Try.prog) w 23 3 23 45 i0 _ .i64 .i64 Try.underlying23 under3 hi0 hz0 n h0 (by rw [hz1]; omega) (by omega) (by rw [hz2]; omega)
    have hcap := grownCap_ge w n 0 45
    have hcm := grownCap_le_maxLen w n 0 45 (by unfold maxLen; omega)
    generalize hC : grownCap w n 0 45 = C at *
    have HR := Lib.hid hr
    have HC := Lib.hid hC
    clear hC hr
    have hcm' : C ≤ 9223372036854775807 := by unfold maxLen at hcm; omega
    go_enter Try.func45, Try.ntmps45
    go_wp2_with (at_builtin; refine Lib.wpList_append_run _ rfl _ _ 23 3 rfl _ _ rfl rfl _ _ HR.out ?_)
    go_ret
    refine ⟨_, rfl, ⟨by simp, .inr ⟨w.heap.size, 0, C, _, rfl, Nat.le_refl _, heap_alloc_new w.drew _, Nat.zero_le _, hcm, ?_, by simp⟩⟩, (New.refl w).drew_.alloc _⟩
    simp only [Array.size_append, size_zeroCells]
    show 0 + C * 2 ≤ n * 2 + (C - n) * 2
    omega
  · have hn0 : n = 0 := by omega
    subst hn0
    go_enter Try.func45, Try.ntmps45
    go_wp2
    go_ret
    exact ⟨_, rfl, Row.nil_ _ _ _ _, Below.refl _ _⟩

set_option maxRecDepth 100000 in
/-- slices.Concat of two slices of spots. -/
theorem concat_any (b off : Nat) (A A' : Option Addr) (n c n' c' : Nat) (cs cs' : List Value) (w : World) (h1 : w.cell? ⟨b, off, none⟩ = some (.slice A n c)) (h2 : w.cell? ⟨b, off + 1, none⟩ = some (.slice A' n' c'))
    (hs : Src w A n 2 cs) (hs' : Src w A' n' 2 cs') (hn : n ≤ 1048576) (hn' : n' ≤ 1048576) :
    Calls Try.prog 31 #[.slice (some ⟨b, off, none⟩) 2 2] w (RowPost w w.heap.size 45 2 (n + n') (cs ++ cs')) := by
  obtain ⟨i0, hi0, hz0, hz1, hz2⟩ := info_parts info45
  have HS := Lib.hid hs
  have HS' := Lib.hid hs'
  clear hs hs'
  go_enter Try.func31, Try.ntmps31
  go_wp2
  go_loop [3, 11] (fun z i => ∃ k : Nat, k ≤ 2 ∧ i = .int .i64 k ∧ ((k = 0 ∧ z = .int .i64 0) ∨ (k = 1 ∧ z = .int .i64 n) ∨ (k = 2 ∧ z = .int .i64 ((n : Int) + n')))) (fun _ i => 2 - (intOf i).toNat)
  case atStart => exact ⟨0, by omega, rfl, .inl ⟨rfl, rfl⟩⟩
  case round =>
    obtain ⟨k, hk, rfl, ⟨rfl, rfl⟩ | ⟨rfl, rfl⟩ | ⟨rfl, rfl⟩⟩ := hrel
    · go_wp2
      go_round
      case rel => exact ⟨1, by omega, rfl, .inr (.inl ⟨rfl, rfl⟩)⟩
      case measure => simp [intOf]
    · go_wp2
      go_round
      case rel => exact ⟨2, by omega, rfl, .inr (.inr ⟨rfl, rfl⟩)⟩
      case measure => simp [intOf]
    · go_wp2_with fail
      have hg := grow_nil (n + n') w (by omega)
      rw [Int.natCast_add] at hg
      refine hg.mono ?_
      rintro en w' ⟨v, rfl, hrow, hnew⟩
      go_wp2
      go_loopw [6, 27] (fun v i wr => ∃ k : Nat, k ≤ 2 ∧ i = .int .i64 k ∧ New w wr ∧ ((k = 0 ∧ Row wr w.heap.size 45 2 v 0 []) ∨ (k = 1 ∧ Row wr w.heap.size 45 2 v n cs) ∨ (k = 2 ∧ Row wr w.heap.size 45 2 v (n + n') (cs ++ cs')))) (fun _ i _ => 2 - (intOf i).toNat)
      case atStart => exact ⟨0, by omega, rfl, hnew, .inl ⟨rfl, hrow⟩⟩
      case round =>
        obtain ⟨k, hk, rfl, hw, ⟨rfl, hr⟩ | ⟨rfl, hr⟩ | ⟨rfl, hr⟩⟩ := hrel
        · have h1' := (hw.cell (cell_lt h1)).trans h1
          have HS1 := Lib.hid (HS.out.new_ hw)
          have hsz := hw.size
          go_wp2_with (at_builtin; refine wpList_append_row _ rfl _ _ 23 rfl w.heap.size 45 i0 _ 2 32 Try.underlying23 hi0 hz0 hz1 hz2 rfl (by decide) _ 0 [] rfl hr A n c _ rfl HS1.out ?c1 ?c2 ?c3 ?_)
          case c1 => unfold maxLen; omega
          case c2 => omega
          case c3 => omega
          intro v' w1 hr1 hg1 hat hnil
          have hw1 := New.row hw hr (Nat.le_refl _) hg1
          go_wp2
          go_roundw
          case rel => exact ⟨1, by omega, rfl, hw1, .inr (.inl ⟨rfl, by simpa using hr1⟩)⟩
          case measure => simp [intOf]
        · have h1' := (hw.cell (cell_lt h2)).trans h2
          have HS1 := Lib.hid (HS'.out.new_ hw)
          have hsz := hw.size
          go_wp2_with (at_builtin; refine wpList_append_row _ rfl _ _ 23 rfl w.heap.size 45 i0 _ 2 32 Try.underlying23 hi0 hz0 hz1 hz2 rfl (by decide) _ n cs rfl hr A' n' c' _ rfl HS1.out ?d1 ?d2 ?d3 ?_)
          case d1 => unfold maxLen; omega
          case d2 => omega
          case d3 => omega
          intro v' w1 hr1 hg1 hat hnil
          have hw1 := New.row hw hr (Nat.le_refl _) hg1
          go_wp2
          go_roundw
          case rel => exact ⟨2, by omega, rfl, hw1, .inr (.inr ⟨rfl, hr1⟩)⟩
          case measure => simp [intOf]
        · go_wp2
          go_ret
          exact ⟨_, rfl, hr, hw⟩

/-- The cells of spots. -/
def SpotCells (w : World) (B : Nat) (cs : List Value) (l : List SpotM) : Prop :=
  cs.length = l.length * 2 ∧ ∀ j, j < l.length → ∃ A' n' c', cs[j * 2]? = some (.slice A' n' c') ∧ Ints w B A' n' c' (l.getD j default).any ∧ cs[j * 2 + 1]? = some (.bool (l.getD j default).edge)
theorem SpotCells.app {w : World} {B : Nat} {cs ds : List Value} {l k : List SpotM} (h : SpotCells w B cs l) (h' : SpotCells w B ds k) : SpotCells w B (cs ++ ds) (l ++ k) := by
  refine ⟨by rw [List.length_append, List.length_append, h.1, h'.1, Nat.add_mul], fun j hj => ?_⟩
  rw [List.length_append] at hj
  by_cases hjl : j < l.length
  · obtain ⟨A', n', c', h1, h2, h3⟩ := h.2 j hjl
    have e : (l ++ k).getD j default = l.getD j default := by simp [List.getD, List.getElem?_append_left hjl]
    exact ⟨A', n', c', by rw [List.getElem?_append_left (by rw [h.1]; omega)]; exact h1, by rw [e]; exact h2, by rw [List.getElem?_append_left (by rw [h.1]; omega), e]; exact h3⟩
  · obtain ⟨A', n', c', h1, h2, h3⟩ := h'.2 (j - l.length) (by omega)
    have e : (l ++ k).getD j default = k.getD (j - l.length) default := by simp [List.getD, List.getElem?_append_right (by omega : l.length ≤ j)]
    refine ⟨A', n', c', ?_, by rw [e]; exact h2, ?_⟩
    · rw [List.getElem?_append_right (by rw [h.1]; omega), h.1, ← h1]; congr 1; omega
    · rw [List.getElem?_append_right (by rw [h.1]; omega), h.1, e, ← h3]; congr 1; omega
theorem SpotCells.one (w : World) (B : Nat) : SpotCells w B [] [] := ⟨rfl, fun j hj => by simp at hj⟩
theorem SpotCells.oneCell {w : World} {B : Nat} {cs : List Value} {l : List SpotM} (h : SpotCells w B cs l) : ∀ u ∈ cs, u.oneCell' = true := by
  intro u hu
  obtain ⟨i, hi, rfl⟩ := List.mem_iff_getElem.1 hu
  rw [h.1] at hi
  obtain ⟨A', n', c', h1, _, h3⟩ := h.2 (i / 2) (by omega)
  by_cases hp : i % 2 = 0
  · have : i / 2 * 2 = i := by omega
    rw [this, List.getElem?_eq_getElem (by rw [h.1]; exact hi)] at h1
    injection h1 with h1
    rw [h1]; rfl
  · have : i / 2 * 2 + 1 = i := by omega
    rw [this, List.getElem?_eq_getElem (by rw [h.1]; exact hi)] at h3
    injection h3 with h3
    rw [h3]; rfl
theorem SpotCells.keep {w w' : World} {B : Nat} {cs : List Value} {l : List SpotM} (h : SpotCells w B cs l) (hk : ∀ p : Addr, p.block < B → w'.cell? p = w.cell? p) : SpotCells w' B cs l :=
  ⟨h.1, fun j hj => by obtain ⟨A', n', c', h1, h2, h3⟩ := h.2 j hj; exact ⟨A', n', c', h1, h2.keep hk, h3⟩⟩
theorem SpotCells.more {w : World} {B B' : Nat} {cs : List Value} {l : List SpotM} (h : SpotCells w B cs l) (hB : B ≤ B') : SpotCells w B' cs l :=
  ⟨h.1, fun j hj => by obtain ⟨A', n', c', h1, h2, h3⟩ := h.2 j hj; exact ⟨A', n', c', h1, h2.more hB, h3⟩⟩
theorem SpotCells.new_ {w w' : World} {cs : List Value} {l : List SpotM} (h : SpotCells w w.heap.size cs l) (hb : New w w') : SpotCells w' w'.heap.size cs l := (h.keep fun _ hp => hb.cell hp).more hb.size
theorem Spots.cells {w : World} {B n c : Nat} {A : Option Addr} {l : List SpotM} (h : Spots w B A n c l) : ∃ cs, Src w A n 2 cs ∧ SpotCells w B cs l := by
  obtain ⟨h1, h2, h3⟩ := h
  rcases Nat.eq_zero_or_pos n with h0 | h0
  · subst h0
    have : l = [] := List.eq_nil_of_length_eq_zero h1
    subst this
    exact ⟨[], Src.none_ _ _ _, SpotCells.one _ _⟩
  · obtain ⟨b, off, rfl, hb, hc⟩ := h3 h0
    have hcs : SpotCells w B ((List.range (n * 2)).map fun i => (w.cell? ⟨b, off + i, none⟩).getD undef) l := by
      refine ⟨by simp [h1], fun j hj => ?_⟩
      obtain ⟨A', n', c', g1, g2, g3⟩ := hc j (by omega)
      refine ⟨A', n', c', ?_, g2, ?_⟩
      · rw [List.getElem?_map, List.getElem?_range (by omega)]; simp [g1]
      · rw [List.getElem?_map, List.getElem?_range (by omega)]; simp [← Nat.add_assoc, g3]
    refine ⟨_, ⟨by simp, hcs.oneCell, fun _ => ⟨_, rfl, fun j u hu => ?_⟩⟩, hcs⟩
    have hj : j < n * 2 := by have := (List.getElem?_eq_some_iff.1 hu).1; simpa using this
    rw [List.getElem?_map, List.getElem?_range hj] at hu
    simp only [Option.map_some, Option.some.injEq] at hu
    rw [Addr.add_lit, ← hu]
    obtain ⟨A', n', c', g1, g2, g3⟩ := hc (j / 2) (by omega)
    by_cases hp : j % 2 = 0
    · have : j / 2 * 2 = j := by omega
      rw [this] at g1; rw [g1]; rfl
    · have : j / 2 * 2 + 1 = j := by omega
      rw [Nat.add_assoc, this] at g3; rw [g3]; rfl
theorem Row.spots {w : World} {base n : Nat} {v : Value} {cs : List Value} {l : List SpotM} (h : Row w base 45 2 v n cs) (hc : SpotCells w w.heap.size cs l) (hn : n ≤ 1099511627776) : ∃ A c, v = .slice A n c ∧ Spots w w.heap.size A n c l := by
  obtain ⟨A, c, rfl, h1, h2, h3⟩ := h.len
  have hl : l.length = n := by have := h.1; have := hc.1; omega
  refine ⟨A, c, rfl, hl, ⟨hn, h1, h2⟩, fun h0 => ?_⟩
  obtain ⟨g, off, rfl, _, hg, hcell⟩ := h.cell h0
  refine ⟨g, off, rfl, hg, fun j hj => ?_⟩
  obtain ⟨A', n', c', g1, g2, g3⟩ := hc.2 j (by omega)
  exact ⟨A', n', c', by rw [hcell _ (by omega)]; exact g1, g2, by rw [Nat.add_assoc, hcell _ (by omega)]; exact g3⟩

def longSpot (s : SpotM) : Bool := decide (4 < s.any.length)
theorem spotLit_any (A : Option Addr) (n c : Nat) (ed : Bool) (xs : List Int) (w : World) (h : Ints w w.heap.size A n c xs) (b : Bool) (hb : Hid (decide (4 < xs.length) = b)) :
    Calls Try.prog 33 #[.agg #[.slice A n c, .bool ed]] w fun e w' => e = .returned (.bool b) ∧ New w w' := by
  have hn := h.2.1
  have HN := Lib.hid h.1
  go_enter Try.func33, Try.ntmps33
  go_wp2
  go_ret
  refine ⟨ret_bool ?_, new_alloc w _⟩
  rw [← hb.out, HN.out, Bool.eq_iff_iff]
  simp
  omega

theorem indexSpot_any (A : Option Addr) (n c : Nat) (l : List SpotM) (w : World) (h : Spots w w.heap.size A n c l) :
    Calls Try.prog 46 #[.slice A n c, .func (.func 33) #[] #[]] w fun e w' => e = .returned (.int .i64 (fidx longSpot l)) ∧ New w w' := by
  obtain ⟨hn, hb, hs⟩ := h
  have HN := Lib.hid hn
  clear hn
  go_enter Try.func46, Try.ntmps46
  go_wp2
  go_loopw [8] (fun i wr => ∃ k : Nat, k ≤ n ∧ i = .int .i64 k ∧ (l.take k).any longSpot = false ∧ New w wr) (fun i _ => n - (intOf i).toNat)
  case atStart => exact ⟨0, Nat.zero_le _, rfl, by simp, New.refl _⟩
  case round =>
    obtain ⟨k, hk, rfl, hw, hnew⟩ := hrel
    have HW := Lib.hid hw
    clear hw
    by_cases hlt : k < n
    · obtain ⟨b, off, rfl, hbB, hc⟩ := hs (by omega)
      obtain ⟨A', n', c', g1, g2, g3⟩ := hc k hlt
      have g1' := (hnew.cell hbB).trans g1
      have g3' := (hnew.cell hbB).trans g3
      have g2' := g2.new_ hnew
      have hkl : k < l.length := by rw [HN.out]; exact hlt
      have he : l.getD k default = l[k] := by simp [List.getD, hkl]
      have HK := Lib.hid hkl
      have HE := Lib.hid he
      clear he hc g1 g2 g3
      generalize hsp : l.getD k default = sp at *
      clear hsp
      cases hl : longSpot sp
      · have HL : Hid (decide (4 < sp.any.length) = false) := hl
        have HL' := Lib.hid hl
        clear hl
        go_wp2_with fail
        refine (spotLit_any A' n' c' sp.edge sp.any _ g2' false HL).mono ?_
        rintro e w' ⟨rfl, hn2⟩
        go_wp2
        go_roundw
        case rel => exact ⟨k + 1, by omega, by go_num, any_take_succ HK.out HW.out (by rw [← HE.out]; exact HL'.out), hnew.trans hn2⟩
        case measure => simp [intOf]; omega
      · have HL : Hid (decide (4 < sp.any.length) = true) := hl
        have HL' := Lib.hid hl
        clear hl
        go_wp2_with fail
        refine (spotLit_any A' n' c' sp.edge sp.any _ g2' true HL).mono ?_
        rintro e w' ⟨rfl, hn2⟩
        go_wp2
        go_ret
        exact ⟨ret_int (fidx_hit longSpot l k HK.out HW.out (by rw [← HE.out]; exact HL'.out)).symm, hnew.trans hn2⟩
    · go_wp2
      go_ret
      have : k = n := by omega
      subst this
      refine ⟨ret_int ?_, hnew⟩
      have := HW.out
      rw [List.take_of_length_le (by rw [HN.out]; omega)] at this
      exact (fidx_miss longSpot l this).symm

theorem containsSpot_any (A : Option Addr) (n c : Nat) (l : List SpotM) (w : World) (b : Bool) (hb : Hid (l.any longSpot = b)) (h : Spots w w.heap.size A n c l) :
    Calls Try.prog 32 #[.slice A n c, .func (.func 33) #[] #[]] w fun e w' => e = .returned (.bool b) ∧ New w w' := by
  have HI := Lib.hid (fidx_nonneg longSpot l)
  go_enter Try.func32, Try.ntmps32
  go_wp2_with fail
  refine (indexSpot_any A n c l _ h).mono ?_
  rintro e w' ⟨rfl, hn⟩
  generalize fidx longSpot l = z at *
  go_wp2_with fail
  go_ret
  refine ⟨ret_bool ?_, hn⟩
  rw [← hb.out, ← HI.out]

def okC (c : ChgM) : Bool :=
  decide (1 ≤ c.kinds) && decide (c.kinds ≤ 4) && decide (1 ≤ c.frm.length) && decide (c.frm.length ≤ 2) && decide (c.to.length ≤ 2) && decide (c.left.length ≤ 2) && decide (c.right.length ≤ 1) && !((c.left ++ c.right).any longSpot)
    && (c.left ++ c.right).all (fun s => within s.any c.kinds) && within c.frm c.kinds && within c.to c.kinds && !(decide (c.left.length = 2) && (c.left.getD 1 default).edge)
/-- OK just if the change is right. -/
def ErrPost (ok : Bool) (w : World) (en : Ending) (w' : World) : Prop := ∃ z : Int, en = .returned (.int .i64 z) ∧ (z = 0 ↔ ok = true) ∧ New w w'

set_option maxHeartbeats 1600000 in
set_option maxRecDepth 100000 in
theorem check_any (k : Int) (H : ChgH) (c : ChgM) (w : World) (h : Chg w w.heap.size H c) (hk : k = c.kinds) (hl : H.n3 ≤ 1048576) (hr : H.n4 ≤ 1048576) :
    Calls Try.prog 12 #[.agg #[.int .i64 k, .slice H.a1 H.n1 H.c1, .slice H.a2 H.n2 H.c2, .slice H.a3 H.n3 H.c3, .slice H.a4 H.n4 H.c4]] w (ErrPost (okC c) w) := by
  have HK := Lib.hid hk
  clear hk
  by_cases hk1 : k < 1
  · go_enter Try.func12, Try.ntmps12
    go_wp2
    go_ret
    refine ⟨7, rfl, ?_, new_alloc w _⟩
    unfold okC
    have : decide (1 ≤ c.kinds) = false := by rw [← HK.out]; simp; omega
    rw [this]; simp
  · by_cases hk4 : 4 < k
    · go_enter Try.func12, Try.ntmps12
      go_wp2
      go_ret
      refine ⟨7, rfl, ?_, new_alloc w _⟩
      unfold okC
      have : decide (c.kinds ≤ 4) = false := by rw [← HK.out]; simp; omega
      rw [this]; simp
    · obtain ⟨cs, hs, hsc⟩ := h.left.cells
      obtain ⟨cs', hs', hsc'⟩ := h.right.cells
      have hn1 : New w ((w.alloc (.cells #[.int .i64 k, .slice H.a1 H.n1 H.c1, .slice H.a2 H.n2 H.c2, .slice H.a3 H.n3 H.c3, .slice H.a4 H.n4 H.c4] 25)).alloc (.cells #[.slice H.a3 H.n3 H.c3, .slice H.a4 H.n4 H.c4] 23)) := (new_alloc w _).alloc (by simp) _
      have hs2 := hs.new_ hn1
      have hs2' := hs'.new_ hn1
      go_enter Try.func12, Try.ntmps12
      go_wp2_with fail
      refine (concat_any _ 0 H.a3 H.a4 H.n3 H.c3 H.n4 H.c4 cs cs' _ (by simp [go_sem]) (by simp [go_sem]) hs2 hs2' hl hr).mono ?_
      rintro e w' ⟨v, rfl, hrow, hnew⟩
      have hn2 := hn1.trans hnew
      have hsz := hnew.size
      simp only [World.size_alloc] at hsz
      obtain ⟨A, q, rfl, hsp⟩ := Row.spots hrow ((hsc.new_ hn2).app (hsc'.new_ hn2)) (by omega)
      have hbox : ∀ i, i < 5 → w'.cell? ⟨w.heap.size, i, none⟩ = (#[.int .i64 k, .slice H.a1 H.n1 H.c1, .slice H.a2 H.n2 H.c2, .slice H.a3 H.n3 H.c3, .slice H.a4 H.n4 H.c4] : Array Value)[i]? := by
        intro i hi
        rw [hnew.cell (by simp <;> omega)]
        simp [go_sem]
      have hx0 := hbox 0 (by omega)
      have hx1 := hbox 1 (by omega)
      have hx2 := hbox 2 (by omega)
      have hx3 := hbox 3 (by omega)
      have hx4 := hbox 4 (by omega)
      simp at hx0 hx1 hx2 hx3 hx4
      have hch := h.new_ hn2
      have hkq := Lib.hid hbox
      clear hbox hs hs' hs2 hs2' hsc hsc' hn1
      have HOK : Hid (okC c = (decide (1 ≤ H.n1 ∧ H.n1 ≤ 2 ∧ H.n2 ≤ 2 ∧ H.n3 ≤ 2 ∧ H.n4 ≤ 1) && (!((c.left ++ c.right).any longSpot) && ((c.left ++ c.right).all (fun s => within s.any k) && (within c.frm k && (within c.to k && !(decide (H.n3 = 2) && (c.left.getD 1 default).edge))))))) := by
        have e1 := h.frm.1
        have e2 := h.to.1
        have e3 := h.left.1
        have e4 := h.right.1
        have k1 : decide (1 ≤ k) = true := by simp; omega
        have k2 : decide (k ≤ 4) = true := by simp; omega
        unfold Hid okC
        rw [← HK.out, k1, k2, e1, e2, e3, e4]
        simp only [Bool.decide_and, Bool.true_and, Bool.and_assoc]
      have hok5 : 0 ≤ k ∧ k ≤ 4 := by omega
      by_cases hlen : 1 ≤ H.n1 ∧ H.n1 ≤ 2 ∧ H.n2 ≤ 2 ∧ H.n3 ≤ 2 ∧ H.n4 ≤ 1
      · have HOK2 : Hid (okC c = (!((c.left ++ c.right).any longSpot) && ((c.left ++ c.right).all (fun s => within s.any k) && (within c.frm k && (within c.to k && !(decide (H.n3 = 2) && (c.left.getD 1 default).edge)))))) := by
          unfold Hid; rw [HOK.out, decide_eq_true hlen, Bool.true_and]
        have d1 : decide ((H.n1 : Int) < 1) = false := by simp; omega
        have d2 : decide (2 < (H.n1 : Int)) = false := by simp; omega
        have d3 : decide (2 < (H.n2 : Int)) = false := by simp; omega
        have d4 : decide (2 < (H.n3 : Int)) = false := by simp; omega
        have d5 : decide (1 < (H.n4 : Int)) = false := by simp; omega
        cases hlg : (c.left ++ c.right).any longSpot
        · have HLG := Lib.hid hlg
          clear hlg
          go_wp2_with fail
          refine (containsSpot_any A _ q _ _ false HLG hsp).mono ?_
          rintro e w1 ⟨rfl, hnw1⟩
          obtain ⟨hm1, hm2, hm3⟩ := hsp
          have HM := Lib.hid hm1
          have hold := hn2.trans hnw1
          have hz := hn2.size
          have hbx : ∀ wr, New w1 wr → wr.cell? ⟨w.heap.size, 0, none⟩ = some (.int .i64 k) ∧ wr.cell? ⟨w.heap.size, 1, none⟩ = some (.slice H.a1 H.n1 H.c1) ∧ wr.cell? ⟨w.heap.size, 2, none⟩ = some (.slice H.a2 H.n2 H.c2) ∧ wr.cell? ⟨w.heap.size, 3, none⟩ = some (.slice H.a3 H.n3 H.c3) := by
            intro wr hwr
            refine ⟨?_, ?_, ?_, ?_⟩ <;> rw [(hnw1.trans hwr).cell (by simp; omega)]
            · exact hx0
            · exact hx1
            · exact hx2
            · exact hx3
          have HBX := Lib.hid hbx
          clear hx0 hx1 hx2 hx3 hx4 hbx hm1
          go_wp2_with fail
          go_loopw [54] (fun i wr => ∃ j : Nat, j ≤ H.n3 + H.n4 ∧ i = .int .i64 j ∧ ((c.left ++ c.right).take j).all (fun s => within s.any k) = true ∧ New w1 wr) (fun i _ => H.n3 + H.n4 - (intOf i).toNat)
          case atStart => exact ⟨0, Nat.zero_le _, rfl, rfl, New.refl _⟩
          case round =>
            obtain ⟨j, hj, rfl, hal, hwr⟩ := hrel
            have HAL := Lib.hid hal
            clear hal
            obtain ⟨y0, y1, y2, y3⟩ := HBX.out wr hwr
            by_cases hjn : j < H.n3 + H.n4
            · obtain ⟨b, off, rfl, hbB, hc⟩ := hm3 (by omega)
              obtain ⟨A', n', c', g1, g2, g3⟩ := hc j hjn
              have hbw := (hnw1.trans hwr)
              have g1' := (hbw.cell hbB).trans g1
              have g3' := (hbw.cell hbB).trans g3
              have g2' := (g2.new_ hbw).new_ (new_alloc wr (.cells #[.slice A' n' c', .bool ((c.left ++ c.right).getD j default).edge] 45))
              have hjl : j < (c.left ++ c.right).length := by rw [HM.out]; exact hjn
              have hsz2 : w.heap.size < wr.heap.size := by have := hbw.size; omega
              have HE : Hid ((c.left ++ c.right).getD j default = (c.left ++ c.right)[j]) := by unfold Hid; rw [List.getD_eq_getElem?_getD, List.getElem?_eq_getElem hjl]; rfl
              clear hc g1 g2 g3
              generalize hspx : (c.left ++ c.right).getD j default = sp at *
              clear hspx
              cases hwi : within sp.any k
              · have HWI := Lib.hid hwi
                clear hwi
                go_wp2_with fail
                refine (right_any A' n' c' sp.any k _ g2').mono ?_
                rw [HWI.out]
                rintro e w3 ⟨rfl, hw3⟩
                go_wp2
                go_ret
                refine ⟨3, rfl, ?_, (hold.trans hwr).trans (New.trans (new_alloc wr _) hw3)⟩
                have : (c.left ++ c.right).all (fun s => within s.any k) = false := by
                  rw [List.all_eq_false]
                  exact ⟨_, List.getElem_mem hjl, by rw [← HE.out, HWI.out]; decide⟩
                rw [HOK2.out, this]
                simp
              · have HWI := Lib.hid hwi
                clear hwi
                go_wp2_with fail
                refine (right_any A' n' c' sp.any k _ g2').mono ?_
                rw [HWI.out]
                rintro e w3 ⟨rfl, hw3⟩
                go_wp2
                go_roundw
                case rel =>
                  refine ⟨j + 1, by omega, by go_num, ?_, hwr.trans (New.trans (new_alloc wr _) hw3)⟩
                  rw [List.take_succ_eq_append_getElem hjl, List.all_append, HAL.out]
                  simp [← HE.out, HWI.out]
                case measure => simp [intOf]; omega
            · have hjn' : j = H.n3 + H.n4 := by omega
              have hall : (c.left ++ c.right).all (fun s => within s.any k) = true := by
                have := HAL.out
                rw [List.take_of_length_le (by rw [HM.out]; omega)] at this
                exact this
              have HOK3 : Hid (okC c = (within c.frm k && (within c.to k && !(decide (H.n3 = 2) && (c.left.getD 1 default).edge)))) := by
                unfold Hid; rw [HOK2.out, HLG.out, hall]; rfl
              have hwn := hnw1.trans hwr
              have hfi := hch.frm.new_ hwn
              have hsz2 : w.heap.size < wr.heap.size := by have := hwn.size; omega
              have hz2 := hold.trans hwr
              clear hall
              cases hwi : within c.frm k
              · have HWI := Lib.hid hwi
                clear hwi
                go_wp2_with fail
                refine (right_any H.a1 H.n1 H.c1 c.frm k _ hfi).mono ?_
                rw [HWI.out]
                rintro e w3 ⟨rfl, hw3⟩
                go_wp2
                go_ret
                refine ⟨3, rfl, ?_, hz2.trans hw3⟩
                rw [HOK3.out, HWI.out]
                simp
              · have HWI := Lib.hid hwi
                clear hwi
                go_wp2_with fail
                refine (right_any H.a1 H.n1 H.c1 c.frm k _ hfi).mono ?_
                rw [HWI.out]
                rintro e w3 ⟨rfl, hw3⟩
                obtain ⟨z0, z1, z2, z3⟩ := HBX.out w3 (hwr.trans hw3)
                have hti := (hch.to.new_ hwn).new_ hw3
                cases hwj : within c.to k
                · have HWJ := Lib.hid hwj
                  clear hwj
                  go_wp2_with fail
                  refine (right_any H.a2 H.n2 H.c2 c.to k _ hti).mono ?_
                  rw [HWJ.out]
                  rintro e w4 ⟨rfl, hw4⟩
                  go_wp2
                  go_ret
                  refine ⟨3, rfl, ?_, (hz2.trans hw3).trans hw4⟩
                  rw [HOK3.out, HWJ.out]
                  simp
                · have HWJ := Lib.hid hwj
                  clear hwj
                  go_wp2_with fail
                  refine (right_any H.a2 H.n2 H.c2 c.to k _ hti).mono ?_
                  rw [HWJ.out]
                  rintro e w4 ⟨rfl, hw4⟩
                  have HOK4 : Hid (okC c = !(decide (H.n3 = 2) && (c.left.getD 1 default).edge)) := by
                    unfold Hid; rw [HOK3.out, HWI.out, HWJ.out]; rfl
                  obtain ⟨v0, v1, v2, v3⟩ := HBX.out w4 ((hwr.trans hw3).trans hw4)
                  have hq4 := (hz2.trans hw3).trans hw4
                  by_cases h32 : H.n3 = 2
                  · obtain ⟨b, off, hA3, hbB, hc⟩ := h.left.2.2 (by omega)
                    obtain ⟨A', n', c', g1, g2, g3⟩ := hc 1 (by omega)
                    have g3' := (hq4.cell hbB).trans g3
                    rw [hA3, h32] at v3
                    simp only [Nat.one_mul] at g3'
                    have e32 : ((2 : Int) == 2) = true := by decide
                    have H32 : Hid (decide (H.n3 = 2) = true) := by unfold Hid; simpa using h32
                    generalize (c.left.getD 1 default).edge = ed at *
                    clear hc g1 g2 g3 h32 hA3 d4
                    cases ed
                    · go_wp2
                      go_ret
                      exact ⟨0, rfl, by rw [HOK4.out]; simp, hq4⟩
                    · go_wp2
                      go_ret
                      exact ⟨1, rfl, by rw [HOK4.out, H32.out]; simp, hq4⟩
                  · have e32 : ((H.n3 : Int) == 2) = false := by rw [beq_eq_false_iff_ne]; omega
                    have H32 : Hid (decide (H.n3 = 2) = false) := by unfold Hid; simpa using h32
                    go_wp2
                    go_ret
                    exact ⟨0, rfl, by rw [HOK4.out, H32.out]; simp, hq4⟩
        · have HLG := Lib.hid hlg
          clear hlg
          go_wp2_with fail
          refine (containsSpot_any A _ q _ _ true HLG hsp).mono ?_
          rintro e w1 ⟨rfl, hnw1⟩
          go_wp2
          go_ret
          refine ⟨2, rfl, ?_, hn2.trans hnw1⟩
          rw [HOK2.out, HLG.out]
          simp
      · have HF : Hid (okC c = false) := by unfold Hid; rw [HOK.out, decide_eq_false hlen, Bool.false_and]
        by_cases x1 : H.n1 < 1
        · have d1 : decide ((H.n1 : Int) < 1) = true := by simp; omega
          go_wp2
          go_ret
          exact ⟨2, rfl, by rw [HF.out]; simp, hn2⟩
        · have d1 : decide ((H.n1 : Int) < 1) = false := by simp; omega
          by_cases x2 : 2 < H.n1
          · have d2 : decide (2 < (H.n1 : Int)) = true := by simp; omega
            go_wp2
            go_ret
            exact ⟨2, rfl, by rw [HF.out]; simp, hn2⟩
          · have d2 : decide (2 < (H.n1 : Int)) = false := by simp; omega
            by_cases x3 : 2 < H.n2
            · have d3 : decide (2 < (H.n2 : Int)) = true := by simp; omega
              go_wp2
              go_ret
              exact ⟨2, rfl, by rw [HF.out]; simp, hn2⟩
            · have d3 : decide (2 < (H.n2 : Int)) = false := by simp; omega
              by_cases x4 : 2 < H.n3
              · have d4 : decide (2 < (H.n3 : Int)) = true := by simp; omega
                go_wp2
                go_ret
                exact ⟨2, rfl, by rw [HF.out]; simp, hn2⟩
              · have d4 : decide (2 < (H.n3 : Int)) = false := by simp; omega
                by_cases x5 : 1 < H.n4
                · have d5 : decide (1 < (H.n4 : Int)) = true := by simp; omega
                  go_wp2
                  go_ret
                  exact ⟨2, rfl, by rw [HF.out]; simp, hn2⟩
                · omega
end Go.Proofs.Ytglmlbmjppblbaa
