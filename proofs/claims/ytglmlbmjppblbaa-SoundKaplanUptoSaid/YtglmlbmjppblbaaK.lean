/- The netter: tails, writes, rests. -/
import Derived.Test.YtglmlbmjppblbaaJ
namespace Go.Proofs.Ytglmlbmjppblbaa
open Go.RowKit Go.Kap
set_option maxRecDepth 100000

def tailM (s : NS) : List Int → NS × Int
  | [] => match nameAt s.names (keyB 116 [[]]) with
    | some i => (s, i)
    | none => ({ s with names := s.names ++ [keyB 116 [[]]], finals := s.finals ++ [(s.names.length : Int)] }, s.names.length)
  | x :: r => match nameAt s.names (keyB 116 [x :: r]) with
    | some i => (s, i)
    | none =>
      let q := tailM { s with names := s.names ++ [keyB 116 [x :: r]] } r
      ({ q.1 with arcs := q.1.arcs ++ [⟨s.names.length, q.2, 0, x⟩] }, s.names.length)
def writesM (s : NS) (to sym : Int) : NS × Int :=
  match nameAt s.names (keyB 119 [[to / 64, to % 64, sym]]) with
  | some i => (s, i)
  | none => ({ s with names := s.names ++ [keyB 119 [[to / 64, to % 64, sym]]], arcs := s.arcs ++ [⟨s.names.length, to, 0, sym⟩] }, s.names.length)

theorem tailM_size (l : List Int) : ∀ s : NS, (tailM s l).1.names.length ≤ s.names.length + l.length + 1 ∧ (tailM s l).1.arcs.length ≤ s.arcs.length + l.length ∧ (tailM s l).1.finals.length ≤ s.finals.length + 1 ∧ (tailM s l).1.sts = s.sts := by
  induction l with
  | nil =>
    intro s
    unfold tailM
    split <;> simp
  | cons x r ih =>
    intro s
    unfold tailM
    split
    · simp; omega
    · have := ih { s with names := s.names ++ [keyB 116 [x :: r]] }
      simp only [List.length_append, List.length_cons, List.length_nil] at this ⊢
      refine ⟨by omega, by omega, by omega, this.2.2.2⟩

section
variable {w w' : World} {B0 p : Nat} {k : Int} {H : ChgH} {va vf vs : Value} {mb : Nat} {cs : List Value} {s : NS}

/-- The finals have grown. -/
theorem NetW.finsGrow (h : NetW w B0 p k H va vf vs mb cs s) {w1 : World} (hg : w.grownBy w1 vf.ownBlock) {v' : Value} {m : Nat} {fin' : List Int} (hr : Row w1 B0 75 2 v' m (finCells fin')) (hm : m = fin'.length) :
    (w1.cell? ⟨p, 7, none⟩ = some vf ∧ w1.frozen? ⟨p, 7, none⟩ = false) ∧ NetW (w1.setCell ⟨p, 7, none⟩ v') B0 p k H va v' vs mb cs { s with finals := fin' } ∧ NFr B0 w (w1.setCell ⟨p, 7, none⟩ v') := by
  have hblk : w1.heap[p]? = w.heap[p]? := hg.block p (lt_heap h.blk) (fun e => by obtain ⟨c, hc⟩ := h.fins.typed e.symm; exact ne_typed h.blk hc (by decide) rfl)
  have hb1 := hblk.trans h.blk
  have hg0 : NFr B0 w w1 := NFr.grown h.fins hg (.inr (.inr (.inl rfl))) (Nat.le_refl _) h.size
  have hmb : MapI strK w1 3 mb s.names.length (nameAt s.names) := h.map.kept hg (fun e => by
    obtain ⟨c, hc⟩ := h.fins.typed e.symm
    obtain ⟨es, cl, hm⟩ := h.map.isMap
    rw [hm] at hc; cases hc)
  have hfr : NFr B0 w1 (w1.setCell ⟨p, 7, none⟩ v') := NFr.setCell w1 (p := ⟨p, 7, none⟩) hb1 (.inl rfl) h.base.1 v'
  subst hm
  refine ⟨⟨(World.cell?_of_block hblk).trans (by have := h.cell 7; simpa using this), (World.frozen?_of_block hblk).trans (h.free 7)⟩, ⟨h.base, ?_, ?_, ?_, ?_, ?_, ?_⟩, hg0.trans hfr⟩
  · rw [blk_set hb1]; rfl
  · exact (Row.other h.arcs h.fins hg (by decide)).set_other (q := ⟨p, 7, none⟩) hb1 (by decide) _
  · exact hr.set_other (q := ⟨p, 7, none⟩) hb1 (by decide) _
  · exact (Row.other h.sts h.fins hg (by decide)).set_other (q := ⟨p, 7, none⟩) hb1 (by decide) _
  · exact h.ent.keep (hg0.trans hfr)
  · exact hmb.setCell (p := ⟨p, 7, none⟩) hb1 _

theorem lists_one {w : World} {A : Option Addr} {n c : Nat} {l : List Int} (h : IntsK w A n c l) (hn : n ≤ 1048576) : Lists (w.alloc (.cells #[.slice A n c] 22)) w.heap.size 0 [l] := by
  intro j hj
  match j, hj with
  | 0, _ => exact ⟨A, n, c, by simp [go_sem], h.1.new_ (new_alloc w _), hn⟩

theorem tail_had (l : List Int) (i : Int) (I : Option Addr) (q e : Nat) (h : NetW w B0 p k H va vf vs mb cs s) (hi : IntsK w I q e l) (hq : q ≤ 100000) (hf : nameAt s.names (keyB 116 [l]) = some i) :
    Calls Try.prog 19 #[.pointer (some ⟨p, 0, none⟩), .slice I q e] w (NetPost B0 p k H w (.int .i64 i) s) := by
  have hB := h.size
  have hn0 := new_alloc w (.cells #[.slice I q e] 22)
  have hW0 := h.new_ hn0 hB
  have hls := lists_one hi (by omega)
  have hkl : (keyB 116 [l]).length ≤ 1000000 := by rw [keyM_len]; have := hi.1.1; simp; omega
  have HF := Lib.hid hf
  clear hf
  go_enter Try.func19, Try.ntmps19
  go_wp2_with fail
  refine (key_any 116 w.heap.size 0 [l] 1 _ hls rfl (by omega)).mono ?_
  rintro en w1 ⟨rfl, hw1⟩
  have hW1 := hW0.new_ hw1 (by simp; omega)
  go_wp2_with fail
  refine (named_had (keyB 116 [l]) i hW1 hkl HF.out).mono ?_
  rintro en w2 ⟨rfl, rfl⟩
  go_wp2
  go_ret
  exact ⟨rfl, ⟨_, _, _, _, _, hW1⟩, (NFr.of_new hn0 hB).trans (NFr.of_new hw1 (by simp; omega))⟩

theorem tail_nil (I : Option Addr) (e : Nat) (h : NetW w B0 p k H va vf vs mb cs s) (hi : IntsK w I 0 e []) (hl : s.names.length ≤ 100000) (hfl : s.finals.length ≤ 100000) (hf : nameAt s.names (keyB 116 [[]]) = none) :
    Calls Try.prog 19 #[.pointer (some ⟨p, 0, none⟩), .slice I 0 e] w (NetPost B0 p k H w (.int .i64 s.names.length) { s with names := s.names ++ [keyB 116 [[]]], finals := s.finals ++ [(s.names.length : Int)] }) := by
  obtain ⟨i0, hi0, hz0, hz1, hz2⟩ := info_parts info75
  have hB := h.size
  have hn0 := new_alloc w (.cells #[.slice I 0 e] 22)
  have hW0 := h.new_ hn0 hB
  have hls := lists_one hi (by omega)
  have hkl : (keyB 116 [[]]).length ≤ 1000000 := by rw [keyM_len]; simp
  have HF := Lib.hid hf
  clear hf
  go_enter Try.func19, Try.ntmps19
  go_wp2_with fail
  refine (key_any 116 w.heap.size 0 [[]] 1 _ hls rfl (by omega)).mono ?_
  rintro en w1 ⟨rfl, hw1⟩
  have hW1 := hW0.new_ hw1 (by simp; omega)
  go_wp2_with fail
  refine (named_new (keyB 116 [[]]) hW1 hkl (by omega) HF.out).mono ?_
  rintro en w2 ⟨rfl, ⟨va2, vf2, vs2, mb2, cs2, hW2⟩, hf2⟩
  have hfr : NFr B0 w w2 := ((NFr.of_new hn0 hB).trans (NFr.of_new hw1 (by simp; omega))).trans hf2
  have HW := Lib.hid hW2
  have c7 := hW2.cell 7
  have f7 := hW2.free 7
  simp at c7
  have hB2 := hW2.size
  have hpl := lt_heap hW2.blk
  obtain ⟨T, hT⟩ : ∃ T, T = s.names.length := ⟨_, rfl⟩
  have HT := Lib.hid hT
  clear hW2
  rw [← hT] at hl ⊢
  clear hT
  go_wp2_with (at_builtin; refine wpList_append_row _ rfl _ _ 33 rfl B0 75 i0 _ 2 16 Try.underlying33 hi0 hz0 hz1 hz2 rfl (by decide) _ _ _ rfl (HW.out.fins.alloc _) (some ⟨w2.heap.size, 0, none⟩) 1 1 [.int .i64 T, .int .i64 0] rfl (Src.lit w2 #[.int .i64 T, .int .i64 0] 75 1 (by simp) (by simp [Value.oneCell'])) ?c1 ?c2 ?c3 ?_)
  case c1 => unfold maxLen; omega
  case c2 => omega
  case c3 => first | omega | (simp; omega)
  intro v' w4 hr4 hg4 hat hnil
  have hWa := HW.out.new_ (new_alloc w2 (.cells #[.int .i64 T, .int .i64 0] 75)) hB2
  have hr4' : Row w4 B0 75 2 v' (s.finals ++ [(T : Int)]).length (finCells (s.finals ++ [(T : Int)])) := by simpa [finCells] using hr4
  obtain ⟨⟨hx7, hf7⟩, hW5, hf5⟩ := hWa.finsGrow hg4 hr4' rfl
  have HW5 := Lib.hid hW5
  have HF5 := Lib.hid ((NFr.of_new (new_alloc w2 _) hB2).trans hf5)
  obtain ⟨A4, k4, hv4, _⟩ := hr4.len
  clear hWa hW5 hf5 hr4' hr4 hg4 hat hnil
  subst hv4
  go_wp2
  go_ret
  have e1 := HT.out
  subst e1
  exact ⟨rfl, ⟨_, _, _, _, _, HW5.out⟩, hfr.trans HF5.out⟩

theorem tail_cons (x : Int) (r : List Int) (I : Option Addr) (q e : Nat) (h : NetW w B0 p k H va vf vs mb cs s) (hi : IntsK w I q e (x :: r)) (hq : q ≤ 100000) (hl : s.names.length ≤ 100000) (hf : nameAt s.names (keyB 116 [x :: r]) = none)
    (ha : (tailM { s with names := s.names ++ [keyB 116 [x :: r]] } r).1.arcs.length ≤ 1000000) 
    (ih : ∀ {w1 : World} {va vf vs : Value} {mb : Nat} {cs : List Value} (I1 : Option Addr) (q1 e1 : Nat), NetW w1 B0 p k H va vf vs mb cs { s with names := s.names ++ [keyB 116 [x :: r]] } → IntsK w1 I1 q1 e1 r → q1 ≤ 100000 →
      Calls Try.prog 19 #[.pointer (some ⟨p, 0, none⟩), .slice I1 q1 e1] w1 (NetPost B0 p k H w1 (.int .i64 (tailM { s with names := s.names ++ [keyB 116 [x :: r]] } r).2) (tailM { s with names := s.names ++ [keyB 116 [x :: r]] } r).1)) :
    Calls Try.prog 19 #[.pointer (some ⟨p, 0, none⟩), .slice I q e] w (NetPost B0 p k H w (.int .i64 (tailM s (x :: r)).2) (tailM s (x :: r)).1) := by
  have hB := h.size
  have hn0 := new_alloc w (.cells #[.slice I q e] 22)
  have hW0 := h.new_ hn0 hB
  have hls := lists_one hi (by omega)
  have hkl : (keyB 116 [x :: r]).length ≤ 1000000 := by rw [keyM_len]; have := hi.1.1; simp at this ⊢; omega
  have HR : Hid (tailM s (x :: r) = ({ (tailM { s with names := s.names ++ [keyB 116 [x :: r]] } r).1 with arcs := (tailM { s with names := s.names ++ [keyB 116 [x :: r]] } r).1.arcs ++ [⟨s.names.length, (tailM { s with names := s.names ++ [keyB 116 [x :: r]] } r).2, 0, x⟩] }, (s.names.length : Int))) := by
    unfold Hid
    rw [tailM, hf]
  have HF := Lib.hid hf
  clear hf
  obtain ⟨z, hz⟩ : ∃ z, z = tailM { s with names := s.names ++ [keyB 116 [x :: r]] } r := ⟨_, rfl⟩
  rw [← hz] at ha
  simp only [← hz] at ih
  have HZ := Lib.hid hz
  clear hz
  have hq0 : 0 < q := by have := hi.1.1; simp at this; omega
  obtain ⟨b, off, rfl, hb, hcc⟩ := hi.1.2.2 hq0
  have hcap : q ≤ e := hi.1.2.1.2.1
  have hd := hi.drop (k := 1) (by omega)
  simp only [List.drop_succ_cons, List.drop_zero] at hd
  have hsl1 : ∀ wx, NFr B0 w wx → wx.cell? ⟨b, off, none⟩ = some (.int .i64 x) := by
    intro wx hwx
    obtain ⟨b', off', e', hb', hc'⟩ := (hwx.ints hi).1.2.2 hq0
    injection e' with e'
    injection e' with e1 e2 _
    subst e1 e2
    have := hc' 0 hq0
    simpa using this
  by_cases he : e = 1
  · rw [if_pos he] at hd
    have hq1 : q = 1 := by omega
    subst he hq1
    have hsl1 := Lib.hid hsl1
    go_enter Try.func19, Try.ntmps19
    go_wp2_with fail
    refine (key_any 116 w.heap.size 0 [x :: r] 1 _ hls rfl (by omega)).mono ?_
    rintro en w1 ⟨rfl, hw1⟩
    have hW1 := hW0.new_ hw1 (by simp; omega)
    go_wp2_with fail
    refine (named_new (keyB 116 [x :: r]) hW1 hkl (by omega) HF.out).mono ?_
    rintro en w2 ⟨rfl, ⟨va2, vf2, vs2, mb2, cs2, hW2⟩, hf2⟩
    have hfr : NFr B0 w w2 := ((NFr.of_new hn0 hB).trans (NFr.of_new hw1 (by simp; omega))).trans hf2
    have hdw : New w2 w2.drew := (New.refl _).drew_
    have hfr := hfr.trans (NFr.of_new hdw hW2.size)
    have hW2 := hW2.new_ hdw hW2.size
    have hc2 := hsl1.out w2.drew hfr
    have hd2 : IntsK w2.drew (some ⟨b, off, none⟩) 0 0 r := hfr.ints hd
    have hih := ih _ _ _ hW2 hd2 (by omega)
    go_wp2
    go_region_held3 (fun w' => w'.cell? ⟨b, off, none⟩ = some (.int .i64 x)) (first | assumption)
      (first
        | (go_at_call 19; (with_reducible refine hih.mono ?_); rintro en wx ⟨rfl, ⟨va', vf', vs', mb', cs', hWx⟩, hfx⟩; have hcx := hsl1.out wx (hfr.trans hfx))
        | (go_at_call 18; (with_reducible refine (arc_any _ _ _ _ hWx ha).mono ?_); rintro en wy ⟨rfl, ⟨va', vf', vs', mb', cs', hWy⟩, hfy⟩; have hcy := hsl1.out wy ((hfr.trans hfx).trans hfy)))
    all_goals
      go_wp2
      go_ret
      exact ⟨by show Ending.returned (.int .i64 s.names.length) = _; rw [HR.out], by rw [HR.out]; rw [← HZ.out]; exact ⟨_, _, _, _, _, hWy⟩, (hfr.trans hfx).trans hfy⟩
  · rw [if_neg he, Option.map_some, Addr.add_lit] at hd
    have hq1i : (1 : Int) ≤ (q : Int) := by omega
    have hsl1 := Lib.hid hsl1
    go_enter Try.func19, Try.ntmps19
    go_wp2_with fail
    refine (key_any 116 w.heap.size 0 [x :: r] 1 _ hls rfl (by omega)).mono ?_
    rintro en w1 ⟨rfl, hw1⟩
    have hW1 := hW0.new_ hw1 (by simp; omega)
    go_wp2_with fail
    refine (named_new (keyB 116 [x :: r]) hW1 hkl (by omega) HF.out).mono ?_
    rintro en w2 ⟨rfl, ⟨va2, vf2, vs2, mb2, cs2, hW2⟩, hf2⟩
    have hfr : NFr B0 w w2 := ((NFr.of_new hn0 hB).trans (NFr.of_new hw1 (by simp; omega))).trans hf2
    have hdw : New w2 w2.drew := (New.refl _).drew_
    have hfr := hfr.trans (NFr.of_new hdw hW2.size)
    have hW2 := hW2.new_ hdw hW2.size
    have hc2 := hsl1.out w2.drew hfr
    have hd2 : IntsK w2.drew (some ⟨b, off + 1, none⟩) (q - 1) (e - 1) r := hfr.ints hd
    have hih := ih _ _ _ hW2 hd2 (by omega)
    go_wp2
    go_region_held3 (fun w' => w'.cell? ⟨b, off, none⟩ = some (.int .i64 x)) (first | assumption)
      (first
        | (go_at_call 19; (with_reducible refine hih.mono ?_); rintro en wx ⟨rfl, ⟨va', vf', vs', mb', cs', hWx⟩, hfx⟩; have hcx := hsl1.out wx (hfr.trans hfx))
        | (go_at_call 18; (with_reducible refine (arc_any _ _ _ _ hWx ha).mono ?_); rintro en wy ⟨rfl, ⟨va', vf', vs', mb', cs', hWy⟩, hfy⟩; have hcy := hsl1.out wy ((hfr.trans hfx).trans hfy)))
    all_goals
      go_wp2
      go_ret
      exact ⟨by show Ending.returned (.int .i64 s.names.length) = _; rw [HR.out], by rw [HR.out]; rw [← HZ.out]; exact ⟨_, _, _, _, _, hWy⟩, (hfr.trans hfx).trans hfy⟩

/-- 'tail'. -/
theorem tail_any (l : List Int) : ∀ {w : World} {va vf vs : Value} {mb : Nat} {cs : List Value} {s : NS} (I : Option Addr) (q e : Nat), NetW w B0 p k H va vf vs mb cs s → IntsK w I q e l → q ≤ 100000 →
    s.names.length + l.length ≤ 100000 → s.arcs.length + l.length ≤ 1000000 → s.finals.length ≤ 100000 →
    Calls Try.prog 19 #[.pointer (some ⟨p, 0, none⟩), .slice I q e] w (NetPost B0 p k H w (.int .i64 (tailM s l).2) (tailM s l).1) := by
  induction l with
  | nil =>
    intro w va vf vs mb cs s I q e h hi hq hl ha hfl
    have hq0 : q = 0 := by have := hi.1.1; simp at this; omega
    subst hq0
    cases hf : nameAt s.names (keyB 116 [[]]) with
    | some i =>
      have e1 : tailM s [] = (s, i) := by rw [tailM, hf]
      rw [e1]
      exact tail_had [] i I 0 e h hi hq hf
    | none =>
      have e1 : tailM s [] = ({ s with names := s.names ++ [keyB 116 [[]]], finals := s.finals ++ [(s.names.length : Int)] }, (s.names.length : Int)) := by rw [tailM, hf]
      rw [e1]
      exact tail_nil I e h hi (by omega) (by omega) hf
  | cons x r ih =>
    intro w va vf vs mb cs s I q e h hi hq hl ha hfl
    simp only [List.length_cons] at hl ha
    cases hf : nameAt s.names (keyB 116 [x :: r]) with
    | some i =>
      have e1 : tailM s (x :: r) = (s, i) := by rw [tailM, hf]
      rw [e1]
      exact tail_had (x :: r) i I q e h hi hq hf
    | none =>
      refine tail_cons x r I q e h hi hq (by omega) hf ?_ ?_
      · have := (tailM_size r { s with names := s.names ++ [keyB 116 [x :: r]] }).2.1
        simp only at this
        omega
      · intro w1 va vf vs mb cs I1 q1 e1 h1 hi1 hq1
        exact ih I1 q1 e1 h1 hi1 hq1 (by simp; omega) (by simp; omega) (by simpa using hfl)

theorem and63 (x : Int) (h0 : 0 ≤ x) (h1 : x ≤ 100000) : bits BinOp.and IntKind.i64 x 63 = x % 64 := by
  have h := bits_mask .i64 63 (by decide) (fun n h0 h1 => by rw [show (2 : Int) ^ 63 = 9223372036854775808 by decide] at h1; rw [IntKind.wrap_i64]; omega) 6 (by decide) x h0 (by rw [show (2 : Int) ^ 63 = 9223372036854775808 by decide]; omega)
  rw [show ((2 : Int) ^ 6 - 1) = 63 by decide] at h
  rw [h]
  rfl
theorem lists_lit {w : World} (x y z : Int) : Lists ((w.alloc (.cells #[.int .i64 x, .int .i64 y, .int .i64 z] 3)).alloc (.cells #[.slice (some ⟨w.heap.size, 0, none⟩) 3 3] 22)) (w.heap.size + 1) 0 [[x, y, z]] := by
  intro j hj
  match j, hj with
  | 0, _ =>
    refine ⟨_, 3, 3, by simp [go_sem], ⟨rfl, by omega, fun _ => ⟨w.heap.size, 0, rfl, by simp; omega, ?_⟩⟩, by omega⟩
    intro j hj
    match j, hj with
    | 0, _ => simp [go_sem]
    | 1, _ => simp [go_sem]
    | 2, _ => simp [go_sem]

/-- 'writes'. -/
theorem writes_any (to sym : Int) (h : NetW w B0 p k H va vf vs mb cs s) (ht : 0 ≤ to ∧ to ≤ 100000) (hs : 0 ≤ sym ∧ sym ≤ 100000) (hl : s.names.length ≤ 100000) (ha : s.arcs.length ≤ 1000000) :
    Calls Try.prog 22 #[.pointer (some ⟨p, 0, none⟩), .int .i64 to, .int .i64 sym] w (NetPost B0 p k H w (.int .i64 (writesM s to sym).2) (writesM s to sym).1) := by
  have hB := h.size
  have hn0 : New w ((w.alloc (.cells #[.int .i64 (to / 64), .int .i64 (to % 64), .int .i64 sym] 3)).alloc (.cells #[.slice (some ⟨w.heap.size, 0, none⟩) 3 3] 22)) := ((New.refl w).alloc _).alloc _
  have hW0 := h.new_ hn0 hB
  have hkl : (keyB 119 [[to / 64, to % 64, sym]]).length ≤ 1000000 := by rw [keyM_len]; simp
  have HA := Lib.hid (and63 to ht.1 ht.2)
  obtain ⟨t1, t2⟩ := ht
  obtain ⟨s1, s2⟩ := hs
  cases hf : nameAt s.names (keyB 119 [[to / 64, to % 64, sym]]) with
  | some i =>
    have HR : Hid (writesM s to sym = (s, i)) := by unfold Hid writesM; rw [hf]
    have HF := Lib.hid hf
    clear hf
    go_enter Try.func22, Try.ntmps22
    go_wp2_with fail
    rw [HA.out]
    refine (key_any 119 (w.heap.size + 1) 0 [[to / 64, to % 64, sym]] 1 _ (lists_lit _ _ _) rfl (by omega)).mono ?_
    rintro en w1 ⟨rfl, hw1⟩
    have hW1 := hW0.new_ hw1 (by simp; omega)
    go_wp2_with fail
    refine (named_had (keyB 119 [[to / 64, to % 64, sym]]) i hW1 hkl HF.out).mono ?_
    rintro en w2 ⟨rfl, rfl⟩
    go_wp2
    go_ret
    exact ⟨by show Ending.returned (.int .i64 i) = _; rw [HR.out], by rw [HR.out]; exact ⟨_, _, _, _, _, hW1⟩, (NFr.of_new hn0 hB).trans (NFr.of_new hw1 (by simp; omega))⟩
  | none =>
    have HR : Hid (writesM s to sym = ({ s with names := s.names ++ [keyB 119 [[to / 64, to % 64, sym]]], arcs := s.arcs ++ [⟨s.names.length, to, 0, sym⟩] }, (s.names.length : Int))) := by unfold Hid writesM; rw [hf]
    have HF := Lib.hid hf
    clear hf
    go_enter Try.func22, Try.ntmps22
    go_wp2_with fail
    rw [HA.out]
    refine (key_any 119 (w.heap.size + 1) 0 [[to / 64, to % 64, sym]] 1 _ (lists_lit _ _ _) rfl (by omega)).mono ?_
    rintro en w1 ⟨rfl, hw1⟩
    have hW1 := hW0.new_ hw1 (by simp; omega)
    go_wp2_with fail
    refine (named_new (keyB 119 [[to / 64, to % 64, sym]]) hW1 hkl (by omega) HF.out).mono ?_
    rintro en w2 ⟨rfl, ⟨va2, vf2, vs2, mb2, cs2, hW2⟩, hf2⟩
    have hfr : NFr B0 w w2 := ((NFr.of_new hn0 hB).trans (NFr.of_new hw1 (by simp; omega))).trans hf2
    go_wp2_with fail
    refine (arc_any _ _ _ _ hW2 ha).mono ?_
    rintro en w3 ⟨rfl, hW3, hf3⟩
    go_wp2
    go_ret
    exact ⟨by show Ending.returned (.int .i64 s.names.length) = _; rw [HR.out], by rw [HR.out]; exact hW3, hfr.trans hf3⟩
end
end Go.Proofs.Ytglmlbmjppblbaa
