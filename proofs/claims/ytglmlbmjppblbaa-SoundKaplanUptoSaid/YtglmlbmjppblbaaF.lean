/- Sound changes: Apply, All. -/
import Derived.Test.YtglmlbmjppblbaaE
namespace Go.Proofs.Ytglmlbmjppblbaa
open Go.RowKit Go.Kap

/-- A text, and an error: where there is none the text is this one, and p holds. -/
def TextPost (p : Prop) (xs : List Int) (w : World) (en : Ending) (w' : World) : Prop :=
  ∃ A n k z, en = .returned (.tuple #[.slice A n k, .int .i64 z]) ∧ (z = 0 → p ∧ Ints w' w'.heap.size A n k xs) ∧ New w w'

/-- .. and there is none where p holds. -/
def TextPostI (p : Prop) (xs : List Int) (w : World) (en : Ending) (w' : World) : Prop :=
  ∃ A n k z, en = .returned (.tuple #[.slice A n k, .int .i64 z]) ∧ (z = 0 → p ∧ Ints w' w'.heap.size A n k xs) ∧ (p → z = 0) ∧ New w w'

theorem okC_frm {c : ChgM} (h : okC c = true) : 0 < c.frm.length ∧ c.to.length ≤ 2 ∧ 1 ≤ c.kinds ∧ c.kinds ≤ 4 := by
  unfold okC at h
  simp only [Bool.and_eq_true, decide_eq_true_eq] at h
  omega

theorem appF_len (c : ChgM) (ht : c.to.length ≤ 2) (h0 : 0 < c.frm.length) : ∀ (f : Nat) (out inn : List Int), (appF c f out inn).length ≤ out.length + 2 * inn.length := by
  intro f
  induction f with
  | zero => intro out inn; simp [appF]
  | succ f ih =>
    intro out inn
    simp only [appF]
    split
    · omega
    · rename_i hn
      have h1 := ih (out ++ stepO c out inn) (inn.drop (stepN c out inn))
      have h2 := stepO_len c out inn ht
      have h3 := stepN_le c out inn hn
      have h4 := stepN_pos c out inn h0
      rw [List.length_append, List.length_drop] at h1
      omega
theorem applyM_len {c : ChgM} (h : okC c = true) (inn : List Int) : (applyM c inn).length ≤ 2 * inn.length := by
  have := appF_len c (okC_frm h).2.1 (okC_frm h).1 inn.length [] inn
  unfold applyM
  simpa using this

set_option maxRecDepth 100000 in
theorem applyOuter_any (k : Int) (H : ChgH) (c : ChgM) (I : Option Addr) (p e : Nat) (inn : List Int) (w : World) (h : Chg w w.heap.size H c) (hk : k = c.kinds) (hi : Ints w w.heap.size I p e inn) (hl : H.n3 ≤ 1048576) (hr : H.n4 ≤ 1048576) :
    Calls Try.prog 5 #[.agg #[.int .i64 k, .slice H.a1 H.n1 H.c1, .slice H.a2 H.n2 H.c2, .slice H.a3 H.n3 H.c3, .slice H.a4 H.n4 H.c4], .slice I p e] w
      (TextPostI (okC c = true ∧ inn.length ≤ 60 ∧ within inn c.kinds = true) (applyM c inn) w) := by
  have HK := Lib.hid hk
  have hn1 := new_alloc w (.cells #[.int .i64 k, .slice H.a1 H.n1 H.c1, .slice H.a2 H.n2 H.c2, .slice H.a3 H.n3 H.c3, .slice H.a4 H.n4 H.c4] 25)
  have h1 := h.new_ hn1
  have hi1 := hi.new_ hn1
  have HP := Lib.hid hi.1
  clear hk
  go_enter Try.func5, Try.ntmps5
  go_wp2_with fail
  refine (check_any k H c _ h1 HK.out hl hr).mono ?_
  rintro en w1 ⟨z, rfl, hz, hw1⟩
  have HZ := Lib.hid hz
  clear hz
  have hn2 := New.trans hn1 hw1
  have hbx : ∀ i, i < 5 → w1.cell? ⟨w.heap.size, i, none⟩ = (#[.int .i64 k, .slice H.a1 H.n1 H.c1, .slice H.a2 H.n2 H.c2, .slice H.a3 H.n3 H.c3, .slice H.a4 H.n4 H.c4] : Array Value)[i]? := by
    intro i hi
    rw [hw1.cell (by simp)]
    simp [go_sem]
  have hx0 := hbx 0 (by omega)
  have hx1 := hbx 1 (by omega)
  have hx2 := hbx 2 (by omega)
  have hx3 := hbx 3 (by omega)
  have hx4 := hbx 4 (by omega)
  simp at hx0 hx1 hx2 hx3 hx4
  have HBX := Lib.hid hbx
  clear hbx
  by_cases hz0 : z = 0
  · subst hz0
    have hok : okC c = true := HZ.out.1 rfl
    have HOK := Lib.hid hok
    obtain ⟨o1, o2, o3, o4⟩ := okC_frm hok
    clear hok
    have hi2 := hi1.new_ hw1
    by_cases h60 : 60 < p
    · go_wp2
      go_ret2
      exact ⟨_, _, _, _, rfl, (fun h => absurd h (by decide)), (fun h => absurd h.2.1 (by rw [HP.out]; omega)), hn2⟩
    · cases hwi : within inn k
      · have HWI := Lib.hid hwi
        clear hwi
        go_wp2_with fail
        refine (right_any I p e inn k _ hi2).mono ?_
        rw [HWI.out]
        rintro en w2 ⟨rfl, hw2⟩
        go_wp2
        go_ret2
        exact ⟨_, _, _, _, rfl, (fun h => absurd h (by decide)), (fun h => absurd h.2.2 (by rw [← HK.out, HWI.out]; decide)), hn2.trans hw2⟩
      · have HWI := Lib.hid hwi
        clear hwi
        go_wp2_with fail
        refine (right_any I p e inn k _ hi2).mono ?_
        rw [HWI.out]
        rintro en w2 ⟨rfl, hw2⟩
        have y0 := (hw2.cell (cell_lt hx0)).trans hx0
        have y1 := (hw2.cell (cell_lt hx1)).trans hx1
        have y2 := (hw2.cell (cell_lt hx2)).trans hx2
        have y3 := (hw2.cell (cell_lt hx3)).trans hx3
        have y4 := (hw2.cell (cell_lt hx4)).trans hx4
        have hc3 := (h.new_ hn2).new_ hw2
        have hi3 := hi2.new_ hw2
        clear hx0 hx1 hx2 hx3 hx4
        go_wp2_with fail
        refine (apply_any k H c I p e inn _ hc3 hi3 o1 o2 (by omega)).mono ?_
        rintro en w3 ⟨v, rfl, hrow, hw3⟩
        have hlen := applyM_len HOK.out inn
        rw [HP.out] at hlen
        obtain ⟨A, q, rfl, hints⟩ := Row.ints hrow (by omega)
        have HI := Lib.hid hints
        clear hints hrow hlen
        go_wp2
        go_ret2
        exact ⟨_, _, _, _, rfl, fun _ => ⟨⟨HOK.out, by rw [HP.out]; omega, by rw [← HK.out]; exact HWI.out⟩, HI.out⟩, (fun _ => rfl), (hn2.trans hw2).trans hw3⟩
  · have hzb : (z != 0) = true := by rw [bne_iff_ne]; exact hz0
    have HZ0 := Lib.hid hz0
    clear hz0
    go_wp2
    go_ret2
    exact ⟨_, _, _, z, rfl, (fun h => absurd h HZ0.out), (fun h => absurd (HZ.out.2 h.1) HZ0.out), hn2⟩

/-- A change's five cells lie there. -/
def ChgAt (w : World) (b off : Nat) (k : Int) (H : ChgH) : Prop :=
  ∀ i, i < 5 → w.cell? ⟨b, off + i, none⟩ = (#[.int .i64 k, .slice H.a1 H.n1 H.c1, .slice H.a2 H.n2 H.c2, .slice H.a3 H.n3 H.c3, .slice H.a4 H.n4 H.c4] : Array Value)[i]?
theorem ChgAt.get {w : World} {b off : Nat} {k : Int} {H : ChgH} (h : ChgAt w b off k H) : w.cell? ⟨b, off, none⟩ = some (.int .i64 k) ∧ w.cell? ⟨b, off + 1, none⟩ = some (.slice H.a1 H.n1 H.c1) ∧ w.cell? ⟨b, off + 2, none⟩ = some (.slice H.a2 H.n2 H.c2) ∧
    w.cell? ⟨b, off + 3, none⟩ = some (.slice H.a3 H.n3 H.c3) ∧ w.cell? ⟨b, off + 4, none⟩ = some (.slice H.a4 H.n4 H.c4) :=
  ⟨h 0 (by omega), h 1 (by omega), h 2 (by omega), h 3 (by omega), h 4 (by omega)⟩
theorem ChgAt.new_ {w w' : World} {b off : Nat} {k : Int} {H : ChgH} (h : ChgAt w b off k H) (hn : New w w') : ChgAt w' b off k H := fun i hi => by
  have hb : b < w.heap.size := cell_lt (a := ⟨b, off, none⟩) h.get.1
  rw [hn.cell hb]; exact h i hi

theorem checkAllLit_any (k k' : Int) (H : ChgH) (b off g : Nat) (n c : Nat) (w : World) (bb : Bool) (hb : Hid ((k != k') = bb)) (hg : w.cell? ⟨g, 0, none⟩ = some (.slice (some ⟨b, off, none⟩) n c)) (hn : 0 < n) (h0 : w.cell? ⟨b, off, none⟩ = some (.int .i64 k')) :
    Calls Try.prog 37 #[.agg #[.int .i64 k, .slice H.a1 H.n1 H.c1, .slice H.a2 H.n2 H.c2, .slice H.a3 H.n3 H.c3, .slice H.a4 H.n4 H.c4], .pointer (some ⟨g, 0, none⟩)] w fun e w' => e = .returned (.bool bb) ∧ New w w' := by
  have hgl := cell_lt hg
  have hbl := cell_lt h0
  go_enter Try.func37, Try.ntmps37
  go_wp2
  go_quiet (fail)
  go_wp2
  go_ret
  exact ⟨ret_bool hb.out, (new_alloc w _).drewN' _⟩

theorem call37 (args : Array Value) (w : World) : (callFunc 37 args).run Try.prog w = .ok (.enter 37 args) w := call_ok Try.func37 (by kernel_rfl) (by kernel_rfl) args w

theorem indexChange_any (b off g : Nat) (k k' : Int) (H H' : ChgH) (w : World) (bb : Bool) (hb : Hid ((k' != k) = bb)) (hg : w.cell? ⟨g, 0, none⟩ = some (.slice (some ⟨b, off, none⟩) 2 2)) (h1 : ChgAt w b off k H) (h2 : ChgAt w b (off + 5) k' H') :
    Calls Try.prog 48 #[.slice (some ⟨b, off, none⟩) 2 2, .func (.func 37) #[] #[.pointer (some ⟨g, 0, none⟩)]] w fun e w' => e = .returned (.int .i64 (if bb then 1 else -1)) ∧ New w w' := by
  have hkk : Hid ((k != k) = false) := by unfold Hid; simp
  have HC1 := Lib.hid h1
  have HC2 := Lib.hid h2
  clear h1 h2
  go_enter Try.func48, Try.ntmps48
  go_wp2
  go_loopw [8] (fun i wr => ((i = .int .i64 0) ∨ (i = .int .i64 1) ∨ (i = .int .i64 2 ∧ bb = false)) ∧ New w wr) (fun i _ => 2 - (intOf i).toNat)
  case atStart => exact ⟨.inl rfl, New.refl _⟩
  case round =>
    obtain ⟨rfl | rfl | ⟨rfl, rfl⟩, hw⟩ := hrel
    · obtain ⟨x0, x1, x2, x3, x4⟩ := (HC1.out.new_ hw).get
      have hg' := (hw.cell (cell_lt hg)).trans hg
      go_wp2_with fail
      refine (checkAllLit_any k k H b off g 2 2 _ false hkk hg' (by omega) x0).mono ?_
      rintro e w1 ⟨rfl, hw1⟩
      go_wp2
      go_roundw
      case rel => exact ⟨.inr (.inl rfl), hw.trans hw1⟩
      case measure => simp [intOf]
    · obtain ⟨x0, _⟩ := (HC1.out.new_ hw).get
      obtain ⟨y0, y1, y2, y3, y4⟩ := (HC2.out.new_ hw).get
      have hg' := (hw.cell (cell_lt hg)).trans hg
      cases bb
      · go_wp2_with fail
        refine (checkAllLit_any k' k H' b off g 2 2 _ false hb hg' (by omega) x0).mono ?_
        rintro e w1 ⟨rfl, hw1⟩
        go_wp2
        go_roundw
        case rel => exact ⟨.inr (.inr ⟨rfl, trivial⟩), hw.trans hw1⟩
        case measure => simp [intOf]
      · go_wp2_with fail
        refine (checkAllLit_any k' k H' b off g 2 2 _ true hb hg' (by omega) x0).mono ?_
        rintro e w1 ⟨rfl, hw1⟩
        go_wp2
        go_ret
        exact ⟨rfl, hw.trans hw1⟩
    · go_wp2
      go_ret
      exact ⟨rfl, hw⟩

theorem containsChange_any (b off g : Nat) (k k' : Int) (H H' : ChgH) (w : World) (bb : Bool) (hb : Hid ((k' != k) = bb)) (hg : w.cell? ⟨g, 0, none⟩ = some (.slice (some ⟨b, off, none⟩) 2 2)) (h1 : ChgAt w b off k H) (h2 : ChgAt w b (off + 5) k' H') :
    Calls Try.prog 36 #[.slice (some ⟨b, off, none⟩) 2 2, .func (.func 37) #[] #[.pointer (some ⟨g, 0, none⟩)]] w fun e w' => e = .returned (.bool bb) ∧ New w w' := by
  have HC1 := Lib.hid h1
  have HC2 := Lib.hid h2
  clear h1 h2
  cases bb
  · go_enter Try.func36, Try.ntmps36
    go_wp2_with fail
    refine (indexChange_any b off g k k' H H' _ false hb hg HC1.out HC2.out).mono ?_
    rintro e w' ⟨rfl, hn⟩
    go_wp2
    go_ret
    exact ⟨rfl, hn⟩
  · go_enter Try.func36, Try.ntmps36
    go_wp2_with fail
    refine (indexChange_any b off g k k' H H' _ true hb hg HC1.out HC2.out).mono ?_
    rintro e w' ⟨rfl, hn⟩
    go_wp2
    go_ret
    exact ⟨rfl, hn⟩

/-- Two changes that stand one behind the other. -/
structure Two (w : World) (b off : Nat) (k k' : Int) (H H' : ChgH) (c c' : ChgM) : Prop where
  at1 : ChgAt w b off k H
  at2 : ChgAt w b (off + 5) k' H'
  chg1 : Chg w w.heap.size H c
  chg2 : Chg w w.heap.size H' c'
  kinds1 : k = c.kinds
  kinds2 : k' = c'.kinds
  small1 : H.n3 ≤ 1048576 ∧ H.n4 ≤ 1048576
  small2 : H'.n3 ≤ 1048576 ∧ H'.n4 ≤ 1048576
theorem Two.new_ {w w' : World} {b off : Nat} {k k' : Int} {H H' : ChgH} {c c' : ChgM} (h : Two w b off k k' H H' c c') (hn : New w w') : Two w' b off k k' H H' c c' :=
  ⟨h.at1.new_ hn, h.at2.new_ hn, h.chg1.new_ hn, h.chg2.new_ hn, h.kinds1, h.kinds2, h.small1, h.small2⟩

set_option maxRecDepth 100000 in
theorem checkAll_any (b off : Nat) (k k' : Int) (H H' : ChgH) (c c' : ChgM) (w : World) (h : Two w b off k k' H H' c c') :
    Calls Try.prog 15 #[.slice (some ⟨b, off, none⟩) 2 2] w (ErrPost (okC c && okC c' && decide (c.kinds = c'.kinds)) w) := by
  have hn0 := new_alloc w (.cells #[.slice (some ⟨b, off, none⟩) 2 2] 31)
  have HT := Lib.hid (h.new_ hn0)
  clear h
  have hbx : ∀ wr, New (w.alloc (.cells #[.slice (some ⟨b, off, none⟩) 2 2] 31)) wr → wr.cell? ⟨w.heap.size, 0, none⟩ = some (.slice (some ⟨b, off, none⟩) 2 2) := by
    intro wr hw; rw [hw.cell (by simp)]; simp [go_sem]
  have HBX := Lib.hid hbx
  clear hbx
  go_enter Try.func15, Try.ntmps15
  go_wp2
  go_loopw [11] (fun i wr => ((i = .int .i64 0) ∨ (i = .int .i64 1 ∧ okC c = true) ∨ (i = .int .i64 2 ∧ okC c = true ∧ okC c' = true)) ∧ New (w.alloc (.cells #[.slice (some ⟨b, off, none⟩) 2 2] 31)) wr) (fun i _ => 2 - (intOf i).toNat)
  case atStart => exact ⟨.inl rfl, New.refl _⟩
  case round =>
    obtain ⟨rfl | ⟨rfl, hok⟩ | ⟨rfl, hok, hok'⟩, hw⟩ := hrel
    · have hz := hw.size
      simp only [World.size_alloc] at hz
      have hT := HT.out.new_ hw
      obtain ⟨x0, x1, x2, x3, x4⟩ := hT.at1.get
      have hc := hT.chg1.new_ (new_alloc wr (.cells #[.int .i64 k, .slice H.a1 H.n1 H.c1, .slice H.a2 H.n2 H.c2, .slice H.a3 H.n3 H.c3, .slice H.a4 H.n4 H.c4] 25))
      have HH := Lib.hid hT
      clear hT
      go_wp2_with fail
      refine (check_any k H c _ hc HH.out.kinds1 HH.out.small1.1 HH.out.small1.2).mono ?_
      rintro e w1 ⟨z, rfl, hz1, hw1⟩
      have HZ := Lib.hid hz1
      have hn1 := hw.trans (New.trans (new_alloc wr _) hw1)
      clear hz1 hc x0 x1 x2 x3 x4
      by_cases hz0 : z = 0
      · subst hz0
        have HOK := Lib.hid (HZ.out.1 rfl)
        go_wp2
        go_roundw
        case rel => exact ⟨.inr (.inl ⟨rfl, HOK.out⟩), hn1⟩
        case measure => simp [intOf]
      · have hzb : (z != 0) = true := by rw [bne_iff_ne]; exact hz0
        have HZ0 := Lib.hid hz0
        clear hz0
        go_wp2
        go_ret
        refine ⟨z, rfl, ⟨fun h => absurd h HZ0.out, fun h => absurd ?_ HZ0.out⟩, New.trans hn0 hn1⟩
        simp only [Bool.and_eq_true] at h
        exact HZ.out.2 h.1.1
    · have HOK1 := Lib.hid hok
      clear hok
      have hz := hw.size
      simp only [World.size_alloc] at hz
      have hT := HT.out.new_ hw
      obtain ⟨x0, x1, x2, x3, x4⟩ := hT.at2.get
      have hc := hT.chg2.new_ (new_alloc wr (.cells #[.int .i64 k', .slice H'.a1 H'.n1 H'.c1, .slice H'.a2 H'.n2 H'.c2, .slice H'.a3 H'.n3 H'.c3, .slice H'.a4 H'.n4 H'.c4] 25))
      have HH := Lib.hid hT
      clear hT
      go_wp2_with fail
      refine (check_any k' H' c' _ hc HH.out.kinds2 HH.out.small2.1 HH.out.small2.2).mono ?_
      rintro e w1 ⟨z, rfl, hz1, hw1⟩
      have HZ := Lib.hid hz1
      have hn1 := hw.trans (New.trans (new_alloc wr _) hw1)
      clear hz1 hc x0 x1 x2 x3 x4
      by_cases hz0 : z = 0
      · subst hz0
        have HOK := Lib.hid (HZ.out.1 rfl)
        go_wp2
        go_roundw
        case rel => exact ⟨.inr (.inr ⟨rfl, HOK1.out, HOK.out⟩), hn1⟩
        case measure => simp [intOf]
      · have hzb : (z != 0) = true := by rw [bne_iff_ne]; exact hz0
        have HZ0 := Lib.hid hz0
        clear hz0
        go_wp2
        go_ret
        refine ⟨z, rfl, ⟨fun h => absurd h HZ0.out, fun h => absurd ?_ HZ0.out⟩, New.trans hn0 hn1⟩
        simp only [Bool.and_eq_true] at h
        exact HZ.out.2 h.1.2
    · have HOK1 := Lib.hid hok
      have HOK2 := Lib.hid hok'
      clear hok hok'
      have hT := HT.out.new_ hw
      have hg := HBX.out wr hw
      have HH := Lib.hid hT
      clear hT
      have hz := hw.size
      simp only [World.size_alloc] at hz
      have HKE : Hid ((okC c && okC c' && decide (c.kinds = c'.kinds)) = decide (k' = k)) := by
        unfold Hid
        rw [HOK1.out, HOK2.out, ← HH.out.kinds1, ← HH.out.kinds2, Bool.eq_iff_iff]
        simp
        exact ⟨fun h => h.symm, fun h => h.symm⟩
      by_cases hk : k' = k
      · have hb : Hid ((k' != k) = false) := by unfold Hid; simpa using hk
        have HKK := Lib.hid hk
        clear hk
        go_wp2_with fail
        refine (containsChange_any b off w.heap.size k k' H H' _ false hb hg HH.out.at1 HH.out.at2).mono ?_
        rintro e w1 ⟨rfl, hw1⟩
        go_wp2
        go_ret
        refine ⟨0, rfl, ?_, New.trans hn0 (hw.trans hw1)⟩
        rw [HKE.out]
        simpa using HKK.out
      · have hb : Hid ((k' != k) = true) := by unfold Hid; rw [bne_iff_ne]; exact hk
        have HKK := Lib.hid hk
        clear hk
        go_wp2_with fail
        refine (containsChange_any b off w.heap.size k k' H H' _ true hb hg HH.out.at1 HH.out.at2).mono ?_
        rintro e w1 ⟨rfl, hw1⟩
        go_wp2
        go_ret
        refine ⟨7, rfl, ?_, New.trans hn0 (hw.trans hw1)⟩
        rw [HKE.out]
        simpa using HKK.out

def allProp (c c' : ChgM) (inn : List Int) : Prop := okC c = true ∧ okC c' = true ∧ c.kinds = c'.kinds ∧ within inn c.kinds = true

set_option maxHeartbeats 1600000 in
set_option maxRecDepth 100000 in
theorem all_any (b off : Nat) (k k' : Int) (H H' : ChgH) (c c' : ChgM) (I : Option Addr) (p e : Nat) (inn : List Int) (w : World) (h : Two w b off k k' H H' c c') (hi : Ints w w.heap.size I p e inn) (hp : p ≤ 1048576) :
    Calls Try.prog 6 #[.slice (some ⟨b, off, none⟩) 2 2, .slice I p e] w (TextPost (allProp c c' inn) (applyM c' (applyM c inn)) w) := by
  have HT := Lib.hid h
  have HP := Lib.hid hi.1
  go_enter Try.func6, Try.ntmps6
  go_wp2_with fail
  refine (checkAll_any b off k k' H H' c c' _ h).mono ?_
  rintro en w1 ⟨z, rfl, hz, hw1⟩
  have HZ := Lib.hid hz
  clear hz h
  by_cases hz0 : z = 0
  · subst hz0
    have hok := HZ.out.1 rfl
    simp only [Bool.and_eq_true, decide_eq_true_eq] at hok
    obtain ⟨o1, o2, o3, o4⟩ := okC_frm hok.1.1
    obtain ⟨q1, q2, q3, q4⟩ := okC_frm hok.1.2
    have HOK := Lib.hid hok
    clear hok
    have HT1 := Lib.hid (HT.out.new_ hw1)
    obtain ⟨x0, x1, x2, x3, x4⟩ := HT1.out.at1.get
    have hi2 := hi.new_ hw1
    by_cases h60 : 60 < p
    · go_wp2
      go_ret2
      exact ⟨_, _, _, _, rfl, (fun h => absurd h (by decide)), hw1⟩
    · cases hwi : within inn k
      · have HWI := Lib.hid hwi
        clear hwi
        go_wp2_with fail
        refine (right_any I p e inn k _ hi2).mono ?_
        rw [HWI.out]
        rintro en w2 ⟨rfl, hw2⟩
        go_wp2
        go_ret2
        exact ⟨_, _, _, _, rfl, (fun h => absurd h (by decide)), hw1.trans hw2⟩
      · have HWI := Lib.hid hwi
        clear hwi
        go_wp2_with fail
        refine (right_any I p e inn k _ hi2).mono ?_
        rw [HWI.out]
        rintro en w2 ⟨rfl, hw2⟩
        go_wp2_with fail
        refine (clone_any I p e inn _ (hi2.new_ hw2) (by omega)).mono ?_
        rintro en w3 ⟨v, rfl, hrow, hw3⟩
        obtain ⟨A3, c3, rfl, hi3⟩ := Row.ints hrow (by omega)
        have hn3 := (hw1.trans hw2).trans hw3
        have hl1 := applyM_len HOK.out.1.1 inn
        have hl2 := applyM_len HOK.out.1.2 (applyM c inn)
        rw [HP.out] at hl1
        clear x0 x1 x2 x3 x4 hrow
        go_wp2
        go_loopw [1, 33] (fun t i wr => (∃ A q u, t = .slice A q u ∧ ((i = .int .i64 0 ∧ Ints wr wr.heap.size A q u inn) ∨ (i = .int .i64 1 ∧ Ints wr wr.heap.size A q u (applyM c inn)) ∨ (i = .int .i64 2 ∧ Ints wr wr.heap.size A q u (applyM c' (applyM c inn))))) ∧ New w wr) (fun _ i _ => 2 - (intOf i).toNat)
        case atStart => exact ⟨⟨A3, p, c3, rfl, .inl ⟨rfl, hi3⟩⟩, hn3⟩
        case round =>
          obtain ⟨⟨A, q, u, rfl, ⟨rfl, hit⟩ | ⟨rfl, hit⟩ | ⟨rfl, hit⟩⟩, hwr⟩ := hrel
          · have hT := HT.out.new_ hwr
            obtain ⟨x0, x1, x2, x3, x4⟩ := hT.at1.get
            have hq := hit.1
            have HQ := Lib.hid hq
            have hpq : p = q := by rw [← HP.out, HQ.out]
            have hc1 := hT.chg1.new_ (new_alloc wr (.cells #[.int .i64 k, .slice H.a1 H.n1 H.c1, .slice H.a2 H.n2 H.c2, .slice H.a3 H.n3 H.c3, .slice H.a4 H.n4 H.c4] 25))
            have hit1 := hit.new_ (new_alloc wr (.cells #[.int .i64 k, .slice H.a1 H.n1 H.c1, .slice H.a2 H.n2 H.c2, .slice H.a3 H.n3 H.c3, .slice H.a4 H.n4 H.c4] 25))
            have hq60 : ¬ 60 < q := by omega
            have HH := Lib.hid hT
            clear hT hq hpq
            go_wp2_with fail
            refine (apply_any k H c A q u inn _ hc1 hit1 o1 o2 (by omega)).mono ?_
            rintro en w4 ⟨v, rfl, hrow4, hw4⟩
            obtain ⟨A4, c4, rfl, hi4⟩ := Row.ints hrow4 (by omega)
            have hn4 := hwr.trans (New.trans (new_alloc wr _) hw4)
            have hln := hi4.1
            have HI4 := Lib.hid hi4
            clear hrow4 hi4 hln hc1 hit1 x0 x1 x2 x3 x4
            go_wp2
            go_roundw
            case rel => exact ⟨⟨_, _, _, rfl, .inr (.inl ⟨rfl, HI4.out⟩)⟩, hn4⟩
            case measure => simp [intOf]
          · have hT := HT.out.new_ hwr
            obtain ⟨x0, x1, x2, x3, x4⟩ := hT.at2.get
            have HQ := Lib.hid hit.1
            have hqb : q ≤ 2 * p := by rw [← HQ.out]; exact hl1
            have hc1 := hT.chg2.new_ (new_alloc wr (.cells #[.int .i64 k', .slice H'.a1 H'.n1 H'.c1, .slice H'.a2 H'.n2 H'.c2, .slice H'.a3 H'.n3 H'.c3, .slice H'.a4 H'.n4 H'.c4] 25))
            have hit1 := hit.new_ (new_alloc wr (.cells #[.int .i64 k', .slice H'.a1 H'.n1 H'.c1, .slice H'.a2 H'.n2 H'.c2, .slice H'.a3 H'.n3 H'.c3, .slice H'.a4 H'.n4 H'.c4] 25))
            have HH := Lib.hid hT
            clear hT
            by_cases hq60 : 60 < q
            · go_wp2
              go_ret2
              exact ⟨_, _, _, _, rfl, (fun h => absurd h (by decide)), hwr.trans (new_alloc wr _)⟩
            · go_wp2_with fail
              refine (apply_any k' H' c' A q u (applyM c inn) _ hc1 hit1 q1 q2 (by omega)).mono ?_
              rintro en w4 ⟨v, rfl, hrow4, hw4⟩
              obtain ⟨A4, c4, rfl, hi4⟩ := Row.ints hrow4 (by omega)
              have hn4 := hwr.trans (New.trans (new_alloc wr _) hw4)
              have HI4 := Lib.hid hi4
              clear hrow4 hi4 hc1 hit1 x0 x1 x2 x3 x4
              go_wp2
              go_roundw
              case rel => exact ⟨⟨_, _, _, rfl, .inr (.inr ⟨rfl, HI4.out⟩)⟩, hn4⟩
              case measure => simp [intOf]
          · have HIT := Lib.hid hit
            clear hit
            go_wp2
            go_ret2
            exact ⟨_, _, _, _, rfl, (fun _ => ⟨⟨HOK.out.1.1, HOK.out.1.2, HOK.out.2, by rw [← HT.out.kinds1]; exact HWI.out⟩, HIT.out⟩), hwr⟩
  · have hzb : (z != 0) = true := by rw [bne_iff_ne]; exact hz0
    have HZ0 := Lib.hid hz0
    clear hz0
    go_wp2
    go_ret2
    exact ⟨_, _, _, z, rfl, (fun h => absurd h HZ0.out), hw1⟩


def begunC : ChgM := ⟨2, [1], [2], [⟨[2], true⟩], []⟩
theorem begun_plain : okC begunC = true ∧ ([1, 1, 2, 1] : List Int).length ≤ 60 ∧ within [1, 1, 2, 1] begunC.kinds = true := by decide
theorem begun_apply : applyM begunC [1, 1, 2, 1] = [2, 2, 2, 2] := by decide
theorem getD_lit4 (a b c d : Int) (j : Nat) (h : j < 4) : ([a, b, c, d] : List Int).getD j 0 = (#[a, b, c, d] : Array Int)[j]?.getD 0 := by
  match j, h with
  | 0, _ => rfl
  | 1, _ => rfl
  | 2, _ => rfl
  | 3, _ => rfl

set_option maxRecDepth 100000 in
theorem begun_any (w : World) : Calls Try.prog 4 #[] w fun e w' => e = .returned (.bool true) ∧ New w w' := by
  have HA := Lib.hid begun_apply
  have HB := Lib.hid begun_plain
  generalize hxs : ([1, 1, 2, 1] : List Int) = xs at *
  go_enter Try.func4, Try.ntmps4
  go_wp2_with fail
  have hn : New w (((((w.alloc (.cells #[.int .i64 1] 3)).alloc (.cells #[.int .i64 2] 3)).alloc (.cells #[.int .i64 2] 3)).alloc (.cells #[.slice (some ⟨w.heap.size + 1 + 1, 0, none⟩) 1 1, .bool true] 45)).alloc (.cells #[.int .i64 1, .int .i64 1, .int .i64 2, .int .i64 1] 3)) :=
    ((((New.refl w).alloc _).alloc _).alloc _).alloc _ |>.alloc _
  refine (applyOuter_any 2 ⟨some ⟨w.heap.size, 0, none⟩, 1, 1, some ⟨w.heap.size + 1, 0, none⟩, 1, 1, some ⟨w.heap.size + 1 + 1 + 1, 0, none⟩, 1, 1, none, 0, 0⟩ begunC _ 4 4 xs _ ?_ rfl ?_ (by dsimp only; omega) (by dsimp only; omega)).mono ?_
  · refine ⟨⟨rfl, (by dsimp only; omega), fun _ => ⟨_, _, rfl, (by simp <;> omega), fun j hj => ?_⟩⟩, ⟨rfl, (by dsimp only; omega), fun _ => ⟨_, _, rfl, (by simp <;> omega), fun j hj => ?_⟩⟩, ⟨rfl, (by dsimp only; omega), fun _ => ⟨_, _, rfl, by simp, fun j hj => ?_⟩⟩, ⟨rfl, (by dsimp only; omega), fun h => absurd h (by dsimp only; omega)⟩⟩
    · obtain rfl : j = 0 := by dsimp only at hj; omega
      simp [go_sem, begunC]
    · obtain rfl : j = 0 := by dsimp only at hj; omega
      simp [go_sem, begunC]
    · obtain rfl : j = 0 := by dsimp only at hj; omega
      refine ⟨some ⟨w.heap.size + 1 + 1, 0, none⟩, 1, 1, by simp [go_sem], ⟨rfl, (by omega), fun _ => ⟨_, _, rfl, (by simp <;> omega), fun i hi => ?_⟩⟩, by simp [go_sem, begunC]⟩
      obtain rfl : i = 0 := by omega
      simp [go_sem, begunC]
  · subst hxs
    refine ⟨rfl, (by omega), fun _ => ⟨_, _, rfl, by simp, fun j hj => ?_⟩⟩
    match j, hj with
    | 0, _ => simp [go_sem]
    | 1, _ => simp [go_sem]
    | 2, _ => simp [go_sem]
    | 3, _ => simp [go_sem]
  · rintro en w1 ⟨A, n, k, z, rfl, hz1, hz2, hw1⟩
    have hz0 : z = 0 := hz2 HB.out
    subst hz0
    have hi := (hz1 rfl).2
    rw [HA.out] at hi
    have hn1 := hn.trans hw1
    have hi1 := hi.new_ (new_alloc w1 (.cells #[.int .i64 2, .int .i64 2, .int .i64 2, .int .i64 2] 3))
    have hj1 : Ints (w1.alloc (.cells #[.int .i64 2, .int .i64 2, .int .i64 2, .int .i64 2] 3)) (w1.alloc (.cells #[.int .i64 2, .int .i64 2, .int .i64 2, .int .i64 2] 3)).heap.size (some ⟨w1.heap.size, 0, none⟩) 4 4 [2, 2, 2, 2] := by
      refine ⟨rfl, (by omega), fun _ => ⟨_, _, rfl, by simp, fun j hj => ?_⟩⟩
      match j, hj with
      | 0, _ => simp [go_sem]
      | 1, _ => simp [go_sem]
      | 2, _ => simp [go_sem]
      | 3, _ => simp [go_sem]
    have hs := same_any A (some ⟨w1.heap.size, 0, none⟩) n k 4 4 [2, 2, 2, 2] [2, 2, 2, 2] _ hi1 hj1
    rw [show decide (([2, 2, 2, 2] : List Int) = [2, 2, 2, 2]) = true from by decide] at hs
    have HS := Lib.hid hs
    clear hs hi hi1 hj1 hz1 hz2
    go_wp2_with fail
    refine HS.out.mono ?_
    rintro en w2 ⟨rfl, q, rfl⟩
    go_wp2
    go_ret
    exact ⟨rfl, (hn1.trans (new_alloc w1 _)).drewN _⟩
end Go.Proofs.Ytglmlbmjppblbaa
