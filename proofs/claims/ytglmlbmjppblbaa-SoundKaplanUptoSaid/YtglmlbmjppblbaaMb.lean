/- The maker's done. -/
import Derived.Test.YtglmlbmjppblbaaMa
import Derived.Test.YtglmlbmjppblbaaR
namespace Go.Proofs.Ytglmlbmjppblbaa
open Go.RowKit Go.Kap Go.Maps
set_option maxRecDepth 1000000
section
variable {w w' : World} {B : Nat} {t : TB} {va vf vl : Value} {l : List (Int × Int)} {arcs : List ArcM} {fins : List Int}
def OnePost (w : World) (r : Value) (en : Ending) (w' : World) : Prop := en = .returned r ∧ New w w'
theorem done_ok (h : ThW w B t va vf vl l arcs fins) (h1 : l.length ≤ 3000) (h2 : arcs.length ≤ 20000) :
    Calls Try.prog 30 #[.pointer (some ⟨t.p, 0, none⟩)] w (OnePost w (.tuple #[.agg #[.int .i64 l.length, va, vf], .int .i64 0])) := by
  have c0 := (h.cellP 0).1
  have c1 := (h.cellP 1).1
  have c2 := (h.cellP 2).1
  have c3 := (h.cellP 3).1
  simp at c0 c1 c2 c3
  have hpl := lt_heap h.blk
  obtain ⟨Aa, ka, rfl, hk1, hk2, _⟩ := h.arcs.len
  obtain ⟨Af, kf, rfl, hk3, hk4, _⟩ := h.fins.len
  have q1 : ¬ (3000 : Int) < (l.length : Int) := by omega
  have q2 : ¬ (20000 : Int) < (arcs.length : Int) := by omega
  clear h
  go_enter Try.func30, Try.ntmps30
  go_wp2
  have hld := loadVar35 (w.alloc (.cells #[.int .i64 l.length, .slice Aa arcs.length ka, .slice Af fins.length kf] 35)) w.heap.size 0 (.int .i64 l.length) (.slice Aa arcs.length ka) (.slice Af fins.length kf) (by simp [go_sem]) (by simp [go_sem]) (by simp [go_sem])
  refine bodyPost_ret (results_ct Try.results30 _ _ _ ⟨w.heap.size, 0, none⟩ _ rfl hld) rfl ?_
  exact ⟨rfl, new_alloc w _⟩
theorem done_many (h : ThW w B t va vf vl l arcs fins) (h1 : l.length ≤ 3000000) (h2 : arcs.length ≤ 20000000) (h3 : 3000 < l.length ∨ 20000 < arcs.length) :
    Calls Try.prog 30 #[.pointer (some ⟨t.p, 0, none⟩)] w (OnePost w (.tuple #[.agg #[.int .i64 0, .slice none 0 0, .slice none 0 0], .int .i64 7])) := by
  have c0 := (h.cellP 0).1
  have c1 := (h.cellP 1).1
  have c2 := (h.cellP 2).1
  have c3 := (h.cellP 3).1
  simp at c0 c1 c2 c3
  have hpl := lt_heap h.blk
  obtain ⟨Aa, ka, rfl, hk1, hk2, _⟩ := h.arcs.len
  obtain ⟨Af, kf, rfl, hk3, hk4, _⟩ := h.fins.len
  clear h
  have hld := loadVar35 (w.alloc (.cells #[.int .i64 0, .slice none 0 0, .slice none 0 0] 35)) w.heap.size 0 (.int .i64 0) (.slice none 0 0) (.slice none 0 0) (by simp [go_sem]) (by simp [go_sem]) (by simp [go_sem])
  have HLD := Lib.hid hld
  clear hld
  by_cases q1 : 3000 < l.length
  · have q1' : (3000 : Int) < (l.length : Int) := by omega
    clear h3
    go_enter Try.func30, Try.ntmps30
    go_wp2
    refine bodyPost_ret (results_ct Try.results30 _ _ _ ⟨w.heap.size, 0, none⟩ _ rfl HLD.out) rfl ?_
    exact ⟨rfl, new_alloc w _⟩
  · have q1' : ¬ (3000 : Int) < (l.length : Int) := by omega
    have q2' : (20000 : Int) < (arcs.length : Int) := by omega
    clear h3
    go_enter Try.func30, Try.ntmps30
    go_wp2
    refine bodyPost_ret (results_ct Try.results30 _ _ _ ⟨w.heap.size, 0, none⟩ _ rfl HLD.out) rfl ?_
    exact ⟨rfl, new_alloc w _⟩
end
end Go.Proofs.Ytglmlbmjppblbaa
