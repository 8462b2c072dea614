/- Sound changes: spots, turns, steps. -/
import Derived.Test.YtglmlbmjppblbaaB
namespace Go.Proofs.Ytglmlbmjppblbaa
open Go.RowKit Go.Kap

structure SpotM where
  any : List Int
  edge : Bool
  deriving Inhabited
structure ChgM where
  kinds : Int
  frm : List Int
  to : List Int
  left : List SpotM
  right : List SpotM

def Spots (w : World) (B : Nat) (A : Option Addr) (n c : Nat) (l : List SpotM) : Prop :=
  l.length = n ∧ (n ≤ 1099511627776 ∧ n ≤ c ∧ c ≤ 9223372036854775807) ∧ (0 < n → ∃ b off, A = some ⟨b, off, none⟩ ∧ b < B ∧ ∀ j, j < n → ∃ A' n' c', w.cell? ⟨b, off + j * 2, none⟩ = some (.slice A' n' c') ∧ Ints w B A' n' c' (l.getD j default).any ∧
    w.cell? ⟨b, off + j * 2 + 1, none⟩ = some (.bool (l.getD j default).edge))
theorem Spots.keep {w w' : World} {B n c : Nat} {A : Option Addr} {l : List SpotM} (h : Spots w B A n c l) (hk : ∀ p : Addr, p.block < B → w'.cell? p = w.cell? p) : Spots w' B A n c l :=
  ⟨h.1, h.2.1, fun hn => by
    obtain ⟨b, off, e, hb, hc⟩ := h.2.2 hn
    refine ⟨b, off, e, hb, fun j hj => ?_⟩
    obtain ⟨A', n', c', h1, h2, h3⟩ := hc j hj
    exact ⟨A', n', c', (hk _ hb).trans h1, h2.keep hk, (hk _ hb).trans h3⟩⟩
theorem Spots.more {w : World} {B B' n c : Nat} {A : Option Addr} {l : List SpotM} (h : Spots w B A n c l) (hB : B ≤ B') : Spots w B' A n c l :=
  ⟨h.1, h.2.1, fun hn => by
    obtain ⟨b, off, e, hb, hc⟩ := h.2.2 hn
    refine ⟨b, off, e, by omega, fun j hj => ?_⟩
    obtain ⟨A', n', c', h1, h2, h3⟩ := hc j hj
    exact ⟨A', n', c', h1, h2.more hB, h3⟩⟩
theorem Spots.below {w w' : World} {B n c : Nat} {A : Option Addr} {l : List SpotM} (h : Spots w B A n c l) (hb : Below B w w') : Spots w' B A n c l := h.keep fun _ hp => hb.cell hp

/-- The five cells of a change, as slots. -/
structure ChgH where
  a1 : Option Addr
  n1 : Nat
  c1 : Nat
  a2 : Option Addr
  n2 : Nat
  c2 : Nat
  a3 : Option Addr
  n3 : Nat
  c3 : Nat
  a4 : Option Addr
  n4 : Nat
  c4 : Nat
/-- What a change's value reads as. -/
structure Chg (w : World) (B : Nat) (h : ChgH) (c : ChgM) : Prop where
  frm : Ints w B h.a1 h.n1 h.c1 c.frm
  to : Ints w B h.a2 h.n2 h.c2 c.to
  left : Spots w B h.a3 h.n3 h.c3 c.left
  right : Spots w B h.a4 h.n4 h.c4 c.right
theorem Chg.keep {w w' : World} {B : Nat} {h : ChgH} {c : ChgM} (x : Chg w B h c) (hk : ∀ p : Addr, p.block < B → w'.cell? p = w.cell? p) : Chg w' B h c :=
  ⟨x.frm.keep hk, x.to.keep hk, x.left.keep hk, x.right.keep hk⟩
theorem Chg.below {w w' : World} {B : Nat} {h : ChgH} {c : ChgM} (x : Chg w B h c) (hb : Below B w w') : Chg w' B h c := x.keep fun _ hp => hb.cell hp
theorem Chg.more {w : World} {B B' : Nat} {h : ChgH} {c : ChgM} (x : Chg w B h c) (hB : B ≤ B') : Chg w B' h c :=
  ⟨x.frm.more hB, x.to.more hB, x.left.more hB, x.right.more hB⟩

def matchesM (s : SpotM) (l : List Int) (at_ : Int) : Bool :=
  if at_ < 0 ∨ (l.length : Int) ≤ at_ then s.edge && (decide (at_ = -1) || decide (at_ = l.length)) else decide (l.getD at_.toNat 0 ∈ s.any)

theorem Spots.new_ {w w' : World} {n c : Nat} {A : Option Addr} {l : List SpotM} (h : Spots w w.heap.size A n c l) (hb : New w w') : Spots w' w'.heap.size A n c l := (h.below hb).more hb.size
theorem Chg.new_ {w w' : World} {h : ChgH} {c : ChgM} (x : Chg w w.heap.size h c) (hb : New w w') : Chg w' w'.heap.size h c := (x.below hb).more hb.size

theorem contains_q (A : Option Addr) (n c : Nat) (xs : List Int) (t : Int) (w : World) (q : Nat) (h : Ints w w.heap.size A n c xs) :
    Calls Try.prog 52 #[.slice A n c, .int .i64 t] (w.drewN q) fun e w' => e = .returned (.bool (decide (t ∈ xs))) ∧ ∃ m, w' = w.drewN m :=
  Calls.quiet_of_same ((contains_any A n c xs t (w.drewN q) h).mono fun _ _ ⟨a, b⟩ => ⟨a, b.symm⟩)
theorem equal_q (A C : Option Addr) (n c m d : Nat) (xs ys : List Int) (w : World) (q : Nat) (h : Ints w w.heap.size A n c xs) (h' : Ints w w.heap.size C m d ys) :
    Calls Try.prog 50 #[.slice A n c, .slice C m d] (w.drewN q) fun e w' => e = .returned (.bool (decide (xs = ys))) ∧ ∃ k, w' = w.drewN k :=
  Calls.quiet_of (equal_any A C n c m d xs ys (w.drewN q) h h')
theorem equal_qb (A C : Option Addr) (n c m d : Nat) (xs ys : List Int) (w : World) (q : Nat) (b : Bool) (hb : Hid (decide (xs = ys) = b)) (h : Ints w w.heap.size A n c xs) (h' : Ints w w.heap.size C m d ys) :
    Calls Try.prog 50 #[.slice A n c, .slice C m d] (w.drewN q) fun e w' => e = .returned (.bool b) ∧ ∃ k, w' = w.drewN k := by
  rw [← hb.out]; exact equal_q A C n c m d xs ys w q h h'
theorem _root_.Go.RowKit.Below.drewN' {B : Nat} {a w : World} (h : Below B a w) (n : Nat) : Below B a (w.drewN n) := ⟨h.os, h.tape, h.output, h.size, h.block⟩

theorem matches_any (A : Option Addr) (n c : Nat) (L : Option Addr) (m d : Nat) (s : SpotM) (l : List Int) (t : Int) (w : World) (h : Ints w w.heap.size A n c s.any) (hl : Ints w w.heap.size L m d l)
    (h1 : -4611686018427387904 ≤ t) (h2 : t ≤ 4611686018427387904) :
    Calls Try.prog 51 #[.agg #[.slice A n c, .bool s.edge], .slice L m d, .int .i64 t] w fun e w' => e = .returned (.bool (matchesM s l t)) ∧ New w w' := by
  have h' : Ints (w.alloc (.cells #[.slice A n c, .bool s.edge] 45)) (w.alloc (.cells #[.slice A n c, .bool s.edge] 45)).heap.size A n c s.any := h.below' ((Below.refl _ _).alloc (Nat.le_refl _) _) (by simp)
  obtain ⟨hn, hb, hc⟩ := hl
  have HN := Lib.hid hn
  clear hn
  have HM : Hid (matchesM s l t = if t < 0 ∨ (m : Int) ≤ t then s.edge && (decide (t = -1) || decide (t = m)) else decide (l.getD t.toNat 0 ∈ s.any)) := by
    unfold Hid matchesM
    rw [HN.out]
  generalize s.edge = ed at *
  by_cases ht : t < 0
  · go_enter Try.func51, Try.ntmps51
    go_wp2
    all_goals
      go_ret
      refine ⟨ret_bool ?_, (Below.refl _ _).alloc (Nat.le_refl _) _⟩
      rw [HM.out, if_pos (.inl (by omega)), Bool.eq_iff_iff]
      simp [*] <;> omega
  · by_cases ht2 : (m : Int) ≤ t
    · go_enter Try.func51, Try.ntmps51
      go_wp2
      all_goals
        go_ret
        refine ⟨ret_bool ?_, (Below.refl _ _).alloc (Nat.le_refl _) _⟩
        rw [HM.out, if_pos (.inr (by omega)), Bool.eq_iff_iff]
        simp [*] <;> omega
    · obtain ⟨k, rfl⟩ := Int.eq_ofNat_of_zero_le (by omega : 0 ≤ t)
      have hk : k < m := by omega
      obtain ⟨b, off, rfl, hbB, hc⟩ := hc (by omega)
      have hck := hc k hk
      rw [Int.toNat_natCast] at HM
      generalize hx : l.getD k 0 = x at *
      have HX := Lib.hid hx
      clear hx hc
      go_enter Try.func51, Try.ntmps51
      go_wp2
      go_quiet ((go_at_call 52; exact contains_q _ _ _ _ _ _ _ h'))
      go_wp2
      go_ret
      exact ⟨ret_bool (by rw [HM.out, if_neg (by omega)]), ((Below.refl _ _).alloc (Nat.le_refl _) _).drewN' _⟩

def leftTo (ls : List SpotM) (out : List Int) (k : Nat) : Bool := (List.range k).all fun i => matchesM (ls.getD i default) out ((out.length : Int) - ls.length + i)
def turnsM (c : ChgM) (out inn : List Int) : Bool :=
  decide (c.frm.length ≤ inn.length) && decide (inn.take c.frm.length = c.frm) && leftTo c.left out c.left.length && (decide (c.right.length = 0) || matchesM (c.right.getD 0 default) inn c.frm.length)
theorem leftTo_succ (ls : List SpotM) (out : List Int) (k : Nat) : leftTo ls out (k + 1) = (leftTo ls out k && matchesM (ls.getD k default) out ((out.length : Int) - ls.length + k)) := by
  unfold leftTo; rw [List.range_succ, List.all_append]; simp
theorem leftTo_false (ls : List SpotM) (out : List Int) (k n : Nat) (hk : k < n) (h : matchesM (ls.getD k default) out ((out.length : Int) - ls.length + k) = false) : leftTo ls out n = false := by
  unfold leftTo
  rw [List.all_eq_false]
  exact ⟨k, by simpa using hk, by rw [h]; decide⟩
theorem Ints.take {w : World} {B n c : Nat} {A : Option Addr} {xs : List Int} (h : Ints w B A n c xs) {k : Nat} (hk : k ≤ n) : Ints w B A k c (xs.take k) := by
  obtain ⟨h1, h2, h3⟩ := h
  refine ⟨by rw [List.length_take]; omega, by omega, fun h0 => ?_⟩
  obtain ⟨b, off, e, hb, hc⟩ := h3 (by omega)
  refine ⟨b, off, e, hb, fun j hj => ?_⟩
  rw [hc j (by omega)]
  simp [List.getD, hj]

theorem new_alloc (w : World) (o : Obj) : Below w.heap.size w (w.alloc o) := (Below.refl _ _).alloc (Nat.le_refl _) _
theorem cell_old {w w1 wr : World} {o : Obj} (h1 : w1 = w.alloc o) (h : Below (w.heap.size + 1) w1 wr) {p : Addr} (hp : p.block < w.heap.size) : wr.cell? p = w.cell? p := by
  rw [h.cell (by omega), h1]; exact World.cell?_alloc_lt w o p hp
theorem below_old {w wr : World} {o : Obj} (h : Below (w.heap.size + 1) (w.alloc o) wr) : Below w.heap.size w wr := (new_alloc w o).trans (h.mono (by omega))

set_option maxRecDepth 100000 in
theorem turns_any (k : Int) (H : ChgH) (c : ChgM) (O I : Option Addr) (m d p e : Nat) (out inn : List Int) (w : World) (h : Chg w w.heap.size H c) (ho : Ints w w.heap.size O m d out) (hi : Ints w w.heap.size I p e inn) :
    Calls Try.prog 40 #[.agg #[.int .i64 k, .slice H.a1 H.n1 H.c1, .slice H.a2 H.n2 H.c2, .slice H.a3 H.n3 H.c3, .slice H.a4 H.n4 H.c4], .slice O m d, .slice I p e] w fun e w' => e = .returned (.bool (turnsM c out inn)) ∧ New w w' := by
  obtain ⟨a1, n1, c1, a2, n2, c2, a3, n3, c3, a4, n4, c4⟩ := H
  obtain ⟨⟨hf1, hf2, hf3⟩, ht, ⟨hl1, hl2, hl3⟩, ⟨hr1, hr2, hr3⟩⟩ := h
  dsimp only at *
  obtain ⟨hi1, hi2, hi3⟩ := hi
  obtain ⟨ho1, ho2, ho3⟩ := ho
  have HL := Lib.hid hl1
  have HR := Lib.hid hr1
  have HO := Lib.hid ho1
  have HF := Lib.hid hf1
  have HI := Lib.hid hi1
  clear hf1 hl1 hr1 hi1 ho1
  by_cases hlen : p < n1
  · go_enter Try.func40, Try.ntmps40
    go_wp2
    go_quiet (fail)
    go_wp2
    go_ret
    refine ⟨ret_bool ?_, (new_alloc _ _).drewN' _⟩
    unfold turnsM
    rw [HF.out, HI.out]
    have : decide (n1 ≤ p) = false := by simp; omega
    rw [this]
    simp
  · have hW1 := new_alloc w (.cells #[.int .i64 k, .slice a1 n1 c1, .slice a2 n2 c2, .slice a3 n3 c3, .slice a4 n4 c4] 25)
    have hA : Ints w w.heap.size I n1 e (inn.take n1) := Ints.take ⟨HI.out, hi2, hi3⟩ (by omega)
    have hB : Ints w w.heap.size a1 n1 c1 c.frm := ⟨HF.out, hf2, hf3⟩
    have hA1 := hA.below' hW1 hW1.size
    have hB1 := hB.below' hW1 hW1.size
    clear hA hB
    have HE : Hid ((inn.take n1 = c.frm) = (inn.take c.frm.length = c.frm)) := by unfold Hid; rw [HF.out]
    go_enter Try.func40, Try.ntmps40
    go_wp2
    by_cases heq : inn.take n1 = c.frm
    · have heq' : Hid (decide (inn.take n1 = c.frm) = true) := by unfold Hid; simpa using heq
      clear heq
      go_quiet ((go_at_call 50; exact equal_qb _ _ _ _ _ _ _ _ _ _ _ heq' hA1 hB1))
      go_wp2
      have hbox : ∀ wr, Below (w.heap.size + 1) (w.alloc (.cells #[.int .i64 k, .slice a1 n1 c1, .slice a2 n2 c2, .slice a3 n3 c3, .slice a4 n4 c4] 25)) wr →
          wr.cell? ⟨w.heap.size, 1, none⟩ = some (.slice a1 n1 c1) ∧ wr.cell? ⟨w.heap.size, 3, none⟩ = some (.slice a3 n3 c3) ∧ wr.cell? ⟨w.heap.size, 4, none⟩ = some (.slice a4 n4 c4) := by
        intro wr hb
        refine ⟨?_, ?_, ?_⟩ <;> (rw [hb.cell (by simp)]; simp [go_sem])
      have HBX := Lib.hid hbox
      clear hbox
      go_loopw [29] (fun i wr => ∃ j : Nat, j ≤ n3 ∧ i = .int .i64 j ∧ leftTo c.left out j = true ∧ Below (w.heap.size + 1) (w.alloc (.cells #[.int .i64 k, .slice a1 n1 c1, .slice a2 n2 c2, .slice a3 n3 c3, .slice a4 n4 c4] 25)) wr) (fun i _ => n3 - (intOf i).toNat)
      case atStart => exact ⟨0, Nat.zero_le _, rfl, rfl, (Below.refl _ _).drewN' _⟩
      case round =>
        obtain ⟨j, hj, rfl, hlt, hbw⟩ := hrel
        obtain ⟨hx1, hx3, hx4⟩ := HBX.out wr hbw
        have HLT := Lib.hid hlt
        have hold := below_old hbw
        clear hlt
        by_cases hjn : j < n3
        · obtain ⟨b, off, rfl, hbB, hc⟩ := hl3 (by omega)
          obtain ⟨A', n', c', hs1, hs2, hs3⟩ := hc j hjn
          have hs1' := (hold.cell (p := ⟨b, off + j * 2, none⟩) hbB).trans hs1
          have hs3' := (hold.cell (p := ⟨b, off + j * 2 + 1, none⟩) hbB).trans hs3
          have hsz : w.heap.size < wr.heap.size := by have := hbw.size; simp at this; omega
          have HS := Lib.hid (leftTo_succ c.left out j)
          have HFa := Lib.hid (leftTo_false c.left out j n3 hjn)
          generalize hsp : c.left.getD j default = sp at *
          clear hc hs1 hs3 hsp
          have hP : Ints (wr.alloc (.cells #[.slice A' n' c', .bool sp.edge] 45)) (wr.alloc (.cells #[.slice A' n' c', .bool sp.edge] 45)).heap.size A' n' c' sp.any := (hs2.below hold).below' ((Below.refl _ _).alloc (by have := hold.size; omega) _) (by simp; omega)
          have hQ : Ints (wr.alloc (.cells #[.slice A' n' c', .bool sp.edge] 45)) (wr.alloc (.cells #[.slice A' n' c', .bool sp.edge] 45)).heap.size O m d out := (Ints.below ⟨HO.out, ho2, ho3⟩ hold).below' ((Below.refl _ _).alloc (by have := hold.size; omega) _) (by simp; omega)
          have hm62 := ho2.1
          have hn40 := hl2.1
          generalize hb0 : matchesM sp out ((out.length : Int) - c.left.length + j) = bb at *
          have HB0 := Lib.hid hb0
          clear hb0
          have HB1 : Hid (matchesM sp out ((m : Int) - n3 + j) = bb) := by have := HB0.out; rw [HO.out, HL.out] at this; exact this
          cases bb
          · go_wp2_with fail
            refine (matches_any A' n' c' O m d sp out _ _ hP hQ (by omega) (by omega)).mono ?_
            rw [HB1.out]
            rintro e w' ⟨rfl, hnew⟩
            go_wp2
            go_ret
            refine ⟨ret_bool ?_, hold.trans (((Below.refl _ _).alloc (by have := hold.size; omega) _).trans (hnew.mono (by simp; omega)))⟩
            unfold turnsM
            rw [HL.out, HFa.out trivial]
            simp
          · go_wp2_with fail
            refine (matches_any A' n' c' O m d sp out _ _ hP hQ (by omega) (by omega)).mono ?_
            rw [HB1.out]
            rintro e w' ⟨rfl, hnew⟩
            go_wp2
            go_roundw
            case rel => exact ⟨j + 1, by omega, by go_num, by rw [HS.out, HLT.out]; rfl, hbw.trans (((Below.refl _ _).alloc (by omega) _).trans (hnew.mono (by simp; omega)))⟩
            case measure => simp [intOf]; omega
        · have hjn' : j = n3 := by omega
          subst hjn'
          have HFE : Hid (turnsM c out inn = (decide (n4 = 0) || matchesM (c.right.getD 0 default) inn n1)) := by
            unfold Hid turnsM
            have h1 : decide (inn.take c.frm.length = c.frm) = true := by rw [HF.out]; exact heq'.out
            have h2 : decide (c.frm.length ≤ inn.length) = true := by rw [HF.out, HI.out]; simp; omega
            rw [h1, h2, HL.out, HLT.out, HR.out, HF.out]
            rfl
          by_cases h4 : n4 = 0
          · have h4' : ((n4 : Int) == 0) = true := by rw [beq_iff_eq]; omega
            have H4 := Lib.hid h4
            clear h4
            go_wp2
            go_quiet (fail)
            go_wp2
            go_ret
            refine ⟨ret_bool ?_, hold.drewN' _⟩
            rw [HFE.out, H4.out]
            rfl
          · have h4' : ((n4 : Int) == 0) = false := by rw [beq_eq_false_iff_ne]; omega
            obtain ⟨b, off, rfl, hbB, hc⟩ := hr3 (by omega)
            obtain ⟨A', n', c', hs1, hs2, hs3⟩ := hc 0 (by omega)
            have hs1' := (hold.cell (p := ⟨b, off + 0 * 2, none⟩) hbB).trans hs1
            have hs3' := (hold.cell (p := ⟨b, off + 0 * 2 + 1, none⟩) hbB).trans hs3
            simp only [Nat.zero_mul, Nat.add_zero] at hs1' hs3'
            have H4 : Hid (decide (n4 = 0) = false) := by unfold Hid; simpa using h4
            have h40 : 0 < n4 := by omega
            clear hc hs1 hs3 h4
            generalize hsp : c.right.getD 0 default = sp at *
            clear hsp
            have hP : Ints wr.drew wr.drew.heap.size A' n' c' sp.any := (hs2.below hold).more hold.size
            have hQ : Ints wr.drew wr.drew.heap.size I p e inn := (Ints.below ⟨HI.out, hi2, hi3⟩ hold).more hold.size
            have hn1 : n1 ≤ 4611686018427387904 := by omega
            go_wp2
            go_still_tail 13, (by kernel_rfl)
            change wpList _ _ _ _ _ wr.drew
            go_wp2_with fail
            refine (matches_any A' n' c' I p e sp inn _ _ hP hQ (by omega) (by omega)).mono ?_
            rintro e w' ⟨rfl, hnew⟩
            go_wp2
            go_ret
            refine ⟨ret_bool ?_, hold.trans ((Below.refl _ _).drew.trans (hnew.mono hold.size))⟩
            rw [HFE.out, H4.out]
            rfl
    · have heq' : Hid (decide (inn.take n1 = c.frm) = false) := by unfold Hid; simpa using heq
      clear heq
      go_quiet ((go_at_call 50; exact equal_qb _ _ _ _ _ _ _ _ _ _ _ heq' hA1 hB1))
      go_wp2
      go_ret
      refine ⟨ret_bool ?_, hW1.drewN' _⟩
      unfold turnsM
      have : decide (inn.take c.frm.length = c.frm) = false := by rw [HF.out]; exact heq'.out
      rw [this]
      simp
end Go.Proofs.Ytglmlbmjppblbaa
