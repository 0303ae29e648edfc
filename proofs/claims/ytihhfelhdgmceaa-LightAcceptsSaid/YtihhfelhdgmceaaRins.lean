/- Contracts of Inside (both texts). -/
import Derived.Test.YtihhfelhdgmceaaTurn
import Derived.Test.YtihhfelhdgmceaaVt
import Derived.Deep.DeepCutAuto
namespace Go.Proofs.Ytihhfelhdgmceaa
open Go.RowKit
structure Bx where
  a : Int × Int
  b : Int × Int
  c : Int × Int
  d : Int × Int
def Bx.V (x : Bx) (j : Nat) : Int × Int := match j % 4 with | 0 => x.a | 1 => x.b | 2 => x.c | _ => x.d
def cvx (x : Bx) (j : Nat) : Prop := 0 < turnF (x.V j) (x.V (j + 1)) (x.V (j + 2))
def inn (x : Bx) (p : Int × Int) (j : Nat) : Prop := 0 ≤ turnF (x.V j) (x.V (j + 1)) p
def BoxOk (x : Bx) (p : Int × Int) : Prop := placed p ∧ (∀ j, j < 4 → placed (x.V j)) ∧ ∀ j, j < 4 → cvx x j
def InsRes (x : Bx) (p : Int × Int) (w : World) (e : Ending) (w' : World) : Prop :=
  (¬ BoxOk x p → e = .returned (.tuple #[.bool false, .int .i64 2])) ∧
  (BoxOk x p → ∃ b : Bool, (b = true ↔ ∀ j, j < 4 → inn x p j) ∧ e = .returned (.tuple #[.bool b, .int .i64 0])) ∧ Below w.heap.size w w'
/-- A box in the block n, a place in the block n + 1. -/
structure Q8 (W : World) (n : Nat) (x : Bx) (p : Int × Int) : Prop where
  a0 : W.cell? ⟨n, 0, none⟩ = some (.int .i64 x.a.1)
  a1 : W.cell? ⟨n, 1, none⟩ = some (.int .i64 x.a.2)
  b0 : W.cell? ⟨n, 2, none⟩ = some (.int .i64 x.b.1)
  b1 : W.cell? ⟨n, 3, none⟩ = some (.int .i64 x.b.2)
  c0 : W.cell? ⟨n, 4, none⟩ = some (.int .i64 x.c.1)
  c1 : W.cell? ⟨n, 5, none⟩ = some (.int .i64 x.c.2)
  d0 : W.cell? ⟨n, 6, none⟩ = some (.int .i64 x.d.1)
  d1 : W.cell? ⟨n, 7, none⟩ = some (.int .i64 x.d.2)
  p0 : W.cell? ⟨n + 1, 0, none⟩ = some (.int .i64 p.1)
  p1 : W.cell? ⟨n + 1, 1, none⟩ = some (.int .i64 p.2)
  sz : n + 1 < W.heap.size
theorem Q8.below {W W' : World} {n C : Nat} {x : Bx} {p : Int × Int} (h : Q8 W n x p) (hb : Below C W W') (hC : n + 1 < C) : Q8 W' n x p :=
  have hn : n < C := by omega
  ⟨(hb.cell hn).trans h.a0, (hb.cell hn).trans h.a1, (hb.cell hn).trans h.b0, (hb.cell hn).trans h.b1, (hb.cell hn).trans h.c0, (hb.cell hn).trans h.c1, (hb.cell hn).trans h.d0, (hb.cell hn).trans h.d1,
    (hb.cell hC).trans h.p0, (hb.cell hC).trans h.p1, Nat.lt_of_lt_of_le h.sz hb.size⟩
theorem Q8.new (w : World) (x : Bx) (p : Int × Int) (T U : TypeId) :
    Q8 ((w.alloc (.cells #[.int .i64 x.a.1, .int .i64 x.a.2, .int .i64 x.b.1, .int .i64 x.b.2, .int .i64 x.c.1, .int .i64 x.c.2, .int .i64 x.d.1, .int .i64 x.d.2] T)).alloc (.cells #[.int .i64 p.1, .int .i64 p.2] U)) w.heap.size x p := by
  constructor <;> simp [go_sem]
theorem Q8.at_ {W : World} {n : Nat} {x : Bx} {p : Int × Int} (h : Q8 W n x p) {j : Nat} (hj : j < 4) : W.cell? ⟨n, j * 2, none⟩ = some (.int .i64 (x.V j).1) ∧ W.cell? ⟨n, j * 2 + 1, none⟩ = some (.int .i64 (x.V j).2) := by
  obtain rfl | rfl | rfl | rfl : j = 0 ∨ j = 1 ∨ j = 2 ∨ j = 3 := by omega
  · exact ⟨h.a0, h.a1⟩
  · exact ⟨h.b0, h.b1⟩
  · exact ⟨h.c0, h.c1⟩
  · exact ⟨h.d0, h.d1⟩
theorem V_mod {x : Bx} {i j : Nat} (h : i % 4 = j % 4) : x.V i = x.V j := by unfold Bx.V; rw [h]
set_option maxRecDepth 100000 in
set_option maxHeartbeats 4000000 in
theorem rInside (x : Bx) (p : Int × Int) (w : World) :
    Calls Try.prog 32 #[.agg #[.int .i64 x.a.1, .int .i64 x.a.2, .int .i64 x.b.1, .int .i64 x.b.2, .int .i64 x.c.1, .int .i64 x.c.2, .int .i64 x.d.1, .int .i64 x.d.2], .agg #[.int .i64 p.1, .int .i64 p.2]] w (InsRes x p w) := by
  have hQ := Q8.new w x p 48 47
  have hal : Below w.heap.size w ((w.alloc (.cells #[.int .i64 x.a.1, .int .i64 x.a.2, .int .i64 x.b.1, .int .i64 x.b.2, .int .i64 x.c.1, .int .i64 x.c.2, .int .i64 x.d.1, .int .i64 x.d.2] 48)).alloc (.cells #[.int .i64 p.1, .int .i64 p.2] 47)) :=
    ((Below.refl _ _).alloc (Nat.le_refl _) _).alloc (by simp) _
  generalize hW : (w.alloc (.cells #[.int .i64 x.a.1, .int .i64 x.a.2, .int .i64 x.b.1, .int .i64 x.b.2, .int .i64 x.c.1, .int .i64 x.c.2, .int .i64 x.d.1, .int .i64 x.d.2] 48)).alloc (.cells #[.int .i64 p.1, .int .i64 p.2] 47) = w0 at hQ hal
  have HW := Lib.hid hW
  clear hW
  by_cases hp : placed p
  · have hpb := placeB_iff.2 hp
    go_enter Try.func32, Try.ntmps32
    go_wp2_with fail
    rw [HW.out]
    refine (rplace p _).mono ?_
    rintro e w1 ⟨rfl, hb⟩
    replace hal := hal.trans (hb.mono (by have := hQ.sz; omega))
    replace hQ := hQ.below hb hQ.sz
    clear hb HW
    go_wp2_with fail
    go_loopw [6] (fun i wr => ∃ k : Nat, k ≤ 4 ∧ i = .int .i64 k ∧ Hid (∀ j, j < k → placed (x.V j)) ∧ Q8 wr w.heap.size x p ∧ Below w.heap.size w wr) (fun i _ => 4 - (intOf i).toNat)
    case atStart => exact ⟨0, by omega, rfl, hid_none, hQ, hal⟩
    case round =>
      clear hQ hal
      obtain ⟨k, hk, rfl, ha, hQ, hal⟩ := hrel
      obtain ⟨a0, a1, b0, b1, c0, c1, d0, d1, p0, p1, sz⟩ := id hQ
      by_cases hlt : k < 4
      · obtain rfl | rfl | rfl | rfl : k = 0 ∨ k = 1 ∨ k = 2 ∨ k = 3 := by omega
        · by_cases hpl : placed x.a
          · have hpx := placeB_iff.2 hpl
            go_wp2_with fail
            refine (rplace x.a _).mono ?_
            rintro e w2 ⟨rfl, hb⟩
            replace hal := hal.trans (hb.mono hal.size)
            replace hQ := hQ.below hb hQ.sz
            clear hb
            go_wp2
            exact ⟨⟨1, by omega, rfl, hid_more ha hpl, hQ, hal⟩, by simp [intOf]⟩
          · have hpx : placeB x.a = false := by cases h : placeB x.a with | false => rfl | true => exact absurd (placeB_iff.1 h) hpl
            go_wp2_with fail
            refine (rplace x.a _).mono ?_
            rintro e w2 ⟨rfl, hb⟩
            go_wp2
            go_ret2
            exact ⟨fun _ => rfl, fun h => absurd (h.2.1 0 (by omega)) hpl, hal.trans (hb.mono hal.size)⟩
        · by_cases hpl : placed x.b
          · have hpx := placeB_iff.2 hpl
            go_wp2_with fail
            refine (rplace x.b _).mono ?_
            rintro e w2 ⟨rfl, hb⟩
            replace hal := hal.trans (hb.mono hal.size)
            replace hQ := hQ.below hb hQ.sz
            clear hb
            go_wp2
            exact ⟨⟨2, by omega, rfl, hid_more ha hpl, hQ, hal⟩, by simp [intOf]⟩
          · have hpx : placeB x.b = false := by cases h : placeB x.b with | false => rfl | true => exact absurd (placeB_iff.1 h) hpl
            go_wp2_with fail
            refine (rplace x.b _).mono ?_
            rintro e w2 ⟨rfl, hb⟩
            go_wp2
            go_ret2
            exact ⟨fun _ => rfl, fun h => absurd (h.2.1 1 (by omega)) hpl, hal.trans (hb.mono hal.size)⟩
        · by_cases hpl : placed x.c
          · have hpx := placeB_iff.2 hpl
            go_wp2_with fail
            refine (rplace x.c _).mono ?_
            rintro e w2 ⟨rfl, hb⟩
            replace hal := hal.trans (hb.mono hal.size)
            replace hQ := hQ.below hb hQ.sz
            clear hb
            go_wp2
            exact ⟨⟨3, by omega, rfl, hid_more ha hpl, hQ, hal⟩, by simp [intOf]⟩
          · have hpx : placeB x.c = false := by cases h : placeB x.c with | false => rfl | true => exact absurd (placeB_iff.1 h) hpl
            go_wp2_with fail
            refine (rplace x.c _).mono ?_
            rintro e w2 ⟨rfl, hb⟩
            go_wp2
            go_ret2
            exact ⟨fun _ => rfl, fun h => absurd (h.2.1 2 (by omega)) hpl, hal.trans (hb.mono hal.size)⟩
        · by_cases hpl : placed x.d
          · have hpx := placeB_iff.2 hpl
            go_wp2_with fail
            refine (rplace x.d _).mono ?_
            rintro e w2 ⟨rfl, hb⟩
            replace hal := hal.trans (hb.mono hal.size)
            replace hQ := hQ.below hb hQ.sz
            clear hb
            go_wp2
            exact ⟨⟨4, by omega, rfl, hid_more ha hpl, hQ, hal⟩, by simp [intOf]⟩
          · have hpx : placeB x.d = false := by cases h : placeB x.d with | false => rfl | true => exact absurd (placeB_iff.1 h) hpl
            go_wp2_with fail
            refine (rplace x.d _).mono ?_
            rintro e w2 ⟨rfl, hb⟩
            go_wp2
            go_ret2
            exact ⟨fun _ => rfl, fun h => absurd (h.2.1 3 (by omega)) hpl, hal.trans (hb.mono hal.size)⟩
      · clear a0 a1 b0 b1 c0 c1 d0 d1 p0 p1 sz
        have HPL : Hid (∀ j, j < 4 → placed (x.V j)) := fun j hj => ha.out j (by omega)
        obtain ⟨k0, rfl⟩ : ∃ k0, k0 = k := ⟨_, rfl⟩
        go_wp2_with fail
        go_loopw [7, 8] (fun iv i wr => ∃ (k : Nat) (bb : Bool), k ≤ 4 ∧ i = .int .i64 k ∧ iv = .bool bb ∧ Hid (bb = true ↔ ∀ j, j < k → inn x p j) ∧ Hid (∀ j, j < k → cvx x j) ∧ Q8 wr w.heap.size x p ∧ Below w.heap.size w wr) (fun _ i _ => 4 - (intOf i).toNat)
        case atStart => exact ⟨0, true, by omega, rfl, rfl, ⟨fun _ j hj => absurd hj (by omega), fun _ => rfl⟩, hid_none, hQ, hal⟩
        case round =>
          clear hQ hal ha
          obtain ⟨k, bb, hk, rfl, rfl, hin, ha, hQ, hal⟩ := hrel
          obtain ⟨_, _, _, _, _, _, _, _, p0, p1, sz⟩ := id hQ
          have sz0 : w.heap.size < wr.heap.size := by omega
          have sz1 : w.heap.size < wr.heap.size + 1 := by omega
          have sz2 : w.heap.size < wr.heap.size + 1 + 1 := by omega
          have sz3 : w.heap.size < wr.heap.size + 1 + 1 + 1 := by omega
          by_cases hlt : k < 4
          · obtain ⟨k1, hk1⟩ : ∃ k1 : Nat, ((k : Int) + 1) % 4 = (k1 : Int) := ⟨(k + 1) % 4, by omega⟩
            obtain ⟨k2, hk2⟩ : ∃ k2 : Nat, ((k : Int) + 2) % 4 = (k2 : Int) := ⟨(k + 2) % 4, by omega⟩
            have l1 : k1 < 4 := by omega
            have l2 : k2 < 4 := by omega
            have V1 := Lib.hid (V_mod (x := x) (i := k + 1) (j := k1) (by omega))
            have V2 := Lib.hid (V_mod (x := x) (i := k + 2) (j := k2) (by omega))
            obtain ⟨e0, e1⟩ := hQ.at_ hlt
            obtain ⟨e2, e3⟩ := hQ.at_ l1
            obtain ⟨e4, e5⟩ := hQ.at_ l2
            go_upto_region 12 with fail
            go_cut [9, 10, 11] (fun s9 s10 s11 wx => ∃ g9 g10 g11 : Nat, s9 = .pointer (some ⟨g9, 0, none⟩) ∧ s10 = .pointer (some ⟨g10, 0, none⟩) ∧ s11 = .pointer (some ⟨g11, 0, none⟩) ∧
              (wx.cell? ⟨g9, 0, none⟩ = some (.int .i64 (x.V k).1) ∧ wx.cell? ⟨g9, 1, none⟩ = some (.int .i64 (x.V k).2)) ∧ (wx.cell? ⟨g10, 0, none⟩ = some (.int .i64 (x.V k1).1) ∧ wx.cell? ⟨g10, 1, none⟩ = some (.int .i64 (x.V k1).2)) ∧
              (wx.cell? ⟨g11, 0, none⟩ = some (.int .i64 (x.V k2).1) ∧ wx.cell? ⟨g11, 1, none⟩ = some (.int .i64 (x.V k2).2)) ∧ (g9 < wx.heap.size ∧ g10 < wx.heap.size) ∧ Below wr.heap.size wr wx)
            case first =>
              go_region
              all_goals
                go_wp2_with fail
                go_meet
                refine ⟨_, _, _, rfl, rfl, rfl, ⟨by simp [go_sem], by simp [go_sem]⟩, ⟨by simp [go_sem], by simp [go_sem]⟩, ⟨by simp [go_sem], by simp [go_sem]⟩, ⟨by simp <;> omega, by simp <;> omega⟩, ?_⟩
                exact ((((Below.refl _ _).alloc (Nat.le_refl _) _).alloc (by simp) _).alloc (by simp; omega) _).drew
            case rest =>
              clear e0 e1 e2 e3 e4 e5 hk1 hk2 sz0 sz1 sz2 sz3
              obtain ⟨g9, g10, g11, rfl, rfl, rfl, ⟨e0, e1⟩, ⟨e2, e3⟩, ⟨e4, e5⟩, ⟨z9, z10⟩, hbc⟩ := hcut
              have pk := HPL.out k hlt
              have pk1 := HPL.out k1 l1
              have pk2 := HPL.out k2 l2
              replace hQ := hQ.below hbc hQ.sz
              replace hal := hal.trans (hbc.mono hal.size)
              clear p0 p1 sz hbc
              go_wp2_with fail
              refine (rturn _ _ _ _ pk pk1 pk2).mono ?_
              rintro e w2 ⟨rfl, hb⟩
              replace e0 := (hb.cell z9).trans e0
              replace e1 := (hb.cell z9).trans e1
              replace e2 := (hb.cell z10).trans e2
              replace e3 := (hb.cell z10).trans e3
              replace hal := hal.trans (hb.mono hal.size)
              replace hQ := hQ.below hb hQ.sz
              obtain ⟨_, _, _, _, _, _, _, _, p0, p1, sz⟩ := id hQ
              clear hb e4 e5
              have CV : Hid (cvx x k ↔ 0 < turnF (x.V k) (x.V k1) (x.V k2)) := by unfold cvx; rw [V1.out, V2.out]; exact Iff.rfl
              have IN : Hid (inn x p k ↔ 0 ≤ turnF (x.V k) (x.V k1) p) := by unfold inn; rw [V1.out]; exact Iff.rfl
              by_cases g1 : 0 < turnF (x.V k) (x.V k1) (x.V k2)
              · cases bb with
                | true =>
                  go_wp2_with fail
                  refine (rturn _ _ _ _ pk pk1 hp).mono ?_
                  rintro e w3 ⟨rfl, hb⟩
                  by_cases g2 : 0 ≤ turnF (x.V k) (x.V k1) p
                  · go_wp2
                    go_roundw
                    case rel => exact ⟨k + 1, true, by omega, by go_num, rfl, ⟨fun _ => hid_more (fun j hj => hin.out.1 (by simp) j hj) (IN.out.2 g2), fun _ => rfl⟩, hid_more ha (CV.out.2 g1), hQ.below hb hQ.sz, hal.trans (hb.mono hal.size)⟩
                    case measure => simp [intOf]; omega
                  · go_wp2
                    go_roundw
                    case rel => exact ⟨k + 1, false, by omega, by go_num, by simp; omega, ⟨fun h => (by cases h), fun h => absurd (IN.out.1 (h k (by omega))) (by omega)⟩, hid_more ha (CV.out.2 g1), hQ.below hb hQ.sz, hal.trans (hb.mono hal.size)⟩
                    case measure => simp [intOf]; omega
                | false =>
                  go_wp2
                  go_roundw
                  case rel => exact ⟨k + 1, false, by omega, by go_num, rfl, ⟨fun h => (by cases h), fun h => hin.out.2 fun j hj => h j (by omega)⟩, hid_more ha (CV.out.2 g1), hQ, hal⟩
                  case measure => simp [intOf]; omega
              · go_wp2
                go_ret2
                exact ⟨fun _ => rfl, fun h => absurd (CV.out.1 (h.2.2 k hlt)) (by omega), hal⟩
          · obtain rfl : k = 4 := by omega
            go_wp2
            go_ret2
            exact ⟨fun h => absurd ⟨hp, fun j hj => HPL.out j hj, fun j hj => ha.out j hj⟩ h, fun _ => ⟨bb, hin.out, rfl⟩, hal⟩
  · have hpb : placeB p = false := by cases h : placeB p with | false => rfl | true => exact absurd (placeB_iff.1 h) hp
    go_enter Try.func32, Try.ntmps32
    go_wp2_with fail
    rw [HW.out]
    refine (rplace p _).mono ?_
    rintro e w1 ⟨rfl, hb⟩
    go_wp2
    go_ret2
    exact ⟨fun _ => rfl, fun h => absurd h.1 hp, hal.trans (hb.mono hal.size)⟩
end Go.Proofs.Ytihhfelhdgmceaa
