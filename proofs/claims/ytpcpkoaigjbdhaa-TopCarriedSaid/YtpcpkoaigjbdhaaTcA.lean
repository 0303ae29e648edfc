/- TopCarried: its argument, its box, and the plain laws that the walk asks. -/
import Derived.Test.YtpcpkoaigjbdhaaTcK
import Derived.Test.YtpcpkoaigjbdhaaArg
import Derived.Test.YtpcpkoaigjbdhaaWLng
import Derived.Test.YtpcpkoaigjbdhaaWKep
import Derived.Test.YtpcpkoaigjbdhaaLMn
import Derived.Deep.Strs
import Derived.Laws.IdiomArrays
namespace Go.Proofs.Ytpcpkoaigjbdhaa
open Go.ChangeShapes Go.WideShapes Go.ChangeAt Go.RowKit Go.Joins Go.Deep
theorem cells29 : Try.prog.cellsOf 29 = 8 := by kernel_rfl
theorem cells27 : Try.prog.cellsOf 27 = 3 := by kernel_rfl
theorem cells5 : Try.prog.cellsOf 5 = 1 := by kernel_rfl
theorem cells3 : Try.prog.cellsOf 3 = 1 := by kernel_rfl
theorem cells22 : Try.prog.cellsOf 22 = 1 := by kernel_rfl
section
variable {H : Type} {enc : TypeId × Value → H} {W : World} {base b0 : Nat} {held : Bool} {r : Reach} {v : Value} {d : DataW H} {p : List MemPlace}
set_option maxRecDepth 100000 in
theorem journey_arg (hv : Value.okWide Try.prog W r b0 29 v) (h : DataW.Trod enc Try.prog W base (fun _ => true) held 29 v d p) :
    ∃ (num L a b : Int) (A : Option Addr) (c : Nat) (cs : List Chg) (m0 m1 m2 : Nat), v = .agg #[.int .i64 num, .int .i64 L, .slice A cs.length c, .int .i64 a, .int .i64 b, .int .u8 m0, .int .u8 m1, .int .u8 m2] ∧ Chs W W.heap.size A cs ∧ cs.length ≤ 9223372036854775807 ∧
      m0 ≤ 255 ∧ m1 ≤ 255 ∧ m2 ≤ 255 := by
  obtain ⟨cs0, rfl, hsz⟩ := okWide_struct Try.underlying29 hv
  rw [cells29] at hsz
  obtain ⟨l⟩ := cs0
  match l, hsz with
  | [c0, c1, c2, c3, c4, c5, c6, c7], _ =>
    obtain ⟨fuel, hf⟩ := h
    obtain ⟨y0, y1, y2, n, _, _, k0, k1, k2⟩ := trod_struct3 Try.underlying29 hf
    simp only [cells24, cellsA26, cells27] at k0 k1 k2
    have k0' : DataW.trod enc Try.prog W base (fun _ => true) held n 24 [c0, c1, c2] = some y0 := k0
    have k1' : DataW.trod enc Try.prog W base (fun _ => true) held n 26 [c3, c4] = some y1 := k1
    have k2' : DataW.trod enc Try.prog W base (fun _ => true) held n 27 [c5, c6, c7] = some y2 := k2
    obtain ⟨_, _, _, n2, _, _, j0, j1, j2⟩ := trod_struct3 Try.underlying24 k0'
    obtain ⟨_, _, n3, _, _, j3, j4⟩ := trod_struct2 Try.underlying26 k1'
    obtain ⟨_, _, _, n4, _, j5, j6, j7⟩ := trod_array3 Try.underlying27 cells5 k2'
    simp only [cells3, cells22] at j0 j1 j2 j3 j4
    obtain ⟨x0, e0, _, _⟩ := DataW.trod_int Try.underlying3 j0
    obtain ⟨x1, e1, _, _⟩ := DataW.trod_int Try.underlying3 j1
    obtain ⟨A, c, xs, rfl, hP, hn, _⟩ := slice_chgs j2
    obtain ⟨x3, e3, _, _⟩ := DataW.trod_int Try.underlying3 j3
    obtain ⟨x4, e4, _, _⟩ := DataW.trod_int Try.underlying3 j4
    obtain ⟨x5, e5, _, w5⟩ := DataW.trod_int Try.underlying5 j5
    obtain ⟨x6, e6, _, w6⟩ := DataW.trod_int Try.underlying5 j6
    obtain ⟨x7, e7, _, w7⟩ := DataW.trod_int Try.underlying5 j7
    have b5 := bounds_u8 w5
    have b6 := bounds_u8 w6
    have b7 := bounds_u8 w7
    obtain ⟨m0, rfl⟩ := Int.eq_ofNat_of_zero_le b5.1
    obtain ⟨m1, rfl⟩ := Int.eq_ofNat_of_zero_le b6.1
    obtain ⟨m2, rfl⟩ := Int.eq_ofNat_of_zero_le b7.1
    simp at e0 e1 e3 e4 e5 e6 e7
    exact ⟨x0, x1, x3, x4, A, c, xs, m0, m1, m2, by rw [e0, e1, e3, e4, e5, e6, e7], hP, hn, by omega, by omega, by omega⟩
end
/-- The journey's box and the road's. -/
structure JBox (W : World) (n B : Nat) (A : Option Addr) (c : Nat) (num L a b : Int) (cs : List Chg) (m0 m1 m2 : Nat) : Prop where
  ch : Chs W B A cs
  q3 : W.cell? ⟨n, 3, none⟩ = some (.int .i64 a)
  q4 : W.cell? ⟨n, 4, none⟩ = some (.int .i64 b)
  q5 : W.cell? ⟨n, 5, none⟩ = some (.int .u8 m0)
  q6 : W.cell? ⟨n, 6, none⟩ = some (.int .u8 m1)
  q7 : W.cell? ⟨n, 7, none⟩ = some (.int .u8 m2)
  r0 : W.cell? ⟨n + 1, 0, none⟩ = some (.int .i64 num)
  r1 : W.cell? ⟨n + 1, 1, none⟩ = some (.int .i64 L)
  r2 : W.cell? ⟨n + 1, 2, none⟩ = some (.slice A cs.length c)
  lt : B ≤ n
  sz : n + 1 < W.heap.size
theorem JBox.below {W W' : World} {n B C : Nat} {A : Option Addr} {c : Nat} {num L a b : Int} {cs : List Chg} {m0 m1 m2 : Nat} (h : JBox W n B A c num L a b cs m0 m1 m2) (hb : Below C W W') (hC : n + 1 < C) : JBox W' n B A c num L a b cs m0 m1 m2 :=
  ⟨h.ch.keep fun p hp => hb.cell (by have := h.lt; omega), (hb.cell (show n < C by omega)).trans h.q3, (hb.cell (show n < C by omega)).trans h.q4, (hb.cell (show n < C by omega)).trans h.q5, (hb.cell (show n < C by omega)).trans h.q6, (hb.cell (show n < C by omega)).trans h.q7, (hb.cell hC).trans h.r0, (hb.cell hC).trans h.r1, (hb.cell hC).trans h.r2, h.lt, Nat.lt_of_lt_of_le h.sz hb.size⟩
section
variable {num L : Int} {cs : List Chg}
theorem lng_ok (ho : RoadOk num L cs) {u : Nat} (hu : u ≤ cs.length) : lngF num L cs u = (lenAt L cs u, 0) := by
  unfold lngF
  rw [if_pos ho, if_pos (by omega), Int.toNat_natCast]
def All (cs : List Chg) (L : Int) (f t : Nat) (us : List (Int × Int)) : Prop := Norm us ∧ ∀ c, InS us c ↔ ∃ d, (0 ≤ d ∧ d < lenAt L cs f) ∧ runL gF (movesF cs f t) d = some c
theorem gone_val {w w' : World} {e : Ending} (ho : RoadOk num L cs) {u t : Nat} (hu : u ≤ cs.length) (ht : t ≤ cs.length) (h : GoneRes num L cs u t w e w') : ∃ us, All cs L u t us ∧ e = .returned (.tuple #[.int .i64 (lenAt L cs u - met us), .int .i64 0]) ∧ Below w.heap.size w w' := by
  have hv : VersOk cs u t := ⟨⟨by omega, by omega⟩, by omega, by omega⟩
  by_cases h0 : lenAt L cs u = 0
  · have := h.2.2.1 ho hv (by rw [Int.toNat_natCast]; exact h0)
    refine ⟨[], ⟨norm_nil, fun c => ⟨fun hh => absurd hh inS_nil, fun ⟨d, hd, _⟩ => by omega⟩⟩, ?_, h.2.2.2.2⟩
    rw [this, h0]
    rfl
  · obtain ⟨us, n1, n2, he⟩ := h.2.2.2.1 ho hv (by rw [Int.toNat_natCast]; exact h0)
    simp only [Int.toNat_natCast] at n2 he
    refine ⟨us, ⟨n1, fun c => ?_⟩, he, h.2.2.2.2⟩
    rw [n2 c, keep_all (moves_ok ho hu ht)]
    constructor
    · rintro ⟨d, h1, h2⟩; exact ⟨d, inS_one.1 h1, h2⟩
    · rintro ⟨d, h1, h2⟩; exact ⟨d, inS_one.2 h1, h2⟩
theorem All.bd (ho : RoadOk num L cs) {u t : Nat} (hu : u ≤ cs.length) (ht : t ≤ cs.length) {us : List (Int × Int)} (h : All cs L u t us) : ∀ p ∈ us, 0 ≤ p.1 ∧ p.2 ≤ lenAt L cs t := by
  intro p hp
  have f1 := h.1.1 p hp
  obtain ⟨d, h1, hd⟩ := (h.2 p.1).1 ⟨p, hp, Int.le_refl _, f1⟩
  obtain ⟨d', h1', hd'⟩ := (h.2 (p.2 - 1)).1 ⟨p, hp, by omega, by omega⟩
  have := met_in ho hu ht (c := d) h1 hd
  have := met_in ho hu ht (c := d') h1' hd'
  omega
theorem All.met_le (ho : RoadOk num L cs) {u t : Nat} (hu : u ≤ cs.length) (ht : t ≤ cs.length) {us vs : List (Int × Int)} (h : All cs L u t us) (g : All cs L t u vs) : met us ≤ met vs := by
  refine met_run (moves_ok ho hu ht) g.1.1 (fun p hp => ?_) h.1 fun c => ?_
  · have := g.bd ho ht hu p hp
    have := g.1.1 p hp
    have := len_bd ho hu
    omega
  · rw [h.2 c]
    constructor
    · rintro ⟨d, h1, h2⟩
      refine ⟨d, (g.2 d).2 ⟨c, met_in ho hu ht h1 h2, (moves_inv ho hu ht d c).1 h2⟩, h2⟩
    · rintro ⟨d, h1, h2⟩
      obtain ⟨x, h3, h4⟩ := (g.2 d).1 h1
      exact ⟨d, met_in ho ht hu h3 h4, h2⟩
theorem gone_sum (ho : RoadOk num L cs) {u t : Nat} (hu : u ≤ cs.length) (ht : t ≤ cs.length) {us vs : List (Int × Int)} (h : All cs L u t us) (g : All cs L t u vs) : met vs = met us ∧ 0 ≤ met us ∧ met us ≤ lenAt L cs u ∧ met us ≤ lenAt L cs t := by
  have h1 := h.met_le ho hu ht g
  have h2 := g.met_le ho ht hu h
  have h3 := met_ge h.1.1
  have h4 := met_within h.1 (h.bd ho hu ht) (len_bd ho ht).1
  have h5 := met_within g.1 (g.bd ho ht hu) (len_bd ho hu).1
  omega
/-- Forth and back, and by way of a version between. -/
theorem trip {u v w : Nat} (ho : RoadOk num L cs) (hu : u ≤ cs.length) (hw : w ≤ cs.length) (hb : (u ≤ v ∧ v ≤ w) ∨ (w ≤ v ∧ v ≤ u)) {s : Int × Int} (s0 : 0 ≤ s.1) (s1 : s.1 < s.2) (s2 : s.2 ≤ lenAt L cs u) {once half steps back : List (Int × Int)}
    (h1 : Moved cs u w [s] once) (h2 : Moved cs u v [s] half) (h3 : Moved cs v w half steps) (h4 : Moved cs w u once back) :
    steps = once ∧ met back = met once ∧ 0 ≤ met once ∧ met once ≤ s.2 - s.1 ∧ ∀ c, ¬ (InS back c ∧ ¬ InS [s] c) := by
  have hK : ∀ {f t : Nat} {xs us : List (Int × Int)}, f ≤ cs.length → t ≤ cs.length → (∀ p ∈ xs, 0 ≤ p.1 ∧ p.2 ≤ lenAt L cs f) → Moved cs f t xs us → InK 10000000 us := by
    intro f t xs us hf ht hs hM p hp
    have := hM.within ho hf ht hs p hp
    have := len_bd ho ht
    omega
  have hs : ∀ p ∈ [s], 0 ≤ p.1 ∧ p.2 ≤ lenAt L cs u := fun p hp => by rw [List.mem_singleton.1 hp]; exact ⟨s0, s2⟩
  have ho1 := fun p hp => (h1.within ho hu hw hs p hp).2
  have back_iff : ∀ c, InS back c ↔ InS [s] c ∧ ∃ d, runL gF (movesF cs u w) c = some d := by
    intro c
    rw [h4.2 c]
    constructor
    · rintro ⟨d, g1, g2⟩
      obtain ⟨x, g3, g4⟩ := (h1.2 d).1 g1
      have g5 := (moves_inv ho hu hw c d).2 g2
      have g6 := (moves_inv ho hu hw x d).1 g4
      rw [g2] at g6
      injection g6 with g6
      subst g6
      exact ⟨g3, d, g5⟩
    · rintro ⟨g1, d, g2⟩
      exact ⟨d, (h1.2 d).2 ⟨c, g1, g2⟩, (moves_inv ho hu hw c d).1 g2⟩
  refine ⟨norm_unique h3.1 h1.1 fun c => ?_, ?_, ?_, ?_, fun c hc => hc.2 ((back_iff c).1 hc.1).1⟩
  · rw [h3.2 c, h1.2 c, moves_comp cs hb]
    constructor
    · rintro ⟨d, g1, g2⟩
      obtain ⟨x, g3, g4⟩ := (h2.2 d).1 g1
      exact ⟨x, g3, by rw [runL_append, g4]; exact g2⟩
    · rintro ⟨x, g3, g4⟩
      rw [runL_append, bind_iff] at g4
      obtain ⟨d, g5, g6⟩ := g4
      exact ⟨d, (h2.2 d).2 ⟨x, g3, g5⟩, g6⟩
  · have e1 := met_run (moves_ok ho hw hu) h1.1.1 (hK hu hw hs h1) h4.1 h4.2
    have e2 := met_run (moves_ok ho hu hw) h4.1.1 (hK hw hu ho1 h4) h1.1 fun c => by
      rw [h1.2 c]
      constructor
      · rintro ⟨d, g1, g2⟩; exact ⟨d, (back_iff d).2 ⟨g1, c, g2⟩, g2⟩
      · rintro ⟨d, g1, g2⟩; exact ⟨d, ((back_iff d).1 g1).1, g2⟩
    omega
  · have := met_ge h1.1.1; omega
  · have := met_run (moves_ok ho hu hw) (x := [s]) (norm_one s1).1 (fun p hp => by rw [List.mem_singleton.1 hp]; have := len_bd ho hu; omega) h1.1 h1.2
    simpa [met] using this
theorem norm_empty {us : List (Int × Int)} (h : Norm us) (g : ∀ c, ¬ InS us c) : us = [] := by
  cases us with
  | nil => rfl
  | cons p l => exact absurd ⟨p, List.mem_cons_self .., Int.le_refl _, h.1 p (List.mem_cons_self ..)⟩ (g p.1)
def CarryVal (cs : List Chg) (f t : Nat) (c v er : Int) : Prop := (runL placeF (movesF cs f t) c = some v ∧ er = 0) ∨ (runL placeF (movesF cs f t) c = none ∧ v = 0 ∧ er = 62)
theorem carry_val (ho : RoadOk num L cs) {f t : Nat} (hf : f ≤ cs.length) (ht : t ≤ cs.length) {c v er : Int} (hc : 0 ≤ c ∧ c ≤ lenAt L cs f) (h : CarryIs num L cs c f t v er) : CarryVal cs f t c v er := by
  have hv : VersOk cs f t := ⟨⟨by omega, by omega⟩, by omega, by omega⟩
  have := h.2.2.2 ho hv (by rw [Int.toNat_natCast]; exact hc)
  simp only [Int.toNat_natCast] at this
  rw [carry_run _ (Nat.le_refl _), List.take_length] at this
  unfold CarryVal
  cases hr : runL placeF (movesF cs f t) c with
  | none => exact .inr ⟨rfl, this.2 hr⟩
  | some d =>
    obtain ⟨rfl, h2⟩ := this.1 d hr
    exact .inl ⟨rfl, h2⟩
theorem carry_trip {u v w : Nat} (hb : (u ≤ v ∧ v ≤ w) ∨ (w ≤ v ∧ v ≤ u)) {c x e z g : Int} (h1 : CarryVal cs u v c x e) (h2 : CarryVal cs u w c z g) : (e = 62 ∧ g = 62) ∨ (e = 0 ∧ runL placeF (movesF cs u v) c = some x ∧ ∀ y f, CarryVal cs v w x y f → y = z ∧ f = g) := by
  unfold CarryVal at *
  rw [moves_comp cs hb, runL_append] at h2
  rcases h1 with ⟨a1, a2⟩ | ⟨a1, a2, a3⟩
  · refine .inr ⟨a2, a1, fun y f h3 => ?_⟩
    rw [a1] at h2
    simp only [Option.bind_some] at h2
    rcases h2 with ⟨b1, b2⟩ | ⟨b1, b2, b3⟩ <;> rcases h3 with ⟨d1, d2⟩ | ⟨d1, d2, d3⟩
    · rw [b1] at d1; injection d1 with d1; omega
    · rw [b1] at d1; cases d1
    · rw [b1] at d1; cases d1
    · omega
  · rw [a1] at h2
    rcases h2 with ⟨b1, _⟩ | ⟨_, _, b3⟩
    · cases b1
    · exact .inl ⟨a3, b3⟩
end
end Go.Proofs.Ytpcpkoaigjbdhaa
