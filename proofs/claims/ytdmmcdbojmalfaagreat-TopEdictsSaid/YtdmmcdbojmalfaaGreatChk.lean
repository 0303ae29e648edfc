/- Contracts of the program's checked (at two versions), place, moves and carry. -/
import Derived.Test.YtdmmcdbojmalfaaGreatLen
namespace Go.Proofs.YtdmmcdbojmalfaaGreat
open Go.RowKit
/-- What checked returns. -/
def ChkRes (num L : Int) (cs : List Chg) (vs : List Int) (w : World) (e : Ending) (w' : World) : Prop :=
  (¬ RoadOk num L cs → e = .returned (.tuple #[.slice none 0 0, .int .i64 60])) ∧
  (RoadOk num L cs → ¬ (∀ j, j < vs.length → 0 ≤ at0 vs j ∧ at0 vs j ≤ cs.length) → e = .returned (.tuple #[.slice none 0 0, .int .i64 61])) ∧
  (RoadOk num L cs → (∀ j, j < vs.length → 0 ≤ at0 vs j ∧ at0 vs j ≤ cs.length) → ∃ (A : Option Addr) (c : Nat), e = .returned (.tuple #[.slice A (cs.length + 1) c, .int .i64 0]) ∧ Ints w' w'.heap.size A (lens L cs cs.length)) ∧ Below w.heap.size w w'
set_option maxRecDepth 100000 in
set_option maxHeartbeats 4000000 in
theorem lchecked (A V : Option Addr) (c cv B : Nat) (num L : Int) (cs : List Chg) (vs : List Int) (w : World) (h : Chs w B A cs) (hB : B ≤ w.heap.size) (hn : cs.length ≤ 9223372036854775807) (hV : Ints w w.heap.size V vs) (hvn : vs.length ≤ 10) :
    Calls Tryz.prog 39 #[.agg #[.int .i64 num, .int .i64 L, .slice A cs.length c], .slice V vs.length cv] w (ChkRes num L cs vs w) := by
  have hT := RdBox.new (c := c) (num := num) (L := L) (T := 24) h hB
  have hal : Below w.heap.size w (w.alloc (.cells #[.int .i64 num, .int .i64 L, .slice A cs.length c] 24)) := (Below.refl _ _).alloc (Nat.le_refl _) _
  generalize hW : w.alloc (.cells #[.int .i64 num, .int .i64 L, .slice A cs.length c] 24) = w0 at hT hal
  have HW := Lib.hid hW
  clear hW
  replace hV := hV.below hal
  obtain ⟨-, q0, q1, q2, -, _⟩ := id hT
  go_enter Tryz.func39, Tryz.ntmps39
  go_wp2_with fail
  rw [HW.out]
  clear HW
  refine (lLengths A c B num L cs w0 hT.ch (by have := hT.lt; have := hT.sz; omega) hn).mono ?_
  rintro e w1 ⟨g1, g2, hb⟩
  have hs0 := hal.size
  replace hV := hV.below (hb.mono hs0)
  replace hal := hal.trans (hb.mono hal.size)
  by_cases ho : RoadOk num L cs
  · obtain ⟨A', c', rfl, hI⟩ := g2 ho
    have HO := Lib.hid ho
    have h40 := ho.2.2.1
    clear g1 g2 hb q0 q1 q2 hT ho h
    go_wp2_with fail
    go_loop [19] (fun i => ∃ k : Nat, k ≤ vs.length ∧ i = .int .i64 k ∧ Hid (∀ j, j < k → 0 ≤ at0 vs j ∧ at0 vs j ≤ cs.length)) (fun i => vs.length - (intOf i).toNat)
    case atStart => exact ⟨0, Nat.zero_le _, rfl, hid_none⟩
    case round =>
      obtain ⟨k, hk, rfl, ha⟩ := hrel
      by_cases hlt : k < vs.length
      · obtain ⟨b, off, hA, hbb, hc⟩ := hV.at_ hlt
        subst hA
        have u0 := hc k hlt
        clear hc
        by_cases hv : 0 ≤ at0 vs k ∧ at0 vs k ≤ cs.length
        · have j1 := inB_t (hi := (cs.length : Int)) hv.1 hv.2
          have HV := Lib.hid hv
          go_wp2_with (go_at_call 40; refine (lwithin _ _ _ _).mono ?_; rintro e w' ⟨rfl, rfl⟩)
          exact ⟨⟨k + 1, by omega, by go_num, hid_more ha HV.out⟩, by simp [intOf]; omega⟩
        · have j1 := inB_f (hi := (cs.length : Int)) hv
          have HV := Lib.hid hv
          clear hv
          go_wp2_with (go_at_call 40; refine (lwithin _ _ _ _).mono ?_; rintro e w' ⟨rfl, rfl⟩)
          go_ret2
          exact ⟨fun hh => absurd HO.out hh, fun _ _ => rfl, fun _ hh => absurd (hh k hlt) HV.out, hal⟩
      · go_wp2
        go_ret2
        have hall : ∀ j, j < vs.length → 0 ≤ at0 vs j ∧ at0 vs j ≤ cs.length := fun j hj => ha.out j (by omega)
        exact ⟨fun hh => absurd HO.out hh, fun _ hh => absurd hall hh, fun _ _ => ⟨A', c', rfl, hI⟩, hal⟩
  · rw [g1 ho]
    have HO := Lib.hid ho
    clear g1 g2 ho
    go_wp2
    go_ret2
    exact ⟨fun _ => rfl, fun hh => absurd hh HO.out, fun hh => absurd hh HO.out, hal⟩
structure Mov where
  a : Int
  b : Int
  grow : Int
def mvAt (ms : List Mov) (j : Nat) : Mov := ms.getD j ⟨0, 0, 0⟩
/-- Where a place is behind a step; none: it is lost. -/
def placeF (m : Mov) (c : Int) : Option Int := if c ≤ m.a then some c else if m.b ≤ c then some (c + m.grow) else none
def optPair (o : Option Int) : Value := .tuple #[.int .i64 (o.getD 0), .bool o.isSome]
theorem lplace (m : Mov) (c : Int) (w : World) (c0 : -1000000000 ≤ c) (c1 : c ≤ 1000000000) (m0 : -1000000000 ≤ m.grow) (m1 : m.grow ≤ 1000000000) :
    Calls Tryz.prog 57 #[.agg #[.int .i64 m.a, .int .i64 m.b, .int .i64 m.grow], .int .i64 c] w fun e w' => e = .returned (optPair (placeF m c)) ∧ Below w.heap.size w w' := by
  have hal : Below w.heap.size w (w.alloc (.cells #[.int .i64 m.a, .int .i64 m.b, .int .i64 m.grow] 110)) := (Below.refl _ _).alloc (Nat.le_refl _) _
  unfold placeF optPair
  by_cases h1 : c ≤ m.a
  · go_enter Tryz.func57, Tryz.ntmps57
    go_wp2
    go_ret2
    exact ⟨by simp, hal⟩
  · by_cases h2 : m.b ≤ c
    · go_enter Tryz.func57, Tryz.ntmps57
      go_wp2
      go_ret2
      exact ⟨by simp, hal⟩
    · go_enter Tryz.func57, Tryz.ntmps57
      go_wp2
      go_ret2
      exact ⟨by simp, hal⟩
end Go.Proofs.YtdmmcdbojmalfaaGreat
/- Contracts of the program's moves and carry. -/
namespace Go.Proofs.YtdmmcdbojmalfaaGreat
open Go.RowKit
theorem info110 : (Tryz.prog.info? 110).map (fun i => (i.zero, i.size, i.bytes)) = some (some (.agg #[.int .i64 0, .int .i64 0, .int .i64 0]), 3, 24) := by kernel_rfl
def mcells : List Mov → List Value
  | [] => []
  | m :: ms => .int .i64 m.a :: .int .i64 m.b :: .int .i64 m.grow :: mcells ms
theorem mcells_length : ∀ ms, (mcells ms).length = ms.length * 3
  | [] => rfl
  | m :: ms => by simp only [mcells, List.length_cons, mcells_length ms]; omega
theorem mcells_append : ∀ ms ns, mcells (ms ++ ns) = mcells ms ++ mcells ns
  | [], _ => rfl
  | m :: ms, ns => by simp only [mcells, List.cons_append, mcells_append ms ns]
theorem mcells_at : ∀ (ms : List Mov) (j : Nat), j < ms.length → (mcells ms)[j * 3]? = some (.int .i64 (mvAt ms j).a) ∧ (mcells ms)[j * 3 + 1]? = some (.int .i64 (mvAt ms j).b) ∧ (mcells ms)[j * 3 + 2]? = some (.int .i64 (mvAt ms j).grow)
  | [], j, h => by simp at h
  | m :: ms, 0, _ => by simp [mcells, mvAt]
  | m :: ms, j + 1, h => by
    have := mcells_at ms j (by simpa using h)
    have e1 : (j + 1) * 3 = j * 3 + 1 + 1 + 1 := by omega
    rw [e1]
    simp only [mcells, List.getElem?_cons_succ]
    simpa [mvAt] using this
/-- The slice address A reads as the steps ms, in blocks below B. -/
def Movs (w : World) (B : Nat) (A : Option Addr) (ms : List Mov) : Prop :=
  ms = [] ∨ ∃ b off, A = some ⟨b, off, none⟩ ∧ b < B ∧ ∀ j, j < ms.length → w.cell? ⟨b, off + j * 3, none⟩ = some (.int .i64 (mvAt ms j).a) ∧ w.cell? ⟨b, off + j * 3 + 1, none⟩ = some (.int .i64 (mvAt ms j).b) ∧ w.cell? ⟨b, off + j * 3 + 2, none⟩ = some (.int .i64 (mvAt ms j).grow)
section
variable {w w' : World} {B B' : Nat} {A : Option Addr} {ms : List Mov}
theorem Movs.keep (h : Movs w B A ms) (hk : ∀ p : Addr, p.block < B → w'.cell? p = w.cell? p) : Movs w' B A ms := by
  rcases h with h | ⟨b, off, hA, hb, hc⟩
  · exact .inl h
  · exact .inr ⟨b, off, hA, hb, fun j hj => ⟨(hk _ hb).trans (hc j hj).1, (hk _ hb).trans (hc j hj).2.1, (hk _ hb).trans (hc j hj).2.2⟩⟩
theorem Movs.below (h : Movs w B A ms) (hb : Below B w w') : Movs w' B A ms := h.keep fun _ hp => hb.cell hp
theorem Movs.at_ (h : Movs w B A ms) {k : Nat} (hk : k < ms.length) : ∃ b off, A = some ⟨b, off, none⟩ ∧ b < B ∧
    w.cell? ⟨b, off + k * 3, none⟩ = some (.int .i64 (mvAt ms k).a) ∧ w.cell? ⟨b, off + k * 3 + 1, none⟩ = some (.int .i64 (mvAt ms k).b) ∧ w.cell? ⟨b, off + k * 3 + 2, none⟩ = some (.int .i64 (mvAt ms k).grow) := by
  rcases h with rfl | ⟨b, off, hA, hb, hc⟩
  · simp at hk
  · exact ⟨b, off, hA, hb, hc k hk⟩
end
theorem owns_movs {w : World} {base : Nat} {e : TypeId} {v : Value} {k : Nat} {ms : List Mov} (h : w.ownsRow base e 3 v k (mcells ms)) : ms.length = k ∧ ∃ (A : Option Addr) (c : Nat), v = .slice A k c ∧ Movs w w.heap.size A ms := by
  have hl : ms.length = k := by have := h.1; rw [mcells_length] at this; omega
  refine ⟨hl, ?_⟩
  rcases Nat.eq_zero_or_pos k with h0 | h0
  · rcases h.2 with ⟨rfl, hk⟩ | ⟨g, cap, cur, rfl, _⟩
    · exact ⟨none, 0, by rw [h0], .inl (List.eq_nil_of_length_eq_zero (by omega))⟩
    · exact ⟨_, cap, rfl, .inl (List.eq_nil_of_length_eq_zero (by omega))⟩
  · obtain ⟨g, cap, rfl, _, hg⟩ := h.form h0
    refine ⟨_, cap, rfl, .inr ⟨g, 0, rfl, hg, fun j hj => ?_⟩⟩
    have e1 := h.cellAt (j * 3) (by omega)
    have e2 := h.cellAt (j * 3 + 1) (by omega)
    have e3 := h.cellAt (j * 3 + 2) (by omega)
    rw [(mcells_at ms j hj).1] at e1
    rw [(mcells_at ms j hj).2.1] at e2
    rw [(mcells_at ms j hj).2.2] at e3
    simpa using ⟨e1, e2, e3⟩
def upM (cs : List Chg) (v : Nat) : Mov := ⟨(chAt cs v).fr, (chAt cs v).to, (chAt cs v).new - ((chAt cs v).to - (chAt cs v).fr)⟩
def downM (cs : List Chg) (v : Nat) : Mov := ⟨(chAt cs v).fr, (chAt cs v).fr + (chAt cs v).new, (chAt cs v).to - (chAt cs v).fr - (chAt cs v).new⟩
def ups (cs : List Chg) (f k : Nat) : List Mov := (List.range k).map fun j => upM cs (f + j)
def downs (cs : List Chg) (f k : Nat) : List Mov := (List.range k).map fun j => downM cs (f - 1 - j)
theorem ups_succ (cs : List Chg) (f k : Nat) : ups cs f (k + 1) = ups cs f k ++ [upM cs (f + k)] := by simp [ups, List.range_succ]
theorem downs_succ (cs : List Chg) (f k : Nat) : downs cs f (k + 1) = downs cs f k ++ [downM cs (f - 1 - k)] := by simp [downs, List.range_succ]
/-- The steps from version f to version t. -/
def movesF (cs : List Chg) (f t : Nat) : List Mov := ups cs f (t - f) ++ downs cs f (f - t)
theorem movesF_length (cs : List Chg) (f t : Nat) : (movesF cs f t).length = (t - f) + (f - t) := by simp [movesF, ups, downs]
theorem newH {w w' : World} {cs : Array Value} {t : TypeId} {H : Nat} (h : NewOf w cs t w') (hH : w.heap.size = H) : ∀ j u, cs.toList[j]? = some u → w'.cell? ((⟨H, 0, none⟩ : Addr).add j) = some u := hH ▸ new_cells h
set_option maxRecDepth 100000 in
set_option maxHeartbeats 4000000 in
theorem lmoves (A : Option Addr) (c B : Nat) (num L : Int) (cs : List Chg) (f t : Nat) (w : World) (h : Chs w B A cs) (hB : B ≤ w.heap.size) (ho : RoadOk num L cs) (hf : f ≤ cs.length) (ht : t ≤ cs.length) :
    Calls Tryz.prog 42 #[.agg #[.int .i64 num, .int .i64 L, .slice A cs.length c], .int .i64 f, .int .i64 t] w fun e w' => ∃ (A' : Option Addr) (c' : Nat), e = .returned (.slice A' (movesF cs f t).length c') ∧ Movs w' w'.heap.size A' (movesF cs f t) ∧ Below w.heap.size w w' := by
  have hT := RdBox.new (c := c) (num := num) (L := L) (T := 24) h hB
  have hal : Below w.heap.size w (w.alloc (.cells #[.int .i64 num, .int .i64 L, .slice A cs.length c] 24)) := (Below.refl _ _).alloc (Nat.le_refl _) _
  generalize hW : w.alloc (.cells #[.int .i64 num, .int .i64 L, .slice A cs.length c] 24) = w2 at hT hal
  have HW := Lib.hid hW
  clear hW
  obtain ⟨-, q0, q1, q2, -, _⟩ := id hT
  have h40 := ho.2.2.1
  have HO := Lib.hid ho
  clear ho h
  have hTz := hT.sz
  have hTl := hT.lt
  go_enter Tryz.func42, Tryz.ntmps42
  go_upto_region 2 with fail
  rw [HW.out]
  clear HW
  obtain ⟨i0, hi, hz0, hz2, hz3⟩ := info_parts info110
  go_loopw [1, 7] (fun fr out wr => ∃ k : Nat, k ≤ t - f ∧ fr = .int .i64 ((f : Int) + k) ∧ wr.ownsRow w2.heap.size 110 3 out k (mcells (ups cs f k)) ∧ Below w2.heap.size w2 wr) (fun fr _ _ => t - (intOf fr).toNat)
  case atStart => exact ⟨0, Nat.zero_le _, by simp, World.ownsRow_nil _ _ _ _, Below.refl _ _⟩
  case round =>
    obtain ⟨k, hk, rfl, hown, hb⟩ := hrel
    have hT' := hT.below hb hTz
    clear q0 q1 q2
    obtain ⟨-, q0, q1, q2, -, _⟩ := id hT'
    have hb' := hb.size
    by_cases hlt : f + k < t
    · obtain ⟨b, off, hA, hbb, u0, u1, u2, u3⟩ := hT'.ch.at_ (k := f + k) (by omega)
      subst hA
      obtain ⟨⟨d0, d1⟩, ⟨d2, d3, d4⟩, ⟨d5, d6⟩, d7⟩ := HO.out.2.2.2 (f + k) (by omega)
      have hlb := lenAt_bd HO.out.2.1.1 HO.out.2.1.2 (f + k) (fun j hj => HO.out.2.2.2 j (by omega))
      obtain ⟨n0, n1⟩ := hlb
      clear d7
      go_wp2_with (first
        | (at_builtin; refine wpList_append_lies _ ?_ (.tmp 18) (.tmp 32) 89 ?_ w2.heap.size 110 i0 (.agg #[.int .i64 0, .int .i64 0, .int .i64 0]) 3 24 Tryz.underlying89 hi hz0 hz2 hz3 ?_ ?_ u7 k (mcells (ups cs f k)) ?_ ?_ ⟨wr.heap.size + 1, 0, none⟩ 1 1 [.int .i64 (chAt cs (f + k)).fr, .int .i64 (chAt cs (f + k)).to, .int .i64 ((chAt cs (f + k)).new - ((chAt cs (f + k)).to - (chAt cs (f + k)).fr))] ?_ ?_ ?_ ?_ ?_ ?_ ?_ ?_ (wr.heap.size + 2) ?_ ?_; (solve | (rfl)); (solve | (rfl)); (solve | (rfl)); (solve | (decide)); (solve | (rfl)); (solve | (exact owns_new (t := 110) (cs := #[_, _, _]) (hown.alloc _) (by first | exact .inl rfl | exact .inr (.inl rfl) | exact .inr (.inr rfl)))); (solve | (rfl)); (solve | (rfl)); (solve | (exact newH (t := 110) (w := wr.alloc _) (by first | exact .inl rfl | exact .inr (.inl rfl) | exact .inr (.inr rfl)) (by simp))); (solve | ((intro u hu; simp only [List.mem_cons, List.not_mem_nil, or_false] at hu; rcases hu with rfl | rfl | rfl <;> rfl))); (solve | (omega)); (solve | ((unfold maxLen; omega))); (solve | (omega)); (solve | ((simp; omega))); (solve | ((simp; done))); (intro g' cap w6 hown3 hgrow hat hg3))
        | fail)
      have hls : mcells (ups cs f k) ++ [.int .i64 (chAt cs (f + k)).fr, .int .i64 (chAt cs (f + k)).to, .int .i64 ((chAt cs (f + k)).new - ((chAt cs (f + k)).to - (chAt cs (f + k)).fr))] = mcells (ups cs f (k + 1)) := by rw [ups_succ, mcells_append]; rfl
      rw [hls] at hown3
      have hb3 : Below w2.heap.size w2 w6 := app_below (w := wr.alloc _) (t := 110) (cs := #[_, _, _]) (.inl rfl) (hb.alloc hb.size _) (by simp; omega) (hown.alloc _) hgrow
      exact ⟨⟨k + 1, by omega, by simp; omega, hown3, hb3⟩, by simp [intOf]; omega⟩
    · obtain ⟨wA, rfl⟩ : ∃ wA : World, wA = wr := ⟨_, rfl⟩
      have HKT : Hid (k = t - f) := Lib.hid (by omega)
      have hstart : mcells (ups cs f k) = mcells (ups cs f k ++ downs cs f 0) := by simp [downs]
      rw [hstart] at hown
      clear hstart hT' q0 q1 q2
      go_upto_region 6 with fail
      clear hlt hk
      go_loopw [1, 7] (fun fr out wr => ∃ p m : Nat, p + m = f + k ∧ m ≤ f - t ∧ fr = .int .i64 p ∧ wr.ownsRow w2.heap.size 110 3 out (k + m) (mcells (ups cs f k ++ downs cs f m)) ∧ Below w2.heap.size w2 wr) (fun fr _ _ => (intOf fr).toNat)
      case atStart => exact ⟨f + k, 0, rfl, Nat.zero_le _, by simp, hown, hb⟩
      case round =>
        clear hown hb hb'
        obtain ⟨p, m, hpm, hm, rfl, hown, hb⟩ := hrel
        have hT' := hT.below hb hTz
        obtain ⟨-, q0, q1, q2, -, _⟩ := id hT'
        have hb' := hb.size
        by_cases hlt2 : t < p
        · obtain ⟨p', rfl⟩ : ∃ p', p = p' + 1 := ⟨p - 1, by omega⟩
          have hpl : p' < cs.length := by have := HKT.out; omega
          have hp1 : f - 1 - m = p' := by have := HKT.out; omega
          have hm1 : m + 1 ≤ f - t := by have := HKT.out; omega
          have hkm : k + m ≤ 100 := by have := HKT.out; omega
          have HP1 := Lib.hid hp1
          have HM1 := Lib.hid hm1
          clear hp1 hm1
          obtain ⟨b, off, hA, hbb, u0, u1, u2, u3⟩ := hT'.ch.at_ (k := p') hpl
          subst hA
          obtain ⟨⟨d0, d1⟩, ⟨d2, d3, d4⟩, ⟨d5, d6⟩, d7⟩ := HO.out.2.2.2 p' (by omega)
          have hlb := lenAt_bd HO.out.2.1.1 HO.out.2.1.2 p' (fun j hj => HO.out.2.2.2 j (by omega))
          obtain ⟨n0, n1⟩ := hlb
          clear d7
          go_wp2_with (first
            | (at_builtin; refine wpList_append_lies _ ?_ (.tmp 46) (.tmp 63) 89 ?_ w2.heap.size 110 i0 (.agg #[.int .i64 0, .int .i64 0, .int .i64 0]) 3 24 Tryz.underlying89 hi hz0 hz2 hz3 ?_ ?_ u7 (k + m) (mcells (ups cs f k ++ downs cs f m)) ?_ ?_ ⟨wr.heap.size + 1, 0, none⟩ 1 1 [.int .i64 (chAt cs p').fr, .int .i64 ((chAt cs p').fr + (chAt cs p').new), .int .i64 ((chAt cs p').to - (chAt cs p').fr - (chAt cs p').new)] ?_ ?_ ?_ ?_ ?_ ?_ ?_ ?_ (wr.heap.size + 2) ?_ ?_; (solve | (rfl)); (solve | (rfl)); (solve | (rfl)); (solve | (decide)); (solve | (rfl)); (solve | (exact owns_new (t := 110) (cs := #[_, _, _]) (hown.alloc _) (by first | exact .inl rfl | exact .inr (.inl rfl) | exact .inr (.inr rfl)))); (solve | (rfl)); (solve | (rfl)); (solve | (exact newH (t := 110) (w := wr.alloc _) (by first | exact .inl rfl | exact .inr (.inl rfl) | exact .inr (.inr rfl)) (by simp))); (solve | ((intro u hu; simp only [List.mem_cons, List.not_mem_nil, or_false] at hu; rcases hu with rfl | rfl | rfl <;> rfl))); (solve | (omega)); (solve | ((unfold maxLen; omega))); (solve | (omega)); (solve | ((simp; omega))); (solve | ((simp; done))); (intro g' cap w6 hown3 hgrow hat hg3))
            | fail)
          have hls : mcells (ups cs f k ++ downs cs f m) ++ [.int .i64 (chAt cs p').fr, .int .i64 ((chAt cs p').fr + (chAt cs p').new), .int .i64 ((chAt cs p').to - (chAt cs p').fr - (chAt cs p').new)] = mcells (ups cs f k ++ downs cs f (m + 1)) := by rw [downs_succ, ← List.append_assoc, mcells_append (ups cs f k ++ downs cs f m), HP1.out]; rfl
          rw [hls] at hown3
          have hb3 : Below w2.heap.size w2 w6 := app_below (w := wr.alloc _) (t := 110) (cs := #[_, _, _]) (.inl rfl) (hb.alloc hb.size _) (by simp; omega) (hown.alloc _) hgrow
          exact ⟨⟨p', m + 1, by omega, HM1.out, rfl, hown3, hb3⟩, by simp [intOf]⟩
        · have hkt := HKT.out
          have hmf : m = f - t := by omega
          subst hkt hmf
          obtain ⟨hl, A', c', rfl, hM⟩ := owns_movs hown
          go_wp2
          go_ret
          have hlen : (movesF cs f t).length = t - f + (f - t) := movesF_length ..
          exact ⟨A', ⟨c', by rw [hlen]; rfl⟩, hM, hal.trans (hb.mono hal.size)⟩
end Go.Proofs.YtdmmcdbojmalfaaGreat
/- Contracts of the program's carry and Carry. -/
namespace Go.Proofs.YtdmmcdbojmalfaaGreat
open Go.RowKit
/-- Where a place is behind the first k steps; none: it is lost. -/
def carryTo (ms : List Mov) (c : Int) : Nat → Option Int
  | 0 => some c
  | k + 1 => (carryTo ms c k).bind (placeF (mvAt ms k))
theorem carry_none {ms : List Mov} {c : Int} {k : Nat} (h : carryTo ms c k = none) : ∀ n, k ≤ n → carryTo ms c n = none
  | 0, hn => by obtain rfl : k = 0 := by omega
                exact h
  | n + 1, hn => by
    by_cases e : k = n + 1
    · rw [← e]; exact h
    · simp [carryTo, carry_none h n (by omega)]
theorem place_bd {m : Mov} {c d : Int} (h : placeF m c = some d) (m0 : -10000000 ≤ m.grow) (m1 : m.grow ≤ 10000000) {b : Int} (c0 : -b ≤ c) (c1 : c ≤ b) : -(b + 10000000) ≤ d ∧ d ≤ b + 10000000 := by
  unfold placeF at h
  split at h
  · cases h; omega
  · split at h
    · cases h; omega
    · cases h
theorem carry_bd {ms : List Mov} {c : Int} (hm : ∀ j, j < ms.length → -10000000 ≤ (mvAt ms j).grow ∧ (mvAt ms j).grow ≤ 10000000) (c0 : 0 ≤ c) (c1 : c ≤ 10000000) : ∀ k, k ≤ ms.length → ∀ d, carryTo ms c k = some d → -(10000000 * ((k : Int) + 1)) ≤ d ∧ d ≤ 10000000 * ((k : Int) + 1)
  | 0, _, d, h => by simp only [carryTo] at h; cases h; omega
  | k + 1, hk, d, h => by
    simp only [carryTo] at h
    cases hc : carryTo ms c k with
    | none => rw [hc] at h; cases h
    | some x =>
      rw [hc] at h
      obtain ⟨a, b⟩ := carry_bd hm c0 c1 k (by omega) x hc
      obtain ⟨g0, g1⟩ := hm k (by omega)
      have := place_bd (m := mvAt ms k) (c := x) (d := d) h g0 g1 (b := 10000000 * ((k : Int) + 1)) a b
      omega
set_option maxRecDepth 100000 in
set_option maxHeartbeats 4000000 in
theorem lcarry (A : Option Addr) (cp B : Nat) (ms : List Mov) (c : Int) (w : World) (h : Movs w B A ms) (hB : B ≤ w.heap.size) (hn : ms.length ≤ 80) (hm : ∀ j, j < ms.length → -10000000 ≤ (mvAt ms j).grow ∧ (mvAt ms j).grow ≤ 10000000) (c0 : 0 ≤ c) (c1 : c ≤ 10000000) :
    Calls Tryz.prog 41 #[.slice A ms.length cp, .int .i64 c] w fun e w' => e = .returned (optPair (carryTo ms c ms.length)) ∧ Below w.heap.size w w' := by
  have HM := Lib.hid hm
  have HBD := Lib.hid (carry_bd hm c0 c1)
  clear hm
  go_enter Tryz.func41, Tryz.ntmps41
  go_wp2_with fail
  go_loopw [1, 12] (fun cv i wr => ∃ (k : Nat) (x : Int), k ≤ ms.length ∧ i = .int .i64 k ∧ cv = .int .i64 x ∧ Hid (carryTo ms c k = some x) ∧ Below w.heap.size w wr) (fun _ i _ => ms.length - (intOf i).toNat)
  case atStart => exact ⟨0, c, Nat.zero_le _, rfl, rfl, Lib.hid rfl, Below.refl _ _⟩
  case round =>
    obtain ⟨k, x, hk, rfl, rfl, hx, hb⟩ := hrel
    by_cases hlt : k < ms.length
    · obtain ⟨b, off, hA, hbb, u0, u1, u2⟩ := (h.below (hb.mono hB)).at_ hlt
      subst hA
      obtain ⟨x0, x1⟩ := HBD.out k hk x hx.out
      obtain ⟨g0, g1⟩ := HM.out k hlt
      have hs := hb.size
      have hal := hb.alloc hs (.cells #[.int .i64 (mvAt ms k).a, .int .i64 (mvAt ms k).b, .int .i64 (mvAt ms k).grow] 110)
      go_wp2_with fail
      refine (lplace (mvAt ms k) x _ (by omega) (by omega) (by omega) (by omega)).mono ?_
      rintro e w3 ⟨rfl, hb3⟩
      have hb4 := hal.trans (hb3.mono hal.size)
      have hstep : carryTo ms c (k + 1) = placeF (mvAt ms k) x := by simp [carryTo, hx.out]
      cases hp : placeF (mvAt ms k) x with
      | some y =>
        have HY := Lib.hid (hstep.trans hp)
        simp only [optPair, Option.getD_some, Option.isSome_some]
        clear hstep hp
        go_wp2_with fail
        exact ⟨⟨k + 1, y, by omega, by go_num, rfl, HY, hb4⟩, by simp [intOf]; omega⟩
      | none =>
        have hfin := carry_none (hstep.trans hp) ms.length (by omega)
        have HFIN := Lib.hid hfin
        simp only [optPair, Option.getD_none, Option.isSome_none]
        clear hstep hp hfin
        go_wp2_with fail
        go_ret2
        exact ⟨by rw [HFIN.out]; rfl, hb4⟩
    · obtain rfl : k = ms.length := by omega
      go_wp2
      go_ret2
      exact ⟨by rw [hx.out]; rfl, hb⟩
end Go.Proofs.YtdmmcdbojmalfaaGreat
