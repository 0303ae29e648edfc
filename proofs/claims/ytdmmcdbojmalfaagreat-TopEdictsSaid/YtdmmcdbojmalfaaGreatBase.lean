/- Words for memory that the walks of the road chapter share: slices that read as lists of ints, rows of rows, and how they are kept. No statement of the seat is proved here. -/
import Derived.Test.YtdmmcdbojmalfaaGreatRows
import Derived.WalkKit
import Derived.ProofKit
import Derived.Lib.Hide
import Derived.Deep.QuietTactic
import Derived.BigQuiet
import Derived.Deep.AppendLies
import Derived.Laws.OwnMore
import Derived.OpenShut
import Derived.Deep.Matrix
import Derived.Lib.SmallJoins
namespace Go.Proofs.YtdmmcdbojmalfaaGreat
open Go.RowKit
/-- Element j of a list of ints; 0 behind its end. -/
def at0 (xs : List Int) (j : Nat) : Int := xs.getD j 0
/-- Element j of a list of lists; the empty one behind its end. -/
def at1 (xs : List (List Int)) (j : Nat) : List Int := xs.getD j []

/-- The slice address A reads as the ints xs, in blocks below B. -/
def Ints (w : World) (B : Nat) (A : Option Addr) (xs : List Int) : Prop :=
  xs = [] ∨ ∃ b off, A = some ⟨b, off, none⟩ ∧ b < B ∧ ∀ j, j < xs.length → w.cell? ⟨b, off + j, none⟩ = some (.int .i64 (at0 xs j))

section
variable {w w' : World} {B B' : Nat} {A : Option Addr} {xs : List Int}
theorem Ints.keep (h : Ints w B A xs) (hk : ∀ p : Addr, p.block < B → w'.cell? p = w.cell? p) : Ints w' B A xs := by
  rcases h with h | ⟨b, off, hA, hb, hc⟩
  · exact .inl h
  · exact .inr ⟨b, off, hA, hb, fun j hj => (hk _ hb).trans (hc j hj)⟩
theorem Ints.more (h : Ints w B A xs) (hB : B ≤ B') : Ints w B' A xs := by
  rcases h with h | ⟨b, off, hA, hb, hc⟩
  · exact .inl h
  · exact .inr ⟨b, off, hA, by omega, hc⟩
theorem Ints.below (h : Ints w B A xs) (hb : Below B w w') : Ints w' B A xs := h.keep fun _ hp => hb.cell hp
theorem Ints.at_ (h : Ints w B A xs) {k : Nat} (hk : k < xs.length) : ∃ b off, A = some ⟨b, off, none⟩ ∧ b < B ∧ ∀ j, j < xs.length → w.cell? ⟨b, off + j, none⟩ = some (.int .i64 (at0 xs j)) := by
  rcases h with rfl | h
  · simp at hk
  · exact h
end
theorem bcell {W w1 : World} {B : Nat} (hb : Below B W w1) : (∀ b o, b < B → w1.cell? ⟨b, o, none⟩ = W.cell? ⟨b, o, none⟩) ∧ (∀ b o, b < B → w1.frozen? ⟨b, o, none⟩ = W.frozen? ⟨b, o, none⟩) :=
  ⟨fun b o h => hb.cell (p := ⟨b, o, none⟩) h, fun b o h => hb.frozen (p := ⟨b, o, none⟩) h⟩
theorem below_drewN {B : Nat} {a w : World} (h : Below B a w) (n : Nat) : Below B a (w.drewN n) := ⟨h.os, h.tape, h.output, h.size, h.block⟩
/-- The world after some draws. -/
def Drew (w w' : World) : Prop := ∃ q, w' = w.drewN q
section
variable {w w' : World} {B : Nat} {A : Option Addr} {xs : List Int}
theorem Drew.refl (w : World) : Drew w w := ⟨0, rfl⟩
theorem Drew.drewN (h : Drew w w') (n : Nat) : Drew w (w'.drewN n) := by obtain ⟨q, rfl⟩ := h; exact ⟨q + n, by simp⟩
theorem Drew.drew (h : Drew w w') : Drew w w'.drew := h.drewN 1
theorem Drew.trans {w2 : World} (h : Drew w w') (h2 : Drew w' w2) : Drew w w2 := by obtain ⟨q, rfl⟩ := h2; exact h.drewN q
theorem Drew.cell (h : Drew w w') (p : Addr) : w'.cell? p = w.cell? p := by obtain ⟨q, rfl⟩ := h; rfl
theorem Drew.frozen (h : Drew w w') (p : Addr) : w'.frozen? p = w.frozen? p := by obtain ⟨q, rfl⟩ := h; rfl
theorem Drew.heap (h : Drew w w') : w'.heap = w.heap := by obtain ⟨q, rfl⟩ := h; rfl
theorem Drew.below (h : Drew w w') (B : Nat) : Below B w w' := by obtain ⟨q, rfl⟩ := h; exact below_drewN (Below.refl _ _) q
theorem Drew.ints (h : Drew w w') (hi : Ints w B A xs) : Ints w' B A xs := hi.keep fun p _ => h.cell p
end
/-- A callee that only draws, met in a quiet region. -/
theorem quiet_drew {P : Program} {f : FuncId} {args : Array Value} {w : World} {n : Nat} {v : Value}
    (h : Calls P f args (w.drewN n) fun e w' => e = .returned v ∧ Drew (w.drewN n) w') : Calls P f args (w.drewN n) fun e w'' => e = .returned v ∧ ∃ m, w'' = w.drewN m :=
  h.mono fun _ _ ⟨he, m, hm⟩ => ⟨he, n + m, by rw [hm, World.drewN_drewN]⟩
theorem quiet_same {P : Program} {f : FuncId} {args : Array Value} {w : World} {n : Nat} {v : Value}
    (h : Calls P f args (w.drewN n) fun e w' => e = .returned v ∧ w.drewN n = w') : Calls P f args (w.drewN n) fun e w'' => e = .returned v ∧ ∃ m, w'' = w.drewN m :=
  h.mono fun _ _ ⟨he, hm⟩ => ⟨he, n, hm.symm⟩
theorem ret_int {k : IntKind} {a b : Int} (h : a = b) : Ending.returned (.int k a) = .returned (.int k b) := by rw [h]
theorem ret_bool {a b : Bool} (h : a = b) : Ending.returned (.bool a) = .returned (.bool b) := by rw [h]
def inB (lo n hi : Int) : Bool := decide (lo ≤ n) && decide (n ≤ hi)
theorem inB_t {lo n hi : Int} (h1 : lo ≤ n) (h2 : n ≤ hi) : inB lo n hi = true := by simp [inB, h1, h2]
theorem inB_f {lo n hi : Int} (h : ¬ (lo ≤ n ∧ n ≤ hi)) : inB lo n hi = false := by
  cases hh : inB lo n hi with
  | false => rfl
  | true => exact absurd (by simpa [inB] using hh) h
theorem inB_iff {lo n hi : Int} : inB lo n hi = true ↔ lo ≤ n ∧ n ≤ hi := by simp [inB]
theorem hid_more {p : Nat → Prop} {k : Nat} (h : Hid (∀ j, j < k → p j)) (hk : p k) : Hid (∀ j, j < k + 1 → p j) := fun j hj => by
  by_cases e : j = k
  · rw [e]; exact hk
  · exact h.out j (by omega)
theorem hid_none {p : Nat → Prop} : Hid (∀ j, j < 0 → p j) := fun j hj => absurd hj (by omega)
/-- Element j of a list of spans. -/
def atp (xs : List (Int × Int)) (j : Nat) : Int × Int := xs.getD j (0, 0)
/-- The slice address A reads as the spans (readings, measures) xs, in blocks below B. -/
def Pairs (w : World) (B : Nat) (A : Option Addr) (xs : List (Int × Int)) : Prop :=
  xs = [] ∨ ∃ b off, A = some ⟨b, off, none⟩ ∧ b < B ∧ ∀ j, j < xs.length → w.cell? ⟨b, off + j * 2, none⟩ = some (.int .i64 (atp xs j).1) ∧ w.cell? ⟨b, off + j * 2 + 1, none⟩ = some (.int .i64 (atp xs j).2)
section
variable {w w' : World} {B B' : Nat} {A : Option Addr} {xs : List (Int × Int)}
theorem Pairs.keep (h : Pairs w B A xs) (hk : ∀ p : Addr, p.block < B → w'.cell? p = w.cell? p) : Pairs w' B A xs := by
  rcases h with h | ⟨b, off, hA, hb, hc⟩
  · exact .inl h
  · exact .inr ⟨b, off, hA, hb, fun j hj => ⟨(hk _ hb).trans (hc j hj).1, (hk _ hb).trans (hc j hj).2⟩⟩
theorem Pairs.more (h : Pairs w B A xs) (hB : B ≤ B') : Pairs w B' A xs := by
  rcases h with h | ⟨b, off, hA, hb, hc⟩
  · exact .inl h
  · exact .inr ⟨b, off, hA, by omega, hc⟩
theorem Pairs.below (h : Pairs w B A xs) (hb : Below B w w') : Pairs w' B A xs := h.keep fun _ hp => hb.cell hp
theorem Pairs.at_ (h : Pairs w B A xs) {k : Nat} (hk : k < xs.length) : ∃ b off, A = some ⟨b, off, none⟩ ∧ b < B ∧
    ∀ j, j < xs.length → w.cell? ⟨b, off + j * 2, none⟩ = some (.int .i64 (atp xs j).1) ∧ w.cell? ⟨b, off + j * 2 + 1, none⟩ = some (.int .i64 (atp xs j).2) := by
  rcases h with rfl | h
  · simp at hk
  · exact h
end
end Go.Proofs.YtdmmcdbojmalfaaGreat
/- Rows that a call builds itself: of ints, of pairs; appends. -/
namespace Go.Proofs.YtdmmcdbojmalfaaGreat
open Go.RowKit
theorem owns_ints {w : World} {base : Nat} {v : Value} {k : Nat} {ys : List Int} (h : w.ownsRow base 3 1 v k (ys.map (.int .i64))) (hl : ys.length = k) : ∃ (A : Option Addr) (c : Nat), v = .slice A k c ∧ Ints w w.heap.size A ys := by
  by_cases h0 : v.ownBlock = none
  · rcases h.2 with ⟨rfl, hk⟩ | ⟨g, cap, cur, rfl, _⟩
    · subst hk
      exact ⟨none, 0, rfl, .inl (List.eq_nil_of_length_eq_zero hl)⟩
    · simp [Value.ownBlock] at h0
  · rcases h.2 with ⟨rfl, hk⟩ | ⟨g, cap, cur, rfl, _, _⟩
    · simp [Value.ownBlock] at h0
    · refine ⟨_, cap, rfl, .inr ⟨g, 0, rfl, (h.lt g rfl).2, fun j hj => ?_⟩⟩
      have := h.cells (g := g) rfl j (.int .i64 (at0 ys j)) (by simp [at0, hj])
      rwa [Go.WideShapes.add_plain] at this
theorem info3 : (Tryz.prog.info? 3).map (fun i => (i.zero, i.size, i.bytes)) = some (some (.int .i64 0), 1, 8) := by kernel_rfl
/-- A world in which one object has just been made, a draw before or behind it or none. -/
def NewOf (w : World) (cs : Array Value) (t : TypeId) (w' : World) : Prop :=
  w' = w.alloc (.cells cs t) ∨ w' = (w.alloc (.cells cs t)).drew ∨ w' = (w.drew.alloc (.cells cs t))
theorem new_at {w : World} {cs : Array Value} {t : TypeId} : ∃ fr, (w.alloc (.cells cs t)).heap[w.heap.size]? = some (.cells cs t fr) := ⟨_, by simp only [World.alloc, Array.getElem?_push_size]; rfl⟩
theorem new_cells {w w' : World} {cs : Array Value} {t : TypeId} (h : NewOf w cs t w') : ∀ j u, cs.toList[j]? = some u → w'.cell? ((⟨w.heap.size, 0, none⟩ : Addr).add j) = some u := by
  rcases h with rfl | rfl | rfl
  · obtain ⟨fr, h⟩ := @new_at w cs t; exact World.news_of_block h
  · obtain ⟨fr, h⟩ := @new_at w cs t; exact World.news_of_block (w := (w.alloc (.cells cs t)).drew) h
  · obtain ⟨fr, h⟩ := @new_at w.drew cs t; exact World.news_of_block h
theorem one_new {w w' : World} {x : Value} {t : TypeId} (h : NewOf w #[x] t w') : ∀ j u, [x][j]? = some u → w'.cell? ((⟨w.heap.size, 0, none⟩ : Addr).add j) = some u := new_cells (cs := #[x]) h
theorem new_size {w w' : World} {cs : Array Value} {t : TypeId} (h : NewOf w cs t w') : w'.heap.size = w.heap.size + 1 := by
  rcases h with rfl | rfl | rfl <;> simp
theorem new_below {B : Nat} {a w w' : World} {cs : Array Value} {t : TypeId} (h : NewOf w cs t w') (hb : Below B a w) (hB : B ≤ w.heap.size) : Below B a w' := by
  rcases h with rfl | rfl | rfl
  · exact hb.alloc hB _
  · exact (hb.alloc hB _).drew
  · exact hb.drew.alloc hB _
theorem owns_new {w w' : World} {cs : Array Value} {t : TypeId} {base : Nat} {e : TypeId} {size : Nat} {v : Value} {n : Nat} {xs : List Value} (h : w.ownsRow base e size v n xs) (hn : NewOf w cs t w') : w'.ownsRow base e size v n xs := by
  rcases hn with rfl | rfl | rfl
  · exact h.alloc _
  · exact World.ownsRow.drew (h.alloc _)
  · exact (World.ownsRow.drew h).alloc _
/-- Behind an append to an own row all below its base is as it was. -/
theorem app_below {B : Nat} {a w w' w3 : World} {cs : Array Value} {t : TypeId} {e : TypeId} {size : Nat} {v : Value} {n : Nat} {xs : List Value}
    (hn : NewOf w cs t w') (hb : Below B a w) (hB : B ≤ w.heap.size) (hown : w.ownsRow B e size v n xs) (hg : w'.grownBy w3 v.ownBlock) : Below B a w3 :=
  (new_below hn hb hB).grown hg (by rw [new_size hn]; omega) fun k hk => (hown.lt k hk).1
def pcells : List (Int × Int) → List Value
  | [] => []
  | p :: ps => .int .i64 p.1 :: .int .i64 p.2 :: pcells ps
theorem pcells_length : ∀ ps, (pcells ps).length = ps.length * 2
  | [] => rfl
  | p :: ps => by simp only [pcells, List.length_cons, pcells_length ps]; omega
theorem pcells_append : ∀ ps qs, pcells (ps ++ qs) = pcells ps ++ pcells qs
  | [], _ => rfl
  | p :: ps, qs => by simp only [pcells, List.cons_append, pcells_append ps qs]
theorem pcells_one (a b : Int) : pcells [(a, b)] = [.int .i64 a, .int .i64 b] := rfl
theorem pcells_at : ∀ (ps : List (Int × Int)) (j : Nat), j < ps.length → (pcells ps)[j * 2]? = some (.int .i64 (atp ps j).1) ∧ (pcells ps)[j * 2 + 1]? = some (.int .i64 (atp ps j).2)
  | [], j, h => by simp at h
  | p :: ps, 0, _ => by simp [pcells, atp]
  | p :: ps, j + 1, h => by
    have := pcells_at ps j (by simpa using h)
    have e1 : (j + 1) * 2 = j * 2 + 1 + 1 := by omega
    rw [e1]
    simp only [pcells, List.getElem?_cons_succ]
    simpa [atp] using this
theorem pcells_set : ∀ (ps : List (Int × Int)) (j : Nat) (y : Int), j < ps.length → (pcells ps).set (j * 2 + 1) (.int .i64 y) = pcells (ps.set j ((atp ps j).1, y))
  | [], j, y, h => by simp at h
  | p :: ps, 0, y, _ => by simp [pcells, atp]
  | p :: ps, j + 1, y, h => by
    have := pcells_set ps j y (by simpa using h)
    have e1 : (j + 1) * 2 + 1 = j * 2 + 1 + 1 + 1 := by omega
    rw [e1]
    simp only [pcells, List.set_cons_succ, this]
    simp [atp]
theorem owns_pairs {w : World} {base : Nat} {e : TypeId} {v : Value} {k : Nat} {ps : List (Int × Int)} (h : w.ownsRow base e 2 v k (pcells ps)) :
    ps.length = k ∧ ∃ (A : Option Addr) (c : Nat), v = .slice A k c ∧ Pairs w w.heap.size A ps := by
  have hl : ps.length = k := by have := h.1; rw [pcells_length] at this; omega
  refine ⟨hl, ?_⟩
  rcases Nat.eq_zero_or_pos k with h0 | h0
  · rcases h.2 with ⟨rfl, hk⟩ | ⟨g, cap, cur, rfl, _⟩
    · exact ⟨none, 0, by rw [h0], .inl (List.eq_nil_of_length_eq_zero (by omega))⟩
    · exact ⟨_, cap, rfl, .inl (List.eq_nil_of_length_eq_zero (by omega))⟩
  · obtain ⟨g, cap, rfl, _, hg⟩ := h.form h0
    refine ⟨_, cap, rfl, .inr ⟨g, 0, rfl, hg, fun j hj => ?_⟩⟩
    have e1 := h.cellAt (j * 2) (by omega)
    have e2 := h.cellAt (j * 2 + 1) (by omega)
    rw [(pcells_at ps j hj).1] at e1
    rw [(pcells_at ps j hj).2] at e2
    simpa using ⟨e1, e2⟩
/-- An own row stands as it was where everything below the heap's end stands. -/
theorem owns_keep {w w' : World} {base : Nat} {e : TypeId} {size : Nat} {v : Value} {n : Nat} {xs : List Value} (h : w.ownsRow base e size v n xs) (hb : Below w.heap.size w w') : w'.ownsRow base e size v n xs :=
  h.kept (row := none) ⟨hb.os, hb.tape, hb.output, hb.size, fun k hk _ => hb.block k hk⟩ (by cases hv : v.ownBlock with | none => exact .inl rfl | some g => exact .inr (by simp))
end Go.Proofs.YtdmmcdbojmalfaaGreat
/- The frame that the statements of this seat share: from the walk of a law ('it returns true and leaves what was there') to its row; and how tables and slices of ints are opened. -/
namespace Go.Proofs.YtdmmcdbojmalfaaGreat
open Go.ChangeShapes Go.WideShapes Go.ChangeAt Go.RowKit Go.Joins Go.Deep
theorem own : ownKnob Tryz.prog.godebug = none := by kernel_rfl
theorem laidTry : laidOutB Tryz.prog = true := by kernel_rfl
section
variable {H : Type} {enc : TypeId × Value → H} {P : Program}
theorem trodAll_stays (hl : laidOutB P = true) {W W' : World} {sp : Nat → Bool} : ∀ (ts : List TypeId) (vs : List Value) (ds : List (DataW H)) (ps : List MemPlace),
    (∀ t ∈ ts, P.readableRec t = true ∧ t < P.types.size) → DataW.TrodAll enc P W 0 (fun _ => true) true ts vs ds ps → (∀ p ∈ ps, W.sameAt W' p) → (∀ p ∈ ps, sp p.block = true) → DataW.TrodAll enc P W' 0 sp true ts vs ds ps
  | [], vs, ds, ps, _, h, _, _ => by
    cases vs <;> cases ds <;> simp_all [DataW.TrodAll]
  | t :: ts, vs, ds, ps, hr, h, hs, hp => by
    cases vs with
    | nil => cases ds <;> simp [DataW.TrodAll] at h
    | cons v vs =>
      cases ds with
      | nil => simp [DataW.TrodAll] at h
      | cons d ds =>
        obtain ⟨p, q, h1, h2, rfl⟩ := h
        exact ⟨p, q, WideElems.Trod_stays hl (hr t (by simp)).1 (hr t (by simp)).2 h1 (fun x hx => hs x (by simp [hx])) (fun x hx => hp x (by simp [hx])),
          trodAll_stays hl ts vs ds q (fun u hu => hr u (by simp [hu])) h2 (fun x hx => hs x (by simp [hx])) (fun x hx => hp x (by simp [hx])), rfl⟩
theorem trodAll_length {W : World} {base : Nat} {sp : Nat → Bool} {held : Bool} : ∀ (ts : List TypeId) (vs : List Value) (ds : List (DataW H)) (ps : List MemPlace), DataW.TrodAll enc P W base sp held ts vs ds ps → ds.length = ts.length
  | [], vs, ds, ps, h => by cases vs <;> cases ds <;> simp_all [DataW.TrodAll]
  | t :: ts, vs, ds, ps, h => by
    cases vs with
    | nil => cases ds <;> simp [DataW.TrodAll] at h
    | cons v vs =>
      cases ds with
      | nil => simp [DataW.TrodAll] at h
      | cons d ds =>
        obtain ⟨p, q, _, h2, _⟩ := h
        simp [trodAll_length ts vs ds q h2]
/-- 'post' behind a call of which 'Below' is known and whose results are plain. -/
theorem post_of_below {f : Func} {s : ChangeSpec} {apart fresh handsOn again : Bool} {W W' : World} {args : Array Value} {v : Value} {ds gs : List (DataW H)} {before pa pv : List MemPlace}
    (hW : DataW.Whole enc P f.params.toList s.vars apart W args.toList ds gs before)
    (hres : ∀ (b : Nat) (sp : Nat → Bool) (hd : Bool), DataW.TrodAll enc P W' b sp hd f.resultTypes.toList (v.resultList f.resultTypes.size) (s.fn H (ds ++ gs)).results [])
    (hargs : ∀ sp : Nat → Bool, (∀ p ∈ before, sp p.block = true) → DataW.TrodAll enc P W' 0 sp true f.params.toList args.toList (s.fn H (ds ++ gs)).args pa)
    (hvars : ∀ sp : Nat → Bool, (∀ p ∈ before, sp p.block = true) → DataW.TrodVars enc P W' sp s.vars (s.fn H (ds ++ gs)).vars pv)
    (hps : before = pa ++ pv) (hb : Below W.heap.size W W')
    (hok : ∀ (j : Nat) (t : TypeId) (r : Value), f.resultTypes[j]? = some t → (v.resultList f.resultTypes.size)[j]? = some r → Value.okWide P W' .any 0 t r) :
    s.post enc P f apart fresh handsOn again W args v W' := by
  have hlt : ∀ p ∈ before, p.block < W.heap.size := fun p hp => hW.lt p hp
  have hold : ∀ p ∈ before, (fun b => decide (b < W.heap.size)) p.block = true := fun p hp => by simpa using hlt p hp
  refine ⟨ds, gs, before, [], pa, pv, hW, hres _ _ _, hargs _ hold, hvars _ hold, World.keptBut_mono (fun p hp => ⟨hp, ?_⟩) (hb.frame (· ∈ before)), fun _ => ?_⟩
  · rw [hps, List.mem_append] at hp
    exact Or.inr hp
  · obtain ⟨_, _, _, _, _, hz, hn⟩ := hW
    refine ⟨hok, _, _, ([] ++ pa) ++ pv, ⟨[] ++ pa, pv, trodAll_append (hargs _ (fun _ _ => rfl)) (hres _ _ _), hvars _ (fun _ _ => rfl), rfl, ?_, ?_⟩, ?_⟩
    · intro b off hp
      have hin : MemPlace.cell b off ∈ before := by rw [hps]; simpa using hp
      rw [hb.frozen (hlt _ hin)]
      exact hz b off hin
    · intro ha
      have := hn ha
      rw [hps] at this
      simpa using this
    · intro p hp _
      rw [hps]
      simpa using hp
end
set_option maxRecDepth 100000 in
/-- The contract of a law, out of its walk. -/
theorem law_contract {H : Type} {enc : TypeId × Value → H} {F : FuncId} {fn : Func} {s : ChangeSpec} {apart fresh handsOn again : Bool} (hv : s.vars = []) (hr : fn.resultTypes = #[4])
    (hp : ∀ t ∈ fn.params.toList, Tryz.prog.readableRec t = true ∧ t < Tryz.prog.types.size)
    (hs : ∀ ds : List (DataW H), ds.length = fn.params.toList.length → s.fn H ds = { results := [.lit (.bool true)], args := ds })
    (W : World) (_base : Nat) (args : Array Value) (ds gs : List (DataW H)) (before : List MemPlace)
    (hW : DataW.Whole enc Tryz.prog fn.params.toList s.vars apart W args.toList ds gs before)
    (walk : ∀ p, DataW.TrodAll enc Tryz.prog W 0 (fun _ => true) true fn.params.toList args.toList ds p → Calls Tryz.prog F args W fun e W' => e = .returned (.bool true) ∧ Below W.heap.size W W') :
    Calls Tryz.prog F args W fun e W' => ∃ v, e = .returned v ∧ s.post enc Tryz.prog fn apart fresh handsOn again W args v W' := by
  have hW' := hW
  obtain ⟨p, q, hA, hV, rfl, hfz, hnd⟩ := hW
  rw [hv] at hV
  obtain ⟨rfl, rfl⟩ := trodVars_none hV
  have hlen := trodAll_length _ _ _ _ hA
  refine (walk p hA).mono fun e W' ⟨he, hg⟩ => ?_
  subst he
  have hfn : s.fn H (ds ++ []) = { results := [.lit (.bool true)], args := ds } := by rw [List.append_nil]; exact hs ds hlen
  refine ⟨_, rfl, post_of_below (pa := p) (pv := []) hW' ?_ ?_ ?_ rfl hg ?_⟩
  · intro b sp hd
    rw [hfn, hr]
    exact trodAll_mk1 (shut_bool Tryz.underlying4 _)
  · intro sp hsp
    rw [hfn]
    exact trodAll_stays laidTry _ _ _ _ hp hA (fun x hx => hg.same (hW'.lt x (by simpa using hx))) (fun x hx => hsp x (by simpa using hx))
  · intro sp _
    rw [hfn, hv]
    simp [DataW.TrodVars]
  · exact ok_one hr rfl (okWide_bool_mk Tryz.underlying4 _)
end Go.Proofs.YtdmmcdbojmalfaaGreat
