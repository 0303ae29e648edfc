/- TopLog: the encoding of an entry; number, encode. -/
import Derived.Test.YtikfeoghmpoigaaDsk2
import Derived.Laws.AppendOwnNone
import Derived.Lib.JoinLaws
namespace Go.Proofs.Ytikfeoghmpoigaa
open Go.RowKit
def be4 (n : Nat) : List Nat := [n / 16777216 % 256, n / 65536 % 256, n / 256 % 256, n % 256]
def encH (e : List Nat) : List Nat := 66 :: e.length / 256 % 256 :: e.length % 256 :: e
def enc (e : List Nat) : List Nat := encH e ++ be4 (crcF (encH e)).toNat
theorem encH_length (e : List Nat) : (encH e).length = e.length + 3 := by simp [encH]
theorem enc_length (e : List Nat) : (enc e).length = e.length + 7 := by simp [enc, encH_length, be4]
theorem u8_be4 (n : Nat) : U8 (be4 n) := fun x hx => by simp [be4] at hx; omega
theorem u8_encH {e : List Nat} (h : U8 e) : U8 (encH e) := fun x hx => by
  simp only [encH, List.mem_cons] at hx
  rcases hx with rfl | rfl | rfl | hx
  · decide
  · omega
  · omega
  · exact h x hx
theorem u8_append {a b : List Nat} (h : U8 a) (g : U8 b) : U8 (a ++ b) := fun x hx => by
  rcases List.mem_append.1 hx with hx | hx
  · exact h x hx
  · exact g x hx
theorem u8_enc {e : List Nat} (h : U8 e) : U8 (enc e) := u8_append (u8_encH h) (u8_be4 _)
theorem bcells_append (a b : List Nat) : bcells (a ++ b) = bcells a ++ bcells b := List.map_append
/-- 'append(b, xs...)' of bytes, nil or not, to a row that the call owns. -/
theorem wpList_append_bytes {ops : Array Oper} {rest : List Oper} {o : Oper} {a : Act} {w : World} {Q : Exit → Act → World → Prop} (hgd : o.guard = none) (s x : Operand)
    (ho : o.op = .call { callee := .builtin .append, args := #[s, x], argTypes := #[24, 24] })
    (base : Nat) (v : Value) (n : Nat) (Lo : List Nat) (hs : a.eval s = v) (hown : w.ownsRow base 5 1 v n (bcells Lo))
    (A : Option Addr) (m c B : Nat) (xs : List Nat) (hP : Byts w B A xs) (hnil : A = none → c = 0) (hx : a.eval x = .slice A m c) (hm : xs.length = m)
    (h63 : n + m ≤ 1000000) (hbase : base ≤ w.heap.size)
    (h : ∀ v' w', w'.ownsRow base 5 1 v' (n + m) (bcells (Lo ++ xs)) → w.grownBy w' v.ownBlock → (v'.ownBlock = v.ownBlock ∨ v'.ownBlock = some w.heap.size) → wpList Try.prog ops Q rest (a.put o.dst v') w') : wpList Try.prog ops Q (o :: rest) a w := by
  obtain ⟨i0, hi, hz0, hz2, hz3⟩ := info_parts info5
  subst hm
  cases A with
  | none =>
    obtain rfl := hnil rfl
    obtain rfl : xs = [] := by
      rcases hP with h | ⟨_, _, h, _⟩
      · exact h
      · cases h
    refine wpList_append_own_none hgd s x 24 ho base 5 i0 1 Try.underlying24 hi v n (bcells Lo) hs hown hx ?_
    refine h v w (by simpa using hown) ⟨rfl, rfl, rfl, Nat.le_refl _, fun _ _ _ => rfl⟩ (.inl rfl)
  | some ad =>
    refine wpList_append_own_at w hgd s x 24 ho base 5 i0 (.int .u8 0) 1 1 Try.underlying24 hi hz0 hz2 hz3 rfl (by decide) v n (bcells Lo) hs hown ad xs.length c (bcells xs) hx (by simp [bcells]) hP.news bcells_one (by unfold maxLen; omega) (by omega) hbase ?_
    intro v' w' h1 h2 _ h4
    exact h v' w' (by rw [bcells_append]; exact h1) h2 h4
/-- Bytes that have just been laid into a block of their own. -/
theorem byts_new {w : World} {cs : Array Value} {t : TypeId} {xs : List Nat} (h : cs.toList = bcells xs) : Byts (w.alloc (.cells cs t)) (w.heap.size + 1) (some ⟨w.heap.size, 0, none⟩) xs := by
  refine .inr ⟨_, 0, rfl, Nat.lt_succ_self _, fun j hj => ?_⟩
  have := new_cells (w := w) (cs := cs) (t := t) (.inl rfl) j (.int .u8 (atb xs j : Nat)) (by rw [h]; simp [bcells, atb, hj])
  rwa [Go.WideShapes.add_plain] at this
set_option maxRecDepth 100000 in
set_option maxHeartbeats 4000000 in
theorem lnumber {w : World} (base : Nat) (v : Value) (m n : Nat) (xs : List Nat) (h : w.ownsRow base 5 1 v m (bcells xs)) (hb : base ≤ w.heap.size) (hl : m ≤ 900000) (hn : n < 4294967296) :
    Calls Try.prog 28 #[v, .int .i64 4, .int .u64 n] w fun e w' => ∃ v', e = .returned v' ∧ w'.ownsRow base 5 1 v' (m + 4) (bcells (xs ++ be4 n)) ∧ Below base w w' := by
  go_enter Try.func28, Try.ntmps28
  go_wp2_with fail
  obtain ⟨w2, rfl⟩ : ∃ w2 : World, w2 = w := ⟨_, rfl⟩
  go_loopw [0, 1] (fun vv i wr => ∃ k j : Nat, k + j = 4 ∧ i = .int .i64 j ∧ wr.ownsRow base 5 1 vv (m + k) (bcells (xs ++ (be4 n).take k)) ∧ Below base w2 wr) (fun _ i _ => (intOf i).toNat)
  case atStart => exact ⟨0, 4, rfl, rfl, by simpa using h, Below.refl _ _⟩
  case round =>
    obtain ⟨k, j, hkj, rfl, hown, hbw⟩ := hrel
    rcases (by omega : j = 0 ∨ j = 1 ∨ j = 2 ∨ j = 3 ∨ j = 4) with rfl | rfl | rfl | rfl | rfl
    · obtain rfl : k = 4 := by omega
      go_wp2_with fail
      go_ret
      exact ⟨_, rfl, hown, hbw⟩
    · obtain rfl : k = 3 := by omega
      have hval : bcells [atb (be4 n) 3] = [.int .u8 ((n : Int) % 256)] := by simp [bcells, be4, atb]
      have hnx : xs ++ (be4 n).take 4 = (xs ++ (be4 n).take 3) ++ [atb (be4 n) 3] := by simp [be4, atb]
      have hP : Byts (wr.alloc (.cells #[.int .u8 ((n : Int) % 256)] 5)) (wr.heap.size + 1) (some ⟨wr.heap.size, 0, none⟩) [atb (be4 n) 3] := byts_new (by rw [hval])
      have HNX := Lib.hid hnx
      have hown1 := hown.alloc (.cells #[.int .u8 ((n : Int) % 256)] 5)
      have hb1 := hbw.alloc (by have := hbw.size; omega) (.cells #[.int .u8 ((n : Int) % 256)] 5)
      have hb2 : base ≤ (wr.alloc (.cells #[.int .u8 ((n : Int) % 256)] 5)).heap.size := by have := hb1.size; omega
      clear hnx hval
      go_wp2_with (first
        | (at_builtin; go_loud (refine wpList_append_bytes ?_ (.tmp 11) (.tmp 18) ?_ base _ (m + 3) (xs ++ (be4 n).take 3) ?_ hown1 (some ⟨wr.heap.size, 0, none⟩) 1 1 (wr.heap.size + 1) [atb (be4 n) 3] hP ?_ ?_ ?_ ?_ hb2 ?_; (solve | (rfl)); (solve | (rfl)); (solve | (rfl)); (solve | (intro hh; cases hh)); (solve | (rfl)); (solve | (rfl)); (solve | (omega)); (intro v' w3 hown3 hgrow hat)))
        | fail)
      exact ⟨⟨4, 0, by omega, by go_num, by rw [HNX.out]; exact hown3, hb1.grown hgrow (by omega) fun g hg => (hown1.lt g hg).1⟩, by simp [intOf]⟩
    · obtain rfl : k = 2 := by omega
      have hval : bcells [atb (be4 n) 2] = [.int .u8 ((n : Int) / 256 % 256)] := by simp [bcells, be4, atb]
      have hnx : xs ++ (be4 n).take 3 = (xs ++ (be4 n).take 2) ++ [atb (be4 n) 2] := by simp [be4, atb]
      have hP : Byts (wr.alloc (.cells #[.int .u8 ((n : Int) / 256 % 256)] 5)) (wr.heap.size + 1) (some ⟨wr.heap.size, 0, none⟩) [atb (be4 n) 2] := byts_new (by rw [hval])
      have HNX := Lib.hid hnx
      have hown1 := hown.alloc (.cells #[.int .u8 ((n : Int) / 256 % 256)] 5)
      have hb1 := hbw.alloc (by have := hbw.size; omega) (.cells #[.int .u8 ((n : Int) / 256 % 256)] 5)
      have hb2 : base ≤ (wr.alloc (.cells #[.int .u8 ((n : Int) / 256 % 256)] 5)).heap.size := by have := hb1.size; omega
      clear hnx hval
      go_wp2_with (first
        | (at_builtin; go_loud (refine wpList_append_bytes ?_ (.tmp 11) (.tmp 18) ?_ base _ (m + 2) (xs ++ (be4 n).take 2) ?_ hown1 (some ⟨wr.heap.size, 0, none⟩) 1 1 (wr.heap.size + 1) [atb (be4 n) 2] hP ?_ ?_ ?_ ?_ hb2 ?_; (solve | (rfl)); (solve | (rfl)); (solve | (rfl)); (solve | (intro hh; cases hh)); (solve | (rfl)); (solve | (rfl)); (solve | (omega)); (intro v' w3 hown3 hgrow hat)))
        | fail)
      exact ⟨⟨3, 1, by omega, by go_num, by rw [HNX.out]; exact hown3, hb1.grown hgrow (by omega) fun g hg => (hown1.lt g hg).1⟩, by simp [intOf]⟩
    · obtain rfl : k = 1 := by omega
      have hval : bcells [atb (be4 n) 1] = [.int .u8 ((n : Int) / 65536 % 256)] := by simp [bcells, be4, atb]
      have hnx : xs ++ (be4 n).take 2 = (xs ++ (be4 n).take 1) ++ [atb (be4 n) 1] := by simp [be4, atb]
      have hP : Byts (wr.alloc (.cells #[.int .u8 ((n : Int) / 65536 % 256)] 5)) (wr.heap.size + 1) (some ⟨wr.heap.size, 0, none⟩) [atb (be4 n) 1] := byts_new (by rw [hval])
      have HNX := Lib.hid hnx
      have hown1 := hown.alloc (.cells #[.int .u8 ((n : Int) / 65536 % 256)] 5)
      have hb1 := hbw.alloc (by have := hbw.size; omega) (.cells #[.int .u8 ((n : Int) / 65536 % 256)] 5)
      have hb2 : base ≤ (wr.alloc (.cells #[.int .u8 ((n : Int) / 65536 % 256)] 5)).heap.size := by have := hb1.size; omega
      clear hnx hval
      go_wp2_with (first
        | (at_builtin; go_loud (refine wpList_append_bytes ?_ (.tmp 11) (.tmp 18) ?_ base _ (m + 1) (xs ++ (be4 n).take 1) ?_ hown1 (some ⟨wr.heap.size, 0, none⟩) 1 1 (wr.heap.size + 1) [atb (be4 n) 1] hP ?_ ?_ ?_ ?_ hb2 ?_; (solve | (rfl)); (solve | (rfl)); (solve | (rfl)); (solve | (intro hh; cases hh)); (solve | (rfl)); (solve | (rfl)); (solve | (omega)); (intro v' w3 hown3 hgrow hat)))
        | fail)
      exact ⟨⟨2, 2, by omega, by go_num, by rw [HNX.out]; exact hown3, hb1.grown hgrow (by omega) fun g hg => (hown1.lt g hg).1⟩, by simp [intOf]⟩
    · obtain rfl : k = 0 := by omega
      have hval : bcells [atb (be4 n) 0] = [.int .u8 ((n : Int) / 16777216)] := by simp [bcells, be4, atb]; omega
      have hnx : xs ++ (be4 n).take 1 = (xs ++ (be4 n).take 0) ++ [atb (be4 n) 0] := by simp [be4, atb]
      have hP : Byts (wr.alloc (.cells #[.int .u8 ((n : Int) / 16777216)] 5)) (wr.heap.size + 1) (some ⟨wr.heap.size, 0, none⟩) [atb (be4 n) 0] := byts_new (by rw [hval])
      have HNX := Lib.hid hnx
      have hown1 := hown.alloc (.cells #[.int .u8 ((n : Int) / 16777216)] 5)
      have hb1 := hbw.alloc (by have := hbw.size; omega) (.cells #[.int .u8 ((n : Int) / 16777216)] 5)
      have hb2 : base ≤ (wr.alloc (.cells #[.int .u8 ((n : Int) / 16777216)] 5)).heap.size := by have := hb1.size; omega
      clear hnx hval
      go_wp2_with (first
        | (at_builtin; go_loud (refine wpList_append_bytes ?_ (.tmp 11) (.tmp 18) ?_ base _ (m + 0) (xs ++ (be4 n).take 0) ?_ hown1 (some ⟨wr.heap.size, 0, none⟩) 1 1 (wr.heap.size + 1) [atb (be4 n) 0] hP ?_ ?_ ?_ ?_ hb2 ?_; (solve | (rfl)); (solve | (rfl)); (solve | (rfl)); (solve | (intro hh; cases hh)); (solve | (rfl)); (solve | (rfl)); (solve | (omega)); (intro v' w3 hown3 hgrow hat)))
        | fail)
      exact ⟨⟨1, 3, by omega, by go_num, by rw [HNX.out]; exact hown3, hb1.grown hgrow (by omega) fun g hg => (hown1.lt g hg).1⟩, by simp [intOf]⟩
set_option maxRecDepth 100000 in
set_option maxHeartbeats 4000000 in
theorem lencode {w : World} (A : Option Addr) (c B : Nat) (e : List Nat) (h : Byts w B A e) (hnil : A = none → c = 0) (hB : B ≤ w.heap.size) (hu : U8 e) (hl : e.length ≤ 2000) :
    Calls Try.prog 21 #[.slice A e.length c] w fun en w' => ∃ v', en = .returned v' ∧ w'.ownsRow w.heap.size 5 1 v' (e.length + 7) (bcells (enc e)) ∧ Below w.heap.size w w' := by
  have hmk : ∀ w : World, (Instr.makeSlice 24 (.int .i64 0) (.int .i64 (3 + (e.length : Int) + 4))).run Try.prog w = .ok (.slice (some ⟨w.heap.size, 0, none⟩) 0 (3 + e.length + 4)) (w.alloc (.cells (madeCells #[.int .u8 0] (3 + e.length + 4)) 5)) := fun w => by
    have := run_make_room (P := Try.prog) 24 5 (.int .u8 0) 1 Try.underlying24 info5 rfl .i64 .i64 (3 + e.length + 4) (by omega) (by omega) w
    simpa using this
  have ho0 : (w.alloc (.cells (madeCells #[.int .u8 0] (3 + e.length + 4)) 5)).ownsRow w.heap.size 5 1 (.slice (some ⟨w.heap.size, 0, none⟩) 0 (3 + e.length + 4)) 0 (bcells []) :=
    World.ownsRow_made (base := w.heap.size) (e := 5) (size := 1) w (madeCells #[.int .u8 0] (3 + e.length + 4)) (3 + e.length + 4) (Nat.le_refl _) (by unfold maxLen; omega) (by rw [size_madeCells]; omega)
  have hval : bcells [66, e.length / 256 % 256, e.length % 256] = [.int .u8 66, .int .u8 ((e.length : Int) / 256), .int .u8 ((e.length : Int) % 256)] := by simp [bcells]; omega
  have ho1 := ho0.alloc (.cells #[.int .u8 66, .int .u8 ((e.length : Int) / 256), .int .u8 ((e.length : Int) % 256)] 5)
  have hb1 := ((Below.refl w.heap.size w).alloc (Nat.le_refl _) (.cells (madeCells #[.int .u8 0] (3 + e.length + 4)) 5)).alloc (by simp) (.cells #[.int .u8 66, .int .u8 ((e.length : Int) / 256), .int .u8 ((e.length : Int) % 256)] 5)
  have hP1 : Byts ((w.alloc (.cells (madeCells #[.int .u8 0] (3 + e.length + 4)) 5)).alloc (.cells #[.int .u8 66, .int .u8 ((e.length : Int) / 256), .int .u8 ((e.length : Int) % 256)] 5)) (w.heap.size + 1 + 1) (some ⟨w.heap.size + 1, 0, none⟩) [66, e.length / 256 % 256, e.length % 256] := by
    have := byts_new (w := w.alloc (.cells (madeCells #[.int .u8 0] (3 + e.length + 4)) 5)) (cs := #[.int .u8 66, .int .u8 ((e.length : Int) / 256), .int .u8 ((e.length : Int) % 256)]) (t := 5) (xs := [66, e.length / 256 % 256, e.length % 256]) (by rw [hval])
    simpa using this
  have HENC : Hid (encH e = [66, e.length / 256 % 256, e.length % 256] ++ e) := Lib.hid (by simp [encH])
  have HU := Lib.hid hu
  replace h := h.more hB
  clear hu hB hval ho0
  go_enter Try.func21, Try.ntmps21
  go_wp2_with (first
    | (at_builtin; go_loud (refine wpList_append_bytes ?_ (.tmp 8) (.tmp 16) ?_ w.heap.size _ 0 [] ?_ ho1 (some ⟨w.heap.size + 1, 0, none⟩) 3 3 (w.heap.size + 1 + 1) [66, e.length / 256 % 256, e.length % 256] hP1 ?_ ?_ ?_ ?_ ?_ ?_; (solve | (rfl)); (solve | (rfl)); (solve | (rfl)); (solve | (intro hh; cases hh)); (solve | (rfl)); (solve | (rfl)); (solve | (omega)); (solve | (simp; omega)); (intro v2 w2 ho2 hg2 hat2; have hb2 := hb1.grown hg2 (by simp; omega) fun g hg => (ho1.lt g hg).1; have h2 := h.below hb2; clear ho1 hg2 hat2 hP1)))
    | (at_builtin; go_loud (refine wpList_append_bytes ?_ (.tmp 18) (.tmp 19) ?_ w.heap.size _ _ _ ?_ ho2 A e.length c w.heap.size e h2 hnil ?_ ?_ ?_ ?_ ?_; (solve | (rfl)); (solve | (rfl)); (solve | (rfl)); (solve | (rfl)); (solve | (rfl)); (solve | (omega)); (solve | (exact hb2.size)); (intro v3 w3 ho3 hg3 hat3; have hb3 := hb2.grown hg3 hb2.size fun g hg => (ho2.lt g hg).1; clear ho2 hg3 hat3)))
    | fail)
  rw [show ([] ++ [66, e.length / 256 % 256, e.length % 256] ++ e) = encH e from by rw [HENC.out]; rfl] at ho3
  obtain ⟨hl3, A3, c3, hv3, hby3⟩ := own_byts ho3
  have hu3 := u8_encH HU.out
  rw [← hl3] at hv3 ho3
  rw [hv3]
  have hle : (encH e).length = e.length + 3 := encH_length e
  refine (lcheck A3 c3 _ (encH e) _ hby3 hu3 (by omega)).mono ?_
  rintro en w' ⟨rfl, rfl⟩
  obtain ⟨hc0, hc1⟩ := crcF_bd (encH e)
  rw [← hv3]
  have HC : Hid (((crcF (encH e)).toNat : Int) = crcF (encH e)) := Lib.hid (by omega)
  have hcn : (crcF (encH e)).toNat < 4294967296 := by omega
  have HN := Lib.hid (fun w' => lnumber (w := w') w.heap.size v3 (encH e).length (crcF (encH e)).toNat (encH e))
  have HL := Lib.hid hle
  rw [HC.out] at HN
  have HE2 : Hid (enc e = encH e ++ be4 (crcF (encH e)).toNat) := Lib.hid rfl
  clear hv3 hby3 hl3 hle
  generalize crcF (encH e) = C at *
  go_wp2_with fail
  refine (HN.out _ ho3 hb3.size (by have := HL.out; omega) hcn).mono ?_
  rintro en w4 ⟨v4, rfl, ho4, hb4⟩
  go_wp2_with fail
  go_ret
  exact ⟨v4, rfl, by have e1 := HL.out; rw [e1] at ho4; rw [HE2.out]; exact ho4, hb3.trans hb4⟩
end Go.Proofs.Ytikfeoghmpoigaa
