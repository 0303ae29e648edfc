/- TopLog: first. -/
import Derived.Test.YtikfeoghmpoigaaEnc
import Derived.IntWalk
namespace Go.Proofs.Ytikfeoghmpoigaa
open Go.RowKit
theorem enc_0 (e : List Nat) : atb (enc e) 0 = 66 := rfl
theorem enc_1 (e : List Nat) : atb (enc e) 1 = e.length / 256 % 256 := rfl
theorem enc_2 (e : List Nat) : atb (enc e) 2 = e.length % 256 := rfl
theorem atb_take {xs : List Nat} {m j : Nat} (h : j < m) : atb (xs.take m) j = atb xs j := by simp [atb, List.getD_eq_getElem?_getD, h]
theorem atb_app {xs ys : List Nat} {j : Nat} (h : j < xs.length) : atb (xs ++ ys) j = atb xs j := by simp [atb, List.getD_eq_getElem?_getD, List.getElem?_append_left h]
/-- A piece of an encoding that was cut off. -/
def Torn (xs : List Nat) : Prop := ∃ (e : List Nat) (m : Nat), e.length ≤ 2000 ∧ m < e.length + 7 ∧ xs = (enc e).take m
theorem torn_nil : Torn [] := ⟨[], 0, by simp, by simp, by simp⟩
set_option maxRecDepth 100000 in
theorem joinI {a b : Nat} (ha : a < 8) (hb : b < 256) : bits BinOp.or IntKind.i64 ((a : Int) * 256) (b : Int) = ((a * 256 + b : Nat) : Int) := by
  rw [bits_join .i64 40 (by decide) (fun n h0 h1 => by simp [IntKind.wrap, IntKind.bits, IntKind.signed]; omega) 8 _ _ (by omega) (by omega) (by omega) (by omega) (by omega) (by omega)]
  push_cast
  rfl
set_option maxRecDepth 100000 in
set_option maxHeartbeats 4000000 in
theorem lfirst_torn {w : World} (A : Option Addr) (c B : Nat) (xs : List Nat) (h : Byts w B A xs) (ht : Torn xs) :
    Calls Try.prog 15 #[.slice A xs.length c] w fun e w' => e = .returned (.tuple #[.slice none 0 0, .int .i64 0]) ∧ Drew w w' := by
  obtain ⟨e, m, he, hm, hx⟩ := ht
  have hlx : xs.length = m := by rw [hx, List.length_take, enc_length]; omega
  by_cases h3 : m < 3
  · have hs : ((xs.length : Nat) : Int) < 3 := by omega
    clear hx
    go_enter Try.func15, Try.ntmps15
    go_wp2_with fail
    go_ret2
    exact ⟨rfl, Drew.refl _⟩
  · obtain ⟨b, off, rfl, hb, hc⟩ := h.at_ (k := 0) (by omega)
    have y0 := hc 0 (by omega)
    have y1 := hc 1 (by omega)
    have y2 := hc 2 (by omega)
    rw [hx, atb_take (by omega), enc_0] at y0
    rw [hx, atb_take (by omega), enc_1, Nat.mod_eq_of_lt (by omega)] at y1
    rw [hx, atb_take (by omega), enc_2] at y2
    simp only [Nat.add_zero] at y0
    obtain ⟨p, q, hp, hq, hpq⟩ : ∃ p q : Nat, p < 8 ∧ q < 256 ∧ p * 256 + q = e.length := ⟨e.length / 256, e.length % 256, by omega, by omega, by omega⟩
    have hpp : e.length / 256 = p := by omega
    have hqq : e.length % 256 = q := by omega
    rw [hpp] at y1
    rw [hqq] at y2
    have hj := joinI hp hq
    rw [hpq] at hj
    have b0 : (0 : Int) < (xs.length : Int) := by omega
    have b1 : (1 : Int) < (xs.length : Int) := by omega
    have b2 : (2 : Int) < (xs.length : Int) := by omega
    have hs : ¬ ((xs.length : Nat) : Int) < 3 := by omega
    have hl7 : (xs.length : Int) < 3 + (e.length : Int) + 4 := by omega
    have HX := Lib.hid hx
    have HJ := Lib.hid hj
    clear hx hc hlx h3 hm hpp hqq hpq hj
    go_enter Try.func15, Try.ntmps15
    go_wp2_with fail
    go_quiet (fail)
    rw [HJ.out]
    go_wp2_with fail
    go_ret2
    exact ⟨rfl, ⟨_, rfl⟩⟩
theorem own_mono {w : World} {b b' e s : Nat} {v : Value} {n : Nat} {xs : List Value} (h : w.ownsRow b e s v n xs) (hb : b' ≤ b) : w.ownsRow b' e s v n xs := by
  refine ⟨h.1, ?_⟩
  rcases h.2 with h1 | ⟨g, cap, cur, h1, h2, rest⟩
  · exact .inl h1
  · exact .inr ⟨g, cap, cur, h1, by omega, rest⟩
theorem ret_pair {v : Value} {a b : Int} (h : a = b) : Ending.returned (.tuple #[v, .int .i64 a]) = .returned (.tuple #[v, .int .i64 b]) := by rw [h]
theorem num4 {n : Nat} (h : n < 4294967296) : numTo (be4 n) 4 = n := by simp only [numTo, be4, atb, List.getD]; simp; omega
theorem Byts.part {w : World} {B b off : Nat} {xs ys : List Nat} {i n : Nat} (hb : b < B) (h : ∀ j, j < xs.length → w.cell? ⟨b, off + j, none⟩ = some (.int .u8 (atb xs j : Nat))) (hn : ys.length = n) (hx : ∀ j, j < n → i + j < xs.length ∧ atb xs (i + j) = atb ys j) : Byts w B (some ⟨b, off + i, none⟩) ys := by
  subst hn
  refine .inr ⟨b, off + i, rfl, hb, fun j hj => ?_⟩
  obtain ⟨h1, h2⟩ := hx j hj
  rw [Nat.add_assoc, h _ h1, h2]
set_option maxRecDepth 100000 in
set_option maxHeartbeats 4000000 in
theorem lfirst_yes {w : World} (A : Option Addr) (c B : Nat) (e ys : List Nat) (hB : B ≤ w.heap.size) (h : Byts w B A (enc e ++ ys)) (he : e.length ≤ 2000) (hu : U8 e) (N : Nat) (hN : N = (enc e ++ ys).length) (hcap : N ≤ c) :
    Calls Try.prog 15 #[.slice A N c] w fun en w' => ∃ v', en = .returned (.tuple #[v', .int .i64 ((e.length + 7 : Nat) : Int)]) ∧ w'.ownsRow w.heap.size 5 1 v' e.length (bcells e) ∧ Below w.heap.size w w' := by
  have hL : (enc e ++ ys).length = e.length + 7 + ys.length := by rw [List.length_append, enc_length]
  obtain ⟨b, off, rfl, hb, hc⟩ := h.at_ (k := 0) (by omega)
  have hle := enc_length e
  rw [← hN] at hL
  have hc' := hc
  rw [← hN] at hc'
  have y0 := hc 0 (by omega)
  have y1 := hc 1 (by omega)
  have y2 := hc 2 (by omega)
  rw [atb_app (by omega), enc_0] at y0
  rw [atb_app (by omega), enc_1, Nat.mod_eq_of_lt (by omega)] at y1
  rw [atb_app (by omega), enc_2] at y2
  simp only [Nat.add_zero] at y0
  obtain ⟨p, q, hp, hq, hpq⟩ : ∃ p q : Nat, p < 8 ∧ q < 256 ∧ p * 256 + q = e.length := ⟨e.length / 256, e.length % 256, by omega, by omega, by omega⟩
  have hpp : e.length / 256 = p := by omega
  have hqq : e.length % 256 = q := by omega
  rw [hpp] at y1
  rw [hqq] at y2
  have hj := joinI hp hq
  rw [hpq] at hj
  have b0 : (0 : Int) < (N : Int) := by omega
  have b1 : (1 : Int) < (N : Int) := by omega
  have b2 : (2 : Int) < (N : Int) := by omega
  have hs : ¬ (N : Int) < 3 := by omega
  have hl7 : ¬ (N : Int) < 3 + (e.length : Int) + 4 := by omega
  have hl8 : ¬ (2000 < (e.length : Int)) := by omega
  have hcap2 : 3 + (e.length : Int) + 4 ≤ (c : Int) := by omega
  have HJ := Lib.hid hj
  have hP1 : Byts w B (some ⟨b, off + 0, none⟩) (encH e) := Byts.part hb hc (encH_length e) fun j hj => ⟨by omega, by rw [Nat.zero_add, atb_app (by omega)]; unfold enc; rw [atb_app (by rw [encH_length]; omega)]⟩
  have hP2 : Byts w B (some ⟨b, off + (3 + e.length), none⟩) (be4 (crcF (encH e)).toNat) := Byts.part hb hc (n := 4) rfl fun j hj => ⟨by omega, by rw [atb_app (by omega)]; unfold enc; simp only [atb, List.getD_eq_getElem?_getD]; rw [List.getElem?_append_right (by rw [encH_length]; omega), encH_length]; congr 2; omega⟩
  have hP3 : Byts w B (some ⟨b, off + 3, none⟩) e := Byts.part hb hc (n := e.length) rfl fun j hj => ⟨by omega, by rw [atb_app (by omega)]; unfold enc; rw [atb_app (by rw [encH_length]; omega)]; simp only [atb, encH, List.getD_eq_getElem?_getD]; rw [show 3 + j = j + 1 + 1 + 1 by omega]; simp only [List.getElem?_cons_succ]⟩
  rw [Nat.add_zero] at hP1
  have hcr := crcF_bd (encH e)
  have hn4 : numTo (be4 (crcF (encH e)).toNat) 4 = (crcF (encH e)).toNat := num4 (by omega)
  have HN4 : Hid ((numTo (be4 (crcF (encH e)).toNat) 4 : Int) = crcF (encH e)) := Lib.hid (by rw [hn4]; omega)
  have k1 : ∀ (cp : Nat) (w' : World), Byts w' B (some ⟨b, off, none⟩) (encH e) → Calls Try.prog 25 #[.slice (some ⟨b, off, none⟩) (3 + e.length) cp] w' fun en w'' => en = .returned (.int .u32 (crcF (encH e))) ∧ w' = w'' := fun cp w' hw => by
    rw [show 3 + e.length = (encH e).length by rw [encH_length]; omega]
    exact (lcheck _ cp B _ w' hw (u8_encH hu) (by rw [encH_length]; omega)).mono fun _ _ hh => ⟨hh.1, hh.2.symm⟩
  have k2 : ∀ (cp : Nat) (w' : World), Byts w' B (some ⟨b, off + (3 + e.length), none⟩) (be4 (crcF (encH e)).toNat) → Calls Try.prog 24 #[.slice (some ⟨b, off + (3 + e.length), none⟩) 4 cp] w' fun en w'' => en = .returned (.int .u64 (numTo (be4 (crcF (encH e)).toNat) 4 : Nat)) ∧ w' = w'' := fun cp w' hw => (lread _ cp B _ w' hw (u8_be4 _) rfl).mono fun _ _ hh => ⟨hh.1, hh.2.symm⟩
  have K1 := Lib.hid k1
  have K2 := Lib.hid k2
  have HLE := Lib.hid hL
  clear k1 k2 hn4 hc hc' hN hle hpp hqq hpq hj h hL
  go_enter Try.func15, Try.ntmps15
  go_wp2_with fail
  go_quiet (fail)
  rw [HJ.out]
  go_wp2_with fail
  have z1 : IntKind.i64.wrap (3 + (e.length : Int) + 4) = 3 + (e.length : Int) + 4 := IntWalk.i64_in _ (by omega)
  have z2 : (3 + (e.length : Int)).toNat = 3 + e.length := by omega
  have z3 : (3 + (e.length : Int) + 4).toNat = 3 + e.length + 4 := by omega
  have z4 : (0 : Int) ≤ 3 + (e.length : Int) := by omega
  have z5 : (0 : Int) ≤ 3 + (e.length : Int) + 4 := by omega
  have z6 : 3 + (e.length : Int) ≤ (c : Int) := by omega
  have z7 : 3 + (e.length : Int) ≤ 3 + (e.length : Int) + 4 := by omega
  have hbd : Below w.heap.size w (w.drewN nq) := below_drewN (Below.refl _ _) _
  have hQ1 := hP1.below (hbd.mono hB)
  have hQ2 := hP2.below (hbd.mono hB)
  have hQ3 := (hP3.below (hbd.mono hB)).more (B' := (w.drewN nq).heap.size) (by have := hbd.size; omega)
  have HBD := Lib.hid hbd
  have HQ3 := Lib.hid hQ3
  clear hP1 hP2 hP3 y0 y1 y2 hbd hQ3 b0 b1 b2
  generalize w.drewN nq = w1 at *
  go_quiet (first
    | (go_at_call 24; exact quiet_same (K2.out _ _ (hQ2.keep fun p _ => rfl)))
    | (go_at_call 25; exact quiet_same (K1.out _ _ (hQ1.keep fun p _ => rfl))))
  rw [HN4.out]
  rw [show (crcF (encH e) != crcF (encH e)) = false by simp]
  have hbd2 : Below w.heap.size w (w1.drewN nq) := HBD.out.trans (below_drewN (Below.refl _ _) _)
  have hQ4 := (HQ3.out.below (below_drewN (Below.refl w1.heap.size w1) nq)).more (B' := (w1.drewN nq).heap.size) (by simp)
  have z8 : 3 + e.length - 3 = e.length := by omega
  have hcl := fun cp => lsClone (w := w1.drewN nq) (some ⟨b, off + 3, none⟩) cp _ e hQ4 (Nat.le_refl _) (by omega)
  have HCL := Lib.hid hcl
  have HB2 := Lib.hid hbd2
  clear hcl hQ4 hbd2 hQ1 hQ2 K1 K2 HN4 hcr z1 z2 z3 z4 z5 z7
  generalize w1.drewN nq = w2 at *
  go_wp2_with fail
  refine (HCL.out _).mono ?_
  rintro en w3 ⟨v3, rfl, hown, hb3⟩
  go_wp2_with fail
  go_ret2
  exact ⟨v3, ret_pair (a := 3 + (e.length : Int) + 4) (by omega), own_mono hown HB2.out.size, HB2.out.trans (hb3.mono HB2.out.size)⟩
end Go.Proofs.Ytikfeoghmpoigaa
