/- TopLog: revived. -/
import Derived.Test.YtikfeoghmpoigaaEnt
namespace Go.Proofs.Ytikfeoghmpoigaa
open Go.RowKit
theorem torn_of {bs : List Nat} {es : List (List Nat)} {e tail : List Nat} (m : Nat) (hbs : bs = flat es ++ tail) (ht : tail = [] ∨ tail = enc e) (he : e.length ≤ 2000) (h1 : (flat es).length ≤ m) (h2 : m ≤ bs.length) :
    ∃ es1 rest1, bs.take m = flat es1 ++ rest1 ∧ Torn rest1 ∧ (es1 = es ∨ (es1 = es ++ [e] ∧ tail ≠ [])) := by
  subst hbs
  rw [List.length_append] at h2
  have h3 : (flat es ++ tail).take m = flat es ++ tail.take (m - (flat es).length) := by
    rw [List.take_append, List.take_of_length_le h1]
  rcases ht with rfl | rfl
  · exact ⟨es, [], by rw [h3]; simp, torn_nil, .inl rfl⟩
  · rcases Nat.lt_or_ge (m - (flat es).length) (e.length + 7) with hlt | hge
    · exact ⟨es, (enc e).take (m - (flat es).length), h3, ⟨e, _, he, hlt, rfl⟩, .inl rfl⟩
    · refine ⟨es ++ [e], [], ?_, torn_nil, .inr ⟨rfl, fun hh => ?_⟩⟩
      · rw [h3, flat_app, List.append_nil, List.take_of_length_le (by rw [enc_length]; exact hge)]
      · have := enc_length e; rw [hh] at this; simp at this
/-- The cells of a Blow in memory that are read behind its Entry. -/
structure BoxX (w : World) (B0 : Nat) (at' again : Nat) (keep rest : Int) : Prop where
  c1 : w.cell? ⟨B0, 1, none⟩ = some (.int .u8 (at' : Nat))
  c2 : w.cell? ⟨B0, 2, none⟩ = some (.int .u8 (again : Nat))
  c5 : w.cell? ⟨B0, 5, none⟩ = some (.int .i64 keep)
  c6 : w.cell? ⟨B0, 6, none⟩ = some (.int .i64 rest)
  hi : B0 < w.heap.size
theorem BoxX.chg {w w' : World} {B0 at' again : Nat} {keep rest : Int} {T : Nat → Prop} (h : BoxX w B0 at' again keep rest) (hc : Chg T w w') (hT : ¬ T B0) : BoxX w' B0 at' again keep rest :=
  ⟨(hc.cell (p := ⟨B0, 1, none⟩) h.hi hT).trans h.c1, (hc.cell (p := ⟨B0, 2, none⟩) h.hi hT).trans h.c2, (hc.cell (p := ⟨B0, 5, none⟩) h.hi hT).trans h.c5, (hc.cell (p := ⟨B0, 6, none⟩) h.hi hT).trans h.c6, Nat.lt_of_lt_of_le h.hi hc.size⟩
def RevPost (base d : Nat) (S : Dk) (es : List (List Nat)) (e tail : List Nat) (N0 : Nat → Prop) (w : World) (en : Ending) (w' : World) : Prop :=
  Chg (fun k => k = d) w w' ∧ ∃ (es1 : List (List Nat)) (l : Nat) (ev v : Value) (life : Nat) (N : Nat → Prop), (es1 = es ∨ (es1 = es ++ [e] ∧ tail ≠ [])) ∧ en = .returned (.pointer (some ⟨l, 0, none⟩)) ∧ (∀ b, N0 b → N b) ∧ v.ownBlock = S.v.ownBlock ∧
    life ≤ S.life + 2 ∧ Mach w' base d l ⟨v, flat es1, (flat es1).length, 0, false, life⟩ false ev es1 N ∧ w.heap.size ≤ l ∧ (∀ g, ev.ownBlock = some g → w.heap.size ≤ g)
theorem OpenOk.intro {base d : Nat} {S S0 : Dk} {es es1 : List (List Nat)} {e tail : List Nat} {N0 : Nat → Prop} {w w1 w' w2 : World} {en : Ending} {l : Nat} {ev v' : Value} {N : Nat → Prop} (hc0 : Chg (fun k => k = d) w w1) (hc1 : Chg (fun k => k = d) w1 w') (hc2 : Chg (fun k => k = d) w' w2) (hes : es1 = es ∨ (es1 = es ++ [e] ∧ tail ≠ []))
    (hN : ∀ b, N0 b → N b) (hv : v'.ownBlock = S.v.ownBlock) (hS : S.v.ownBlock = S0.v.ownBlock) (hM : Mach w' base d l ⟨v', flat es1, (flat es1).length, 0, false, S.life⟩ false ev es1 N) (hd2 : DskAt w2 base d ⟨v', flat es1, (flat es1).length, 0, false, S.life⟩)
    (hl : w1.heap.size ≤ l) (hev : ∀ g, ev.ownBlock = some g → w1.heap.size ≤ g) (hlf : S.life ≤ S0.life + 2) (hen : en = .returned (.pointer (some ⟨l, 0, none⟩))) : RevPost base d S0 es e tail N0 w en w2 := by
  refine ⟨(hc0.trans hc1 fun _ _ h => h).trans hc2 fun _ _ h => h, es1, l, ev, v', S.life, _, hes, hen, fun b hb => .inl (hN b hb), by rw [hv, hS], hlf, hM.disk (hc2.mono fun b _ hb => .inl hb) hd2 rfl (.inl rfl), Nat.le_trans hc0.size hl, fun g hg => Nat.le_trans hc0.size (hev g hg)⟩
theorem lOpenOk {w : World} {base d : Nat} {S : Dk} {es : List (List Nat)} {rest : List Nat} {N0 : Nat → Prop} (h : DskAt w base d S) (hd : S.down = false) (hbs : S.bs = flat es ++ rest) (ht : Torn rest) (hu : U8s es) (hne : es.length ≤ 1000) (ha : S.armed = 0)
    (hN0 : ∀ b, N0 b → b < w.heap.size) (hNd : N0 d) (hNS : ∀ g, S.v.ownBlock = some g → N0 g) : Calls Try.prog 6 #[.pointer (some ⟨d, 0, none⟩)] w fun en w' => Chg (fun k => k = d) w w' ∧ OpenOk base d S es N0 w en w' :=
  (lOpen h hd hbs ht hu hne (by omega) hN0 hNd hNS).mono fun en w' ⟨h1, h2⟩ => ⟨h1, by rw [if_neg (by rw [ha]; decide)] at h2; exact h2⟩
theorem lOpenDown {w : World} {base d : Nat} {S : Dk} {es : List (List Nat)} {rest : List Nat} {N0 : Nat → Prop} (h : DskAt w base d S) (hd : S.down = false) (hbs : S.bs = flat es ++ rest) (ht : Torn rest) (hu : U8s es) (hne : es.length ≤ 1000) (ha : S.armed = 1)
    (hN0 : ∀ b, N0 b → b < w.heap.size) (hNd : N0 d) (hNS : ∀ g, S.v.ownBlock = some g → N0 g) : Calls Try.prog 6 #[.pointer (some ⟨d, 0, none⟩)] w fun en w' => Chg (fun k => k = d) w w' ∧ OpenDown base d S en w' :=
  (lOpen h hd hbs ht hu hne (by omega) hN0 hNd hNS).mono fun en w' ⟨h1, h2⟩ => ⟨h1, by rw [if_pos ha] at h2; exact h2⟩
set_option maxRecDepth 100000 in
set_option maxHeartbeats 4000000 in
theorem lRevived {w : World} {base d : Nat} {S : Dk} {es : List (List Nat)} {e tail : List Nat} {N0 : Nat → Prop} (h : DskAt w base d S) (hbs : S.bs = flat es ++ tail) (ht : tail = [] ∨ tail = enc e) (hsf : S.safe = (flat es).length) (hu : U8s (es ++ [e])) (hne : es.length ≤ 900) (hlf : S.life ≤ 800)
    (hN0 : ∀ b, N0 b → b < w.heap.size) (hNd : N0 d) (hNS : ∀ g, S.v.ownBlock = some g → N0 g) (X : Value) (at' again : Nat) (lost reopen : Bool) (keep rest : Int) (hag : again < 256) :
    Calls Try.prog 12 #[.pointer (some ⟨d, 0, none⟩), .agg #[X, .int .u8 at', .int .u8 again, .bool lost, .bool reopen, .int .i64 keep, .int .i64 rest]] w (RevPost base d S es e tail N0 w) := by
  have hb0 : Below w.heap.size w (w.alloc (.cells #[X, .int .u8 at', .int .u8 again, .bool lost, .bool reopen, .int .i64 keep, .int .i64 rest] 26)) := (Below.refl _ _).alloc (Nat.le_refl _) _
  have hd0 := h.chg (Chg.of_below (T := fun _ => False) hb0) (fun h => h) (fun _ _ h => h)
  have hx0 : BoxX (w.alloc (.cells #[X, .int .u8 at', .int .u8 again, .bool lost, .bool reopen, .int .i64 keep, .int .i64 rest] 26)) w.heap.size at' again keep rest := ⟨by simp [go_sem], by simp [go_sem], by simp [go_sem], by simp [go_sem], by simp⟩
  have hcr := lCrash hd0 keep (by omega)
  have HB0 := Lib.hid hb0
  have hdw := h.hi
  clear h hb0 hd0
  generalize hWW : w.heap.size = B0 at *
  go_enter Try.func12, Try.ntmps12
  have x5 := hx0.c5
  go_wp2_with fail
  refine hcr.mono ?_
  rintro en w1 ⟨rfl, hc1, v1, hv1, hd1⟩
  have hx1 := hx0.chg hc1 (by omega)
  clear hcr hx0 x5
  have hm := kept_le (S := S) (by rw [hsf, hbs, List.length_append]; omega) keep
  obtain ⟨es1, rest1, hb1, ht1, hes1⟩ := torn_of (e := e) (kept S keep) hbs ht (hu e (by simp)).2 (by rw [← hsf]; exact hm.1) hm.2
  have hu1 : U8s es1 := by
    rcases hes1 with h | h
    · rw [h]; exact fun x hx => hu x (by simp [hx])
    · rw [h.1]; exact hu
  have hl1 : es1.length ≤ 1000 := by
    rcases hes1 with h | h
    · rw [h]; omega
    · rw [h.1]; simp; omega
  have hS1 : (crashS S v1 keep).bs = flat es1 ++ rest1 := hb1
  have hS2 : (crashS S v1 keep).safe = (crashS S v1 keep).bs.length := by
    show kept S keep = (S.bs.take (kept S keep)).length
    rw [List.length_take]; omega
  have hS3 : (crashS S v1 keep).down = false ∧ (crashS S v1 keep).armed = 0 ∧ (crashS S v1 keep).v = v1 ∧ (crashS S v1 keep).life = S.life + 1 := ⟨rfl, rfl, rfl, rfl⟩
  have hcW : Chg (fun k => k = d) w w1 := (Chg.of_below (by rw [hWW]; exact HB0.out)).trans hc1 fun _ _ h => h
  have hN1 : ∀ b, N0 b → b < w1.heap.size := fun b hb => by have := hcW.size; have := hN0 b hb; omega
  generalize crashS S v1 keep = S1 at *
  obtain ⟨z1, z2, z3, z4⟩ := hS3
  have hNS1 : ∀ g, S1.v.ownBlock = some g → N0 g := fun g hg => hNS g (by rw [← hv1, ← z3]; exact hg)
  have HU := Lib.hid hu
  have HBS := Lib.hid hbs
  have HT := Lib.hid ht
  have HES1 := Lib.hid hes1
  have HU1 := Lib.hid hu1
  have HN1 := Lib.hid hN1
  have HNS1 := Lib.hid hNS1
  have HS1 := Lib.hid hS1
  have HS2 := Lib.hid hS2
  have HCW := Lib.hid hcW
  have HT1 := Lib.hid ht1
  have HV1 : Hid (S1.v.ownBlock = S.v.ownBlock) := Lib.hid (by rw [z3, hv1])
  have HZ1 := Lib.hid z1
  have HZ2 := Lib.hid z2
  have HZ4 := Lib.hid z4
  have HX1 := Lib.hid hx1
  have x2 := hx1.c2
  clear hu hbs ht hes1 hu1 hN1 hNS1 hS1 hS2 hcW ht1 z1 z2 z3 z4 hv1 hx1 hN0 hNS hb1 hm hsf hc1 v1
  have hB0d : B0 ≠ d := by omega
  rcases (by omega : again % 2 = 0 ∨ again % 2 = 1) with hpar | hpar
  · have hp : ((again : Int) % 2 == 1) = false := by simp; omega
    have HPAR := Lib.hid hpar
    clear hpar
    have hop := lOpenOk hd1 HZ1.out HS1.out HT1.out HU1.out hl1 HZ2.out HN1.out hNd HNS1.out
    go_wp2_with fail
    refine hop.mono ?_
    rintro en w2 ⟨hc2, l, ev, v2, N, rfl, hN, hv2, hM, hl, hev⟩
    have har := lArm hM.dk 0 (by omega)
    have HM := Lib.hid hM
    have HC2 := Lib.hid hc2
    have HN := Lib.hid hN
    have HV2 := Lib.hid hv2
    have HEV := Lib.hid hev
    clear hop hM hc2 hN hv2 hev
    go_wp2_with fail
    refine har.mono ?_
    rintro en w3 ⟨rfl, hd3, hc3⟩
    have HD3 := Lib.hid hd3
    have HC3 := Lib.hid hc3
    clear har hd3 hc3
    go_wp2_with fail
    go_ret
    exact OpenOk.intro HCW.out HC2.out HC3.out HES1.out HN.out HV2.out HV1.out HM.out HD3.out hl HEV.out (by have := HZ4.out; omega) rfl
  · have hp : ((again : Int) % 2 == 1) = true := by simp; omega
    have HPAR := Lib.hid hpar
    clear hpar
    have har := lArm hd1 1 (by omega)
    go_wp2_with fail
    refine har.mono ?_
    rintro en w2 ⟨rfl, hd2, hc2⟩
    have hop := lOpenDown hd2 HZ1.out HS1.out HT1.out HU1.out hl1 rfl (fun b hb => Nat.lt_of_lt_of_le (HN1.out b hb) hc2.size) hNd HNS1.out
    have HC2 := Lib.hid hc2
    clear har hd2 hc2
    go_wp2_with fail
    refine hop.mono ?_
    rintro en w3 ⟨hc3, rfl, hd3⟩
    have hx3 := (HX1.out.chg HC2.out hB0d).chg hc3 hB0d
    have y2 := hx3.c2
    have y6 := hx3.c6
    have hcr := lCrash hd3 rest (by have := HZ4.out; show S1.life ≤ 900; omega)
    have HC3 := Lib.hid hc3
    clear hop hx3 hc3 hd3 x2
    go_wp2_with fail
    refine hcr.mono ?_
    rintro en w4 ⟨rfl, hc4, v4, hv4, hd4⟩
    have hk4 : kept { S1 with armed := 0, down := true } rest = S1.bs.length := by
      unfold kept
      show S1.safe + (min (max rest 0) ((S1.bs.length : Int) - S1.safe)).toNat = _
      rw [HS2.out]; omega
    have e4 : crashS { S1 with armed := 0, down := true } v4 rest = ⟨v4, S1.bs, S1.bs.length, 0, false, S1.life + 1⟩ := by
      show (⟨v4, S1.bs.take (kept { S1 with armed := 0, down := true } rest), kept { S1 with armed := 0, down := true } rest, 0, false, S1.life + 1⟩ : Dk) = _
      rw [hk4, List.take_length]
    have hd4' : DskAt w4 base d ⟨v4, S1.bs, S1.bs.length, 0, false, S1.life + 1⟩ := by rw [← e4]; exact hd4
    have hc14 : Chg (fun k => k = d) w1 w4 := (HC2.out.trans HC3.out fun _ _ h => h).trans hc4 fun _ _ h => h
    have hv4' : v4.ownBlock = S1.v.ownBlock := hv4
    have hop := lOpenOk (N0 := N0) hd4' rfl HS1.out HT1.out HU1.out hl1 rfl (fun b hb => Nat.lt_of_lt_of_le (HN1.out b hb) hc14.size) hNd (fun g hg => HNS1.out g (by rw [← hv4']; exact hg))
    have HC14 := Lib.hid hc14
    have HV4 := Lib.hid hv4'
    clear hcr hd4 hd4' e4 hk4 hc14 hc4 hv4 hv4' HC2 HC3 y2 y6
    go_wp2_with fail
    refine hop.mono ?_
    rintro en w5 ⟨hc5, l, ev, v5, N, rfl, hN, hv5, hM, hl, hev⟩
    have har := lArm hM.dk 0 (by omega)
    have HM := Lib.hid hM
    have HC5 := Lib.hid hc5
    have HN := Lib.hid hN
    have HV5 := Lib.hid hv5
    have HEV := Lib.hid hev
    clear hop hM hc5 hN hv5 hev
    go_wp2_with fail
    refine har.mono ?_
    rintro en w6 ⟨rfl, hd6, hc6⟩
    have HD6 := Lib.hid hd6
    have HC6 := Lib.hid hc6
    clear har hd6 hc6
    go_wp2_with fail
    go_ret
    exact OpenOk.intro (S := ⟨v4, S1.bs, S1.bs.length, 0, false, S1.life + 1⟩) (HCW.out.trans HC14.out fun _ _ h => h) HC5.out HC6.out HES1.out HN.out HV5.out (HV4.out.trans HV1.out) HM.out HD6.out hl HEV.out (by have := HZ4.out; show S1.life + 1 ≤ S.life + 2; omega) rfl
end Go.Proofs.Ytikfeoghmpoigaa
