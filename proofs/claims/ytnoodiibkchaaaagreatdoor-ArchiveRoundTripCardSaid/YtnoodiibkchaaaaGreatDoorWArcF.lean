/-
  WALKS: the labels of a line: the program's and the reference's (printed by gen_arc2.py).
-/
import Derived.Test.YtnoodiibkchaaaaGreatDoorWArcE
namespace Go.Proofs.YtnoodiibkchaaaaGreatDoor
open Go.RowKit
attribute [local go_sem ↓] Go.wp_at_zero Go.wp_at_succ

theorem row_below {a b : World} {base n k : Nat} {e : TypeId} {v : Value} {xs : List Value} (h : a.ownsRow base e k v n xs) (hb : Below a.heap.size a b) : b.ownsRow base e k v n xs :=
  (Keeps.of_below hb).row h (fun g hg hs => by have := (h.lt g hg).2; omega)
theorem rd_new2 (w : World) (o : Obj) (k m : Nat) (cs : List Value) (te : TypeId) (c : Nat) (hl : cs.length = m * k) (hc : m ≤ c) : Rd k ((w.alloc o).alloc (.cells cs.toArray te)) (.slice (some ⟨w.heap.size + 1, 0, none⟩) m c) m cs := by
  have h := rd_new (w.alloc o) k m cs te c hl hc
  rwa [World.size_alloc] at h
theorem ext_one (t : ByteArray) (q c : Nat) (hc : c < 256) (hq : q ≤ t.size) : (t.extract q t.size).toList = [UInt8.ofNat c] ↔ q + 1 = t.size ∧ bAt t q = c := by
  rw [Lib.toList_data]
  by_cases h : q < t.size
  · rw [rest_cons t q h, List.cons.injEq]
    have hb := bAt_lt t q
    have e1 : (t.extract (q + 1) t.size).data.toList = [] ↔ q + 1 = t.size := by
      rw [← List.length_eq_zero_iff, list_len, rest_size]; omega
    rw [e1]
    constructor
    · rintro ⟨h1, h2⟩
      refine ⟨h2, ?_⟩
      have := congrArg UInt8.toNat h1
      rw [ofNat_toNat' _ hb, ofNat_toNat' _ hc] at this
      exact this
    · rintro ⟨h1, h2⟩
      exact ⟨by rw [h2], h1⟩
  · have e1 : (t.extract q t.size).data.toList = [] := List.eq_nil_of_length_eq_zero (by rw [list_len, rest_size]; omega)
    rw [e1]
    constructor
    · intro h; cases h
    · intro h; omega
theorem braces (t : ByteArray) : (t.toList == [123, 125]) = true ↔ t = strOf [123, 125] := by
  rw [beq_iff_eq, Lib.toList_data]
  constructor
  · intro h; exact strOf_of_data t [123, 125] h
  · rintro rfl; rfl
def HdRel (t : ByteArray) (B : Nat) (l i : Value) (wr : World) : Prop :=
  ∃ (a f : Nat) (acc : List Lab), i = .int .i64 (a : Nat) ∧ a ≤ t.size ∧ acc.length ≤ a ∧ t.size + 2 ≤ a + f ∧ wr.ownsRow B 46 2 l acc.length (labC acc) ∧ hdV t = (hdGo t f a).map fun r => acc ++ r
theorem hd_step {t : ByteArray} {a f : Nat} {acc : List Lab} (hf : t.size + 2 ≤ a + f) (ha : a ≤ t.size) (h : hdV t = (hdGo t f a).map fun r => acc ++ r) :
    ∃ g, f = g + 1 ∧ hdV t = ((lblV t a).bind fun p => if p.2 + 1 = t.size ∧ bAt t p.2 = 125 then some [p.1] else if p.2 < t.size ∧ bAt t p.2 = 44 then (hdGo t g (p.2 + 1)).map fun r => p.1 :: r else none).map fun r => acc ++ r := by
  obtain ⟨g, rfl⟩ : ∃ g, f = g + 1 := ⟨f - 1, by omega⟩
  exact ⟨g, rfl, h⟩
theorem HdRel.next {t : ByteArray} {B : Nat} {l : Value} {wn : World} {a g q : Nat} {acc : List Lab} {x : Lab} (hf : t.size + 2 ≤ a + (g + 1)) (hl : lblV t a = some (x, q)) (hq : q < t.size ∧ bAt t q = 44) (hacc : acc.length ≤ a)
    (hs : hdV t = ((lblV t a).bind fun p => if p.2 + 1 = t.size ∧ bAt t p.2 = 125 then some [p.1] else if p.2 < t.size ∧ bAt t p.2 = 44 then (hdGo t g (p.2 + 1)).map fun r => p.1 :: r else none).map fun r => acc ++ r)
    (hown : wn.ownsRow B 46 2 l (acc.length + 1) (labC acc ++ [.string x.1, .string x.2])) : HdRel t B l (.int .i64 ((q : Int) + 1)) wn := by
  obtain ⟨b1, b2, b3⟩ := lbl_spec hl
  refine ⟨q + 1, g, acc ++ [x], rfl, by omega, by simp; omega, by omega, ?_, ?_⟩
  · rw [labC_append, List.length_append]; exact hown
  · rw [hs, hl, Option.bind_some]
    simp only
    rw [if_neg (by rw [hq.2]; simp), if_pos hq, Option.map_map]
    congr 1
    funext r
    simp
theorem HdRel.last {t : ByteArray} {a g q : Nat} {acc : List Lab} {x : Lab} (hl : lblV t a = some (x, q)) (hq : q + 1 = t.size ∧ bAt t q = 125)
    (hs : hdV t = ((lblV t a).bind fun p => if p.2 + 1 = t.size ∧ bAt t p.2 = 125 then some [p.1] else if p.2 < t.size ∧ bAt t p.2 = 44 then (hdGo t g (p.2 + 1)).map fun r => p.1 :: r else none).map fun r => acc ++ r) : hdV t = some (acc ++ [x]) := by
  rw [hs, hl, Option.bind_some]
  simp only
  rw [if_pos hq]
  rfl
theorem HdRel.bad {t : ByteArray} {a g q : Nat} {acc : List Lab} {x : Lab} (hl : lblV t a = some (x, q)) (hq : ¬ (q + 1 = t.size ∧ bAt t q = 125)) (hq2 : ¬ (q < t.size ∧ bAt t q = 44))
    (hs : hdV t = ((lblV t a).bind fun p => if p.2 + 1 = t.size ∧ bAt t p.2 = 125 then some [p.1] else if p.2 < t.size ∧ bAt t p.2 = 44 then (hdGo t g (p.2 + 1)).map fun r => p.1 :: r else none).map fun r => acc ++ r) : hdV t = none := by
  rw [hs, hl, Option.bind_some]
  simp only
  rw [if_neg hq, if_neg hq2]
  rfl
theorem HdRel.none {t : ByteArray} {a g : Nat} {acc : List Lab} (hl : lblV t a = none)
    (hs : hdV t = ((lblV t a).bind fun p => if p.2 + 1 = t.size ∧ bAt t p.2 = 125 then some [p.1] else if p.2 < t.size ∧ bAt t p.2 = 44 then (hdGo t g (p.2 + 1)).map fun r => p.1 :: r else none).map fun r => acc ++ r) : hdV t = none := by
  rw [hs, hl]
  rfl
/-- what reading the labels of a line gives -/
def ParR (t : ByteArray) (B : Nat) (e : Ending) (w' : World) : Prop :=
  (∃ (l : List Lab) (v : Value), hdV t = some l ∧ e = .returned (.tuple #[v, .int .i64 0]) ∧ w'.ownsRow B 46 2 v l.length (labC l)) ∨
  (hdV t = none ∧ e = .returned (.tuple #[.slice none 0 0, .int .i64 24]))
set_option maxHeartbeats 4000000 in
set_option maxRecDepth 100000 in
theorem parse_any (t : ByteArray) (w : World) (hs : t.size ≤ 1099511627776) (hT : Tabs w) :
    Calls Tryz.prog 19 #[.string t] w fun e w' => ParR t w.heap.size e w' ∧ Below w.heap.size w w' := by
  have HT := Lib.hid hT
  clear hT
  by_cases hbr : t = strOf [123, 125]
  · have HV : Hid (hdV t = some []) := Lib.hid (by unfold hdV; rw [if_pos hbr])
    have he : (t.toList == [123, 125]) = true := (braces t).2 hbr
    clear hbr
    go_enter Tryz.func19, Tryz.ntmps19
    go_wp2
    go_step3
    go_wp2
    (try rw [Exit.noGoto_ret]); go_ret2
    exact ⟨.inl ⟨_, _, HV.out, rfl, World.ownsRow_nil _ _ _ _⟩, Below.refl _ _⟩
  have he : (t.toList == [123, 125]) = false := Bool.eq_false_iff.2 (fun h => hbr ((braces t).1 h))
  have HP0 := Lib.hid (fun w => hasp_any t 0 w 123 (by decide))
  by_cases h123 : 0 < t.size ∧ bAt t 0 = 123
  · have HP : Hid (∀ w, Calls Tryz.prog 44 #[.string t, .string { data := #[123] }] w fun e w' => e = .returned (.bool true) ∧ w = w') := Lib.hid (fun w => by
      have h := HP0.out w
      rw [decide_eq_true h123, show t.extract 0 t.size = t by simp] at h; exact h)
    have HV0 : Hid (hdV t = hdGo t (t.size + 1) 1) := Lib.hid (by unfold hdV; rw [if_neg hbr, if_pos h123])
    have h1le : 1 ≤ t.size := h123.1
    clear hbr h123 HP0
    go_enter Tryz.func19, Tryz.ntmps19
    go_wp2
    go_step3
    go_wp2
    go_step3
    go_wp2
    go_loopw [4, 5] (fun l i wr => Hid (HdRel t w.heap.size l i wr) ∧ Below w.heap.size w wr) (fun _ i _ => t.size - (intOf i).toNat)
    case atStart => exact ⟨Lib.hid ⟨1, t.size + 1, [], rfl, h1le, by simp, by omega, World.ownsRow_nil _ _ _ _, by rw [HV0.out]; simp⟩, Below.refl _ _⟩
    case round =>
      obtain ⟨HR, hbr⟩ := hrel
      obtain ⟨a, f, acc, rfl, ha, hacc, hf, hown, hv⟩ := HR.out
      obtain ⟨g, rfl, hst⟩ := hd_step hf ha hv
      obtain ⟨al, cl, rfl⟩ := row_slice hown
      have HST := Lib.hid hst; have HF := Lib.hid hf; have HOWN := Lib.hid hown; have HBR := Lib.hid hbr
      have hsz := hbr.size
      have HL := Lib.hid (label_any t a wr ha hs (HT.out.below hbr))
      clear hst hf hown hbr hv HR HV0
      cases h1 : lblV t a with
      | none =>
        have HN : Hid (hdV t = none) := Lib.hid (HdRel.none h1 HST.out)
        have HL2 : Hid (Calls Tryz.prog 45 #[.string t, .int .i64 (a : Nat)] wr fun e w' => (∃ (n v : ByteArray) (z : Int), e = .returned (.tuple #[.agg #[.string n, .string v], .int .i64 z, .bool false])) ∧ Below wr.heap.size wr w') := Lib.hid (HL.out.mono fun e w' ⟨h, hb⟩ => by
          rcases h with ⟨x, q, h, _⟩ | ⟨_, h⟩
          · rw [h1] at h; cases h
          · exact ⟨h, hb⟩)
        clear HL h1
        go_wp2_with (first | (go_at_call 44; (with_reducible refine (HP.out _).mono ?_); rintro e w9 ⟨rfl, rfl⟩) | (go_at_call 45; refine HL2.out.mono ?_; rintro e w1 ⟨⟨n, v, z, rfl⟩, hb1⟩))
        (try rw [Exit.noGoto_ret]); go_ret2
        exact ⟨.inr ⟨HN.out, rfl⟩, (HBR.out.trans (hb1.mono hsz)).alloc (by have := hb1.size; omega) _⟩
      | some p =>
        obtain ⟨⟨x1, x2⟩, q⟩ := p
        obtain ⟨b1, b2, b3⟩ := lbl_spec h1
        have HL2 : Hid (Calls Tryz.prog 45 #[.string t, .int .i64 (a : Nat)] wr fun e w' => e = .returned (.tuple #[.agg #[.string x1, .string x2], .int .i64 (q : Nat), .bool true]) ∧ Below wr.heap.size wr w') := Lib.hid (HL.out.mono fun e w' ⟨h, hb⟩ => by
          rcases h with ⟨x, q', h, he⟩ | ⟨h, _⟩
          · rw [h1] at h
            simp only [Option.some.injEq, Prod.mk.injEq] at h
            obtain ⟨rfl, rfl⟩ := h
            exact ⟨he, hb⟩
          · rw [h1] at h; cases h)
        have HL1 := Lib.hid h1
        have hq0 : (0 : Int) ≤ (q : Int) := by omega
        have hq1 : (q : Int) ≤ (t.size : Int) := by omega
        have hq5 : ((q : Int) == 0) = false := by rw [beq_eq_false_iff_ne]; omega
        have hbnd : acc.length + 1 ≤ 4398046511104 := by omega
        clear HL h1 b1 b3
        by_cases h125 : q + 1 = t.size ∧ bAt t q = 125
        · have he2 : ((t.extract q t.size).toList == [125]) = true := beq_iff_eq.2 ((ext_one t q 125 (by decide) b2).2 h125)
          have HN := Lib.hid (HdRel.last HL1.out h125 HST.out)
          clear h125
          go_wp2_with (first | (go_at_call 44; (with_reducible refine (HP.out _).mono ?_); rintro e w9 ⟨rfl, rfl⟩) | (go_at_call 45; refine HL2.out.mono ?_; rintro e w1 ⟨rfl, hb1⟩) | (at_builtin; refine appE elL rfl _ _ rfl w.heap.size _ _ acc.length 1 (labC acc) [.string x1, .string x2] rfl rfl (((row_below HOWN.out hb1).alloc _).alloc _) (rd_new2 _ _ 2 1 [.string x1, .string x2] 46 1 rfl (by omega)) (by simp [Value.oneCell']) hbnd (by have := hb1.size; simp; omega) ?_; intro v' w3 hown3 hg3 hn3; obtain ⟨al2, cl2, rfl⟩ := row_slice hown3))
          have HBF : Hid (Below w.heap.size w w3) := Lib.hid (by
            have g1 := HBR.out.trans (hb1.mono hsz)
            have g2 := (g1.alloc g1.size (.cells #[.string x1, .string x2] 46)).alloc (by simp; have := g1.size; omega) (.cells #[.string x1, .string x2] 46)
            exact g2.trans (below_grown (((row_below HOWN.out hb1).alloc _).alloc _) hg3 (by have := g1.size; simp; omega)))
          (try rw [Exit.noGoto_ret]); go_ret2
          refine ⟨.inl ⟨_, _, HN.out, rfl, ?_⟩, HBF.out⟩
          rw [labC_append, List.length_append]; exact hown3
        · have he2 : ((t.extract q t.size).toList == [125]) = false := Bool.eq_false_iff.2 (fun h => h125 ((ext_one t q 125 (by decide) b2).1 (beq_iff_eq.1 h)))
          have HQ0 := Lib.hid (fun w => hasp_any t q w 44 (by decide))
          by_cases h44 : q < t.size ∧ bAt t q = 44
          · have HQ : Hid (∀ w, Calls Tryz.prog 44 #[.string (t.extract q t.size), .string { data := #[44] }] w fun e w' => e = .returned (.bool true) ∧ w = w') := Lib.hid (fun w => by
              have h := HQ0.out w
              rw [decide_eq_true h44] at h; exact h)
            have HN : Hid (∀ l wn, wn.ownsRow w.heap.size 46 2 l (acc.length + 1) (labC acc ++ [.string x1, .string x2]) → HdRel t w.heap.size l (.int .i64 ((q : Int) + 1)) wn) := Lib.hid (fun l wn h => HdRel.next HF.out HL1.out h44 hacc HST.out h)
            have hqa : t.size - (q + 1) < t.size - a := by have := lbl_spec HL1.out; omega
            clear h125 h44 HQ0
            go_wp2_with (first | (go_at_call 44; (with_reducible refine (HP.out _).mono ?_); rintro e w9 ⟨rfl, rfl⟩) | (go_at_call 45; refine HL2.out.mono ?_; rintro e w1 ⟨rfl, hb1⟩) | (at_builtin; refine appE elL rfl _ _ rfl w.heap.size _ _ acc.length 1 (labC acc) [.string x1, .string x2] rfl rfl (((row_below HOWN.out hb1).alloc _).alloc _) (rd_new2 _ _ 2 1 [.string x1, .string x2] 46 1 rfl (by omega)) (by simp [Value.oneCell']) hbnd (by have := hb1.size; simp; omega) ?_; intro v' w3 hown3 hg3 hn3; obtain ⟨al2, cl2, rfl⟩ := row_slice hown3))
            go_wp2_with (go_at_call 44; (with_reducible refine (HQ.out _).mono ?_); rintro e w8 ⟨rfl, rfl⟩)
            have HBF : Hid (Below w.heap.size w w3) := Lib.hid (by
              have g1 := HBR.out.trans (hb1.mono hsz)
              have g2 := (g1.alloc g1.size (.cells #[.string x1, .string x2] 46)).alloc (by simp; have := g1.size; omega) (.cells #[.string x1, .string x2] 46)
              exact g2.trans (below_grown (((row_below HOWN.out hb1).alloc _).alloc _) hg3 (by have := g1.size; simp; omega)))
            exact ⟨⟨Lib.hid (HN.out _ _ hown3), HBF.out⟩, by simpa [intOf] using hqa⟩
          · have HQ : Hid (∀ w, Calls Tryz.prog 44 #[.string (t.extract q t.size), .string { data := #[44] }] w fun e w' => e = .returned (.bool false) ∧ w = w') := Lib.hid (fun w => by
              have h := HQ0.out w
              rw [decide_eq_false h44] at h; exact h)
            have HN := Lib.hid (HdRel.bad HL1.out h125 h44 HST.out)
            clear h125 h44 HQ0
            go_wp2_with (first | (go_at_call 44; (with_reducible refine (HP.out _).mono ?_); rintro e w9 ⟨rfl, rfl⟩) | (go_at_call 45; refine HL2.out.mono ?_; rintro e w1 ⟨rfl, hb1⟩) | (at_builtin; refine appE elL rfl _ _ rfl w.heap.size _ _ acc.length 1 (labC acc) [.string x1, .string x2] rfl rfl (((row_below HOWN.out hb1).alloc _).alloc _) (rd_new2 _ _ 2 1 [.string x1, .string x2] 46 1 rfl (by omega)) (by simp [Value.oneCell']) hbnd (by have := hb1.size; simp; omega) ?_; intro v' w3 hown3 hg3 hn3; obtain ⟨al2, cl2, rfl⟩ := row_slice hown3))
            go_wp2_with (go_at_call 44; (with_reducible refine (HQ.out _).mono ?_); rintro e w8 ⟨rfl, rfl⟩)
            have HBF : Hid (Below w.heap.size w w3) := Lib.hid (by
              have g1 := HBR.out.trans (hb1.mono hsz)
              have g2 := (g1.alloc g1.size (.cells #[.string x1, .string x2] 46)).alloc (by simp; have := g1.size; omega) (.cells #[.string x1, .string x2] 46)
              exact g2.trans (below_grown (((row_below HOWN.out hb1).alloc _).alloc _) hg3 (by have := g1.size; simp; omega)))
            (try rw [Exit.noGoto_ret]); go_ret2
            exact ⟨.inr ⟨HN.out, rfl⟩, HBF.out⟩
  · have HP : Hid (∀ w, Calls Tryz.prog 44 #[.string t, .string { data := #[123] }] w fun e w' => e = .returned (.bool false) ∧ w = w') := Lib.hid (fun w => by
      have h := HP0.out w
      rw [decide_eq_false h123, show t.extract 0 t.size = t by simp] at h; exact h)
    have HV0 : Hid (hdV t = none) := Lib.hid (by unfold hdV; rw [if_neg hbr, if_neg h123])
    clear hbr h123 HP0
    go_enter Tryz.func19, Tryz.ntmps19
    go_wp2
    go_step3
    go_wp2
    go_step3
    go_wp2
    go_loopw [4, 5] (fun l i wr => ∃ al cl, l = .slice al 0 cl ∧ wr = w) (fun _ _ _ => 0)
    case atStart => exact ⟨_, _, rfl, rfl⟩
    case round =>
      obtain ⟨al, cl, rfl, rfl⟩ := hrel
      go_wp2_with (go_at_call 44; (with_reducible refine (HP.out _).mono ?_); rintro e w9 ⟨rfl, rfl⟩)
      (try rw [Exit.noGoto_ret]); go_ret2
      exact ⟨.inr ⟨HV0.out, rfl⟩, Below.refl _ _⟩
set_option maxHeartbeats 4000000 in
set_option maxRecDepth 100000 in
theorem refParse_any (t : ByteArray) (w : World) (hs : t.size ≤ 1099511627776) (hT : Tabs w) :
    Calls Tryz.prog 22 #[.string t] w fun e w' => ParR t w.heap.size e w' ∧ Below w.heap.size w w' := by
  have HT := Lib.hid hT
  clear hT
  by_cases hbr : t = strOf [123, 125]
  · have HV : Hid (hdV t = some []) := Lib.hid (by unfold hdV; rw [if_pos hbr])
    have he : (t.toList == [123, 125]) = true := (braces t).2 hbr
    clear hbr
    go_enter Tryz.func22, Tryz.ntmps22
    go_wp2
    (try rw [Exit.noGoto_ret]); go_ret2
    exact ⟨.inl ⟨_, _, HV.out, rfl, World.ownsRow_nil _ _ _ _⟩, Below.refl _ _⟩
  have he : (t.toList == [123, 125]) = false := Bool.eq_false_iff.2 (fun h => hbr ((braces t).1 h))
  by_cases h123 : 0 < t.size ∧ bAt t 0 = 123
  · have hem : t.toList.isEmpty = false := by rw [empty_iff]; exact decide_eq_false (by omega)
    have h0 : 0 < t.size := h123.1
    have hx0 : (t[0]'h0).toNat = 123 := by rw [← bAt_get t 0 h0]; exact h123.2
    have h0lt : (0 : Int) < (t.size : Int) := by omega
    have HV0 : Hid (hdV t = hdGo t (t.size + 1) 1) := Lib.hid (by unfold hdV; rw [if_neg hbr, if_pos h123])
    have h1le : 1 ≤ t.size := h123.1
    clear hbr h123
    go_enter Tryz.func22, Tryz.ntmps22
    go_wp2
    go_loopw [4, 5] (fun l i wr => Hid (HdRel t w.heap.size l i wr) ∧ Below w.heap.size w wr) (fun _ i _ => t.size - (intOf i).toNat)
    case atStart => exact ⟨Lib.hid ⟨1, t.size + 1, [], rfl, h1le, by simp, by omega, World.ownsRow_nil _ _ _ _, by rw [HV0.out]; simp⟩, Below.refl _ _⟩
    case round =>
      obtain ⟨HR, hbr⟩ := hrel
      obtain ⟨a, f, acc, rfl, ha, hacc, hf, hown, hv⟩ := HR.out
      obtain ⟨g, rfl, hst⟩ := hd_step hf ha hv
      obtain ⟨al, cl, rfl⟩ := row_slice hown
      have HST := Lib.hid hst; have HF := Lib.hid hf; have HOWN := Lib.hid hown; have HBR := Lib.hid hbr
      have hsz := hbr.size
      have HL := Lib.hid (refLabel_any t a wr ha hs (HT.out.below hbr))
      clear hst hf hown hbr hv HR HV0
      cases h1 : lblV t a with
      | none =>
        have HN : Hid (hdV t = none) := Lib.hid (HdRel.none h1 HST.out)
        have HL2 : Hid (Calls Tryz.prog 47 #[.string t, .int .i64 (a : Nat)] wr fun e w' => (∃ n v : ByteArray, e = .returned (.tuple #[.agg #[.string n, .string v], .int .i64 0])) ∧ Below wr.heap.size wr w') := Lib.hid (HL.out.mono fun e w' ⟨h, hb⟩ => by
          rcases h with ⟨x, q, h, _⟩ | ⟨_, h⟩
          · rw [h1] at h; cases h
          · exact ⟨h, hb⟩)
        clear HL h1
        go_wp2_with (go_at_call 47; refine HL2.out.mono ?_; rintro e w1 ⟨⟨n, v, rfl⟩, hb1⟩)
        go_ret2
        exact ⟨.inr ⟨HN.out, rfl⟩, (HBR.out.trans (hb1.mono hsz)).alloc (by have := hb1.size; omega) _⟩
      | some p =>
        obtain ⟨⟨x1, x2⟩, q⟩ := p
        obtain ⟨b1, b2, b3⟩ := lbl_spec h1
        have HL2 : Hid (Calls Tryz.prog 47 #[.string t, .int .i64 (a : Nat)] wr fun e w' => e = .returned (.tuple #[.agg #[.string x1, .string x2], .int .i64 (q : Nat)]) ∧ Below wr.heap.size wr w') := Lib.hid (HL.out.mono fun e w' ⟨h, hb⟩ => by
          rcases h with ⟨x, q', h, he⟩ | ⟨h, _⟩
          · rw [h1] at h
            simp only [Option.some.injEq, Prod.mk.injEq] at h
            obtain ⟨rfl, rfl⟩ := h
            exact ⟨he, hb⟩
          · rw [h1] at h; cases h)
        have HL1 := Lib.hid h1
        have hq0 : (0 : Int) ≤ (q : Int) := by omega
        have hq1 : (q : Int) ≤ (t.size : Int) := by omega
        have hq5 : ((q : Int) == 0) = false := by rw [beq_eq_false_iff_ne]; omega
        have hbnd : acc.length + 1 ≤ 4398046511104 := by omega
        clear HL h1 b1 b3
        by_cases h125 : q + 1 = t.size ∧ bAt t q = 125
        · have he2 : ((t.extract q t.size).toList == [125]) = true := beq_iff_eq.2 ((ext_one t q 125 (by decide) b2).2 h125)
          have HN := Lib.hid (HdRel.last HL1.out h125 HST.out)
          have hq2 : (q : Int) < (t.size : Int) := by omega
          clear h125
          go_wp2_with (first | (go_at_call 47; refine HL2.out.mono ?_; rintro e w1 ⟨rfl, hb1⟩) | (at_builtin; refine appE elL rfl _ _ rfl w.heap.size _ _ acc.length 1 (labC acc) [.string x1, .string x2] rfl rfl (((row_below HOWN.out hb1).alloc _).alloc _) (rd_new2 _ _ 2 1 [.string x1, .string x2] 46 1 rfl (by omega)) (by simp [Value.oneCell']) hbnd (by have := hb1.size; simp; omega) ?_; intro v' w3 hown3 hg3 hn3; obtain ⟨al2, cl2, rfl⟩ := row_slice hown3))
          have HBF : Hid (Below w.heap.size w w3) := Lib.hid (by
            have g1 := HBR.out.trans (hb1.mono hsz)
            have g2 := (g1.alloc g1.size (.cells #[.string x1, .string x2] 46)).alloc (by simp; have := g1.size; omega) (.cells #[.string x1, .string x2] 46)
            exact g2.trans (below_grown (((row_below HOWN.out hb1).alloc _).alloc _) hg3 (by have := g1.size; simp; omega)))
          (try rw [Exit.noGoto_ret]); go_ret2
          refine ⟨.inl ⟨_, _, HN.out, rfl, ?_⟩, HBF.out⟩
          rw [labC_append, List.length_append]; exact hown3
        · have he2 : ((t.extract q t.size).toList == [125]) = false := Bool.eq_false_iff.2 (fun h => h125 ((ext_one t q 125 (by decide) b2).1 (beq_iff_eq.1 h)))
          by_cases hlt : q < t.size
          · have hq2 : (q : Int) < (t.size : Int) := by omega
            have hxq : (t[q]'hlt).toNat = bAt t q := (bAt_get t q hlt).symm
            by_cases h44' : bAt t q = 44
            · have h44 : q < t.size ∧ bAt t q = 44 := ⟨hlt, h44'⟩
              rw [h44'] at hxq
              have HN : Hid (∀ l wn, wn.ownsRow w.heap.size 46 2 l (acc.length + 1) (labC acc ++ [.string x1, .string x2]) → HdRel t w.heap.size l (.int .i64 ((q : Int) + 1)) wn) := Lib.hid (fun l wn h => HdRel.next HF.out HL1.out h44 hacc HST.out h)
              have hqa : t.size - (q + 1) < t.size - a := by have := lbl_spec HL1.out; omega
              clear h125 h44 h44' hx0
              go_wp2_with (first | (go_at_call 47; refine HL2.out.mono ?_; rintro e w1 ⟨rfl, hb1⟩) | (at_builtin; refine appE elL rfl _ _ rfl w.heap.size _ _ acc.length 1 (labC acc) [.string x1, .string x2] rfl rfl (((row_below HOWN.out hb1).alloc _).alloc _) (rd_new2 _ _ 2 1 [.string x1, .string x2] 46 1 rfl (by omega)) (by simp [Value.oneCell']) hbnd (by have := hb1.size; simp; omega) ?_; intro v' w3 hown3 hg3 hn3; obtain ⟨al2, cl2, rfl⟩ := row_slice hown3))
              have HBF : Hid (Below w.heap.size w w3) := Lib.hid (by
                have g1 := HBR.out.trans (hb1.mono hsz)
                have g2 := (g1.alloc g1.size (.cells #[.string x1, .string x2] 46)).alloc (by simp; have := g1.size; omega) (.cells #[.string x1, .string x2] 46)
                exact g2.trans (below_grown (((row_below HOWN.out hb1).alloc _).alloc _) hg3 (by have := g1.size; simp; omega)))
              exact ⟨⟨Lib.hid (HN.out _ _ hown3), HBF.out⟩, by simpa [intOf] using hqa⟩
            · have HN := Lib.hid (HdRel.bad HL1.out h125 (fun h => h44' h.2) HST.out)
              obtain ⟨b, hb⟩ : ∃ b, b = bAt t q := ⟨_, rfl⟩
              rw [← hb] at hxq h44'
              have hnm : ((b : Int) != 44) = true := by simp; omega
              clear h125 h44' hb hx0
              go_wp2_with (first | (go_at_call 47; refine HL2.out.mono ?_; rintro e w1 ⟨rfl, hb1⟩) | (at_builtin; refine appE elL rfl _ _ rfl w.heap.size _ _ acc.length 1 (labC acc) [.string x1, .string x2] rfl rfl (((row_below HOWN.out hb1).alloc _).alloc _) (rd_new2 _ _ 2 1 [.string x1, .string x2] 46 1 rfl (by omega)) (by simp [Value.oneCell']) hbnd (by have := hb1.size; simp; omega) ?_; intro v' w3 hown3 hg3 hn3; obtain ⟨al2, cl2, rfl⟩ := row_slice hown3))
              have HBF : Hid (Below w.heap.size w w3) := Lib.hid (by
                have g1 := HBR.out.trans (hb1.mono hsz)
                have g2 := (g1.alloc g1.size (.cells #[.string x1, .string x2] 46)).alloc (by simp; have := g1.size; omega) (.cells #[.string x1, .string x2] 46)
                exact g2.trans (below_grown (((row_below HOWN.out hb1).alloc _).alloc _) hg3 (by have := g1.size; simp; omega)))
              go_ret2
              exact ⟨.inr ⟨HN.out, rfl⟩, HBF.out⟩
          · have HN := Lib.hid (HdRel.bad HL1.out h125 (fun h => hlt h.1) HST.out)
            have hq2 : (t.size : Int) ≤ (q : Int) := by omega
            clear h125 hlt
            go_wp2_with (go_at_call 47; refine HL2.out.mono ?_; rintro e w1 ⟨rfl, hb1⟩)
            (try rw [Exit.noGoto_ret]); go_ret2
            exact ⟨.inr ⟨HN.out, rfl⟩, (HBR.out.trans (hb1.mono hsz)).alloc (by have := hb1.size; omega) _⟩
  · have HV0 : Hid (hdV t = none) := Lib.hid (by unfold hdV; rw [if_neg hbr, if_neg h123])
    by_cases h0 : 0 < t.size
    · have hem : t.toList.isEmpty = false := by rw [empty_iff]; exact decide_eq_false (by omega)
      have h0lt : (0 : Int) < (t.size : Int) := by omega
      have hx0 : (t[0]'h0).toNat = bAt t 0 := (bAt_get t 0 h0).symm
      have hnn : bAt t 0 ≠ 123 := fun h => h123 ⟨h0, h⟩
      obtain ⟨b, hb⟩ : ∃ b, b = bAt t 0 := ⟨_, rfl⟩
      rw [← hb] at hx0 hnn
      have hnm : ((b : Int) != 123) = true := by simp; omega
      clear hb hnn hbr h123
      go_enter Tryz.func22, Tryz.ntmps22
      go_wp2
      go_ret2
      exact ⟨.inr ⟨HV0.out, rfl⟩, Below.refl _ _⟩
    · have hem : t.toList.isEmpty = true := by rw [empty_iff]; exact decide_eq_true (by omega)
      clear h0 hbr h123
      go_enter Tryz.func22, Tryz.ntmps22
      go_wp2
      go_ret2
      exact ⟨.inr ⟨HV0.out, rfl⟩, Below.refl _ _⟩
end Go.Proofs.YtnoodiibkchaaaaGreatDoor
