/-
  WALKS: escape.Quote.
-/
import Derived.Test.YtnoodiibkchaaaaGreatDoorWEscB
namespace Go.Proofs.YtnoodiibkchaaaaGreatDoor
open Go.RowKit

/-- the tables that the chapter reads -/
def Tabs (w : World) : Prop := TabS w ∧ Lib.Utf8Tabs 3 4 w
theorem Tabs.below {w w' : World} (h : Tabs w) (b : Below w.heap.size w w') : Tabs w' := ⟨h.1.below b, Utf8Tabs_below h.2 b⟩
theorem decodeAt_any (s : ByteArray) (pos : Nat) (w : World) (hp : pos < s.size) (hT : Tabs w) :
    Calls Tryz.prog 71 #[.string (s.extract pos s.size)] w fun e w' => e = .returned (.tuple #[.int .i32 (Utf8.decode s pos).1, .int .i64 (Utf8.decode s pos).2]) ∧ Below w.heap.size w w' := by
  refine (Tryz.utf8_DecodeRuneInString (s.extract pos s.size) w hT.2).mono ?_
  rintro e w' ⟨rfl, hb⟩
  refine ⟨?_, hb⟩
  have hd : Lib.decodeGo (s.extract pos s.size) = Utf8.decode s pos := by
    unfold Lib.decodeGo
    rw [if_neg (by rw [ByteArray.size_extract]; omega), Go.Extern.FmtText.decode_extract]
  rw [hd]
theorem bAt_get (s : ByteArray) (k : Nat) (h : k < s.size) : bAt s k = (s[k]'h).toNat := by
  have hsz : s.data.size = s.size := rfl
  have h1 : s.get! k = s[k]'h := by
    simp only [ByteArray.get!]
    rw [Array.getElem!_eq_getD, Array.getD_eq_getD_getElem?, Array.getElem?_eq_getElem (by omega)]
    rfl
  rw [bAt, h1]
theorem hexB_lt (k : Nat) (h : k < 16 := by omega) : hexB k < 256 := by unfold hexB; split <;> omega
theorem hex_get0 : ∀ j (h : j < ({ data := #[48, 49, 50, 51, 52, 53, 54, 55, 56, 57, 97, 98, 99, 100, 101, 102] } : ByteArray).size), (({ data := #[48, 49, 50, 51, 52, 53, 54, 55, 56, 57, 97, 98, 99, 100, 101, 102] } : ByteArray)[j]'h).toNat = hexB j := by decide
theorem hex_get (j : Nat) (h : j < ({ data := #[48, 49, 50, 51, 52, 53, 54, 55, 56, 57, 97, 98, 99, 100, 101, 102] } : ByteArray).size) : (({ data := #[48, 49, 50, 51, 52, 53, 54, 55, 56, 57, 97, 98, 99, 100, 101, 102] } : ByteArray)[j]'h).toNat = hexB j := hex_get0 j h
theorem piece_is (s : ByteArray) (pos c n : Nat) (hc : c = (Utf8.decode s pos).1) (hn : n = (Utf8.decode s pos).2) :
    piece s pos = if c = 34 then [92, 34] else if c = 92 then [92, 92] else if c = 10 then [92, 110] else if c < 32 ∨ c = 127 ∨ (c = 65533 ∧ n = 1) then [92, 120, hexB (bAt s pos / 16), hexB (bAt s pos % 16)] else cut s pos n := by
  subst hc; subst hn; rfl
theorem ways_is (s : ByteArray) (pos c n : Nat) (hc : c = (Utf8.decode s pos).1) (hn : n = (Utf8.decode s pos).2) (hp : pos < s.size) :
    (bAt s pos < 128 ∧ c = bAt s pos ∧ n = 1) ∨ (128 ≤ bAt s pos ∧ c = 65533 ∧ n = 1) ∨ (128 ≤ bAt s pos ∧ 128 ≤ c ∧ 2 ≤ n) := by
  rcases decode_ways s pos hp with ⟨h, e⟩ | ⟨h, e⟩ | ⟨h, h1, h2, _⟩
  · rw [e] at hc hn; exact .inl ⟨h, hc, hn⟩
  · rw [e] at hc hn; exact .inr (.inl ⟨h, hc, hn⟩)
  · exact .inr (.inr ⟨h, by omega, by omega⟩)
theorem letter_lit (z l : Int) (w : World) (hT : Tabs w) (hl : letter z = l) : Calls Tryz.prog 72 #[.int .i32 z] w fun e w' => e = .returned (.int .i32 l) ∧ Below w.heap.size w w' := by
  rw [← hl]; exact letterOf_any z w hT.1
theorem quoteFrom_end (s : ByteArray) (f pos : Nat) (h : ¬ pos < s.size) : quoteFrom s f pos = [] := by
  cases f with
  | zero => rfl
  | succ f => rw [quoteFrom, if_neg h]
theorem quoteFrom_step (s : ByteArray) (f pos : Nat) (h : pos < s.size) : quoteFrom s (f + 1) pos = piece s pos ++ quoteFrom s f (pos + (Utf8.decode s pos).2) := by rw [quoteFrom, if_pos h]
theorem piece_len (s : ByteArray) (pos : Nat) (h : pos < s.size) : (piece s pos).length ≤ 4 * (Utf8.decode s pos).2 := by
  have hw := width_pos s pos h
  simp only [piece]
  repeat' split
  all_goals simp [cut]
  all_goals omega
/-- what holds at each round's head -/
def QRel (s : ByteArray) (B I : Nat) (w wr : World) : Prop :=
  ∃ (pos fuel : Nat) (acc : List Nat), Bld wr B acc ∧ wr.heap[I]? = some (.stringIter s pos) ∧ Below w.heap.size w wr ∧ acc ++ quoteFrom s fuel pos = 34 :: quoteFrom s s.size 0 ∧ s.size ≤ pos + fuel ∧ pos ≤ s.size ∧ acc.length ≤ 1 + 4 * pos
theorem QRel.next {s : ByteArray} {B I : Nat} {w wn : World} {pos fuel : Nat} {acc p : List Nat} (hp : pos < s.size) (hb : Bld wn B (acc ++ p)) (hi : wn.heap[I]? = some (.stringIter s (pos + (Utf8.decode s pos).2))) (hbw : Below w.heap.size w wn)
    (he : acc ++ quoteFrom s fuel pos = 34 :: quoteFrom s s.size 0) (hf : s.size ≤ pos + fuel) (hl : acc.length ≤ 1 + 4 * pos) (hpc : piece s pos = p) : QRel s B I w wn := by
  have hw := width_pos s pos hp
  have hpl := piece_len s pos hp
  obtain ⟨f, rfl⟩ : ∃ f, fuel = f + 1 := ⟨fuel - 1, by omega⟩
  refine ⟨_, f, _, hb, hi, hbw, ?_, by omega, hw.2, ?_⟩
  · rw [← he, quoteFrom_step s f pos hp, hpc, List.append_assoc]
  · rw [List.length_append, ← hpc]; omega
set_option maxHeartbeats 4000000 in
set_option maxRecDepth 100000 in
theorem quote_any (s : ByteArray) (w : World) (hs : s.size ≤ 1099511627776) (hT : Tabs w) :
    Calls Tryz.prog 42 #[.string s] w fun e w' => e = .returned (.string (strOf (quoteL s))) ∧ Below w.heap.size w w' := by
  have HT := Lib.hid hT
  have HB := Lib.hid (Bld.fresh w)
  clear hT
  go_enter Tryz.func42, Tryz.ntmps42
  go_wp2_with (go_at_call 70; refine (wbyte_lit w.heap.size [] 34 34 _ HB.out (by decide) (by simp) rfl).mono ?_; rintro e w1 ⟨rfl, hb1, hk1⟩)
  have hlt1 : w.heap.size < w1.heap.size := hb1.lt
  have hb2 : Below w.heap.size w (w1.iter s 0) := (((Below.refl _ w).alloc (Nat.le_refl _) _).trans hk1.low).alloc (Nat.le_of_lt hlt1) _
  have hb3 : Bld (w1.iter s 0) w.heap.size [34] := hb1.alloc _
  have hi3 := World.iter_heap w1 s 0
  obtain ⟨I, hI⟩ : ∃ I, I = w1.heap.size := ⟨_, rfl⟩
  obtain ⟨B, hBq⟩ : ∃ B, B = w.heap.size := ⟨_, rfl⟩
  have HBQ := Lib.hid hBq
  rw [← hI] at hi3 hlt1
  rw [← hBq] at hb3 hlt1 hb1
  have hrel0 : QRel s B I w (w1.iter s 0) := ⟨0, s.size, [34], hb3, hi3, hb2, rfl, by omega, by omega, by simp⟩
  rw [← hI, ← hBq]
  clear hb1 hk1 hb2 hb3 hi3 hI hBq HB
  generalize w1.iter s 0 = wa at hrel0
  go_loopw [] (fun wr => QRel s B I w wr) (fun wr => s.size - wr.iterPos I)
  case atStart => exact hrel0
  case round =>
    clear hrel0
    obtain ⟨pos, fuel, acc, hI, hit, hbw, hacc, hfu, hps, hal⟩ := hrel
    have hsz : I < wr.heap.size := (Array.getElem?_eq_some_iff.1 hit).1
    by_cases hp : pos < s.size
    · have hnx : ∀ ty, (Instr.next (.pointer (some ⟨I, 0, none⟩)) true ty).run Tryz.prog wr = _ := fun ty => Lib.run_next_any_at wr I s pos ty hit hp
      have hI2 := hI.iterAt hit (pos + (Utf8.decode s pos).2)
      have hit2 := Lib.iterAt_heap wr I s pos (pos + (Utf8.decode s pos).2) hit
      have hIB : w.heap.size ≤ I := by rw [← HBQ.out]; omega
      have hbw2 := Lib.below_iterAt hbw hIB s (pos + (Utf8.decode s pos).2)
      have hwd := width_pos s pos hp
      have hbyte := bAt_lt s pos
      have hT2 : Tabs (wr.iterAt I s (pos + (Utf8.decode s pos).2)) := HT.out.below hbw2
      have HD := Lib.hid (fun w hT => decodeAt_any s pos w hp hT)
      generalize wr.iterAt I s (pos + (Utf8.decode s pos).2) = wi at hnx hI2 hit2 hbw2 hT2
      have HN := Lib.hid (fun (wn : World) (p : List Nat) (hb : Bld wn B (acc ++ p)) (hi : wn.heap[I]? = some (.stringIter s (pos + (Utf8.decode s pos).2))) (hbw : Below w.heap.size w wn) (hpc : piece s pos = p) => QRel.next hp hb hi hbw hacc hfu hal hpc)
      have HM : Hid (∀ wn : World, wn.heap[I]? = some (.stringIter s (pos + (Utf8.decode s pos).2)) → s.size - wn.iterPos I < s.size - wr.iterPos I) := Lib.hid (by
        intro wn hn
        simp only [World.iterPos, hn, hit]
        omega)
      obtain ⟨c, hc⟩ : ∃ c, c = (Utf8.decode s pos).1 := ⟨_, rfl⟩
      obtain ⟨n, hn⟩ : ∃ n, n = (Utf8.decode s pos).2 := ⟨_, rfl⟩
      rw [← hn] at hit2 hwd HD HN HM
      rw [← hc] at hnx HD
      have HP := Lib.hid (piece_is s pos c n hc hn)
      have hway := ways_is s pos c n hc hn hp
      have hIB2 : I ≠ B := by omega
      clear hc hn
      by_cases hA : c = 34 ∨ c = 92 ∨ c = 10
      · have HW := Lib.hid hwd
        clear hfu hacc hI hit hbw hway hps hbyte hwd
        have hn0 : 0 < n := by have := HW.out; omega
        rcases hA with rfl | rfl | rfl
        · go_wp2_with (go_at_call 71; refine (HD.out _ hT2).mono ?_; rintro e w2 ⟨rfl, hb2⟩)
          have hI3 := hI2.below hb2
          have hit3 := (Beside.ofBelow hb2 (Nat.le_of_lt hI2.lt)).iter I s _ hIB2 hit2
          have hbw3 := hbw2.trans (hb2.mono hbw2.size)
          have hT3 := hT2.below hb2
          clear hI2 hit2 hbw2 hT2 hb2 HD
          go_wp2_with (go_at_call 72; refine (letter_lit _ 34 _ hT3 (by decide)).mono ?_; rintro e w3 ⟨rfl, hb3⟩)
          have hI4 := hI3.below hb3
          have hit4 := (Beside.ofBelow hb3 (Nat.le_of_lt hI3.lt)).iter I s _ hIB2 hit3
          have hbw4 := hbw3.trans (hb3.mono hbw3.size)
          clear hI3 hit3 hbw3 hT3 hb3
          go_wp2_with (go_at_call 70; refine (wbyte_lit B acc 92 92 _ hI4 (by decide) (by omega) rfl).mono ?_; rintro e w4 ⟨rfl, hI5, hk5⟩)
          go_wp2_with (go_at_call 73; refine (wrune_any B (acc ++ [92]) 34 34 _ hI5 (by decide) rfl (by simp; omega)).mono ?_; rintro e w5 ⟨⟨v5, rfl⟩, hI6, hk6⟩)
          have hk := hk5.trans hk6
          have hit6 := hk.iter I s _ hIB2 hit4
          have hbw6 := hbw4.trans (hk.low.mono (by rw [← HBQ.out]; exact Nat.le_refl _))
          go_wp2
          go_roundw
          case rel => exact HN.out _ [92, 34] (by simpa using hI6) hit6 hbw6 (by rw [HP.out]; rfl)
          case measure => exact HM.out _ hit6
        · go_wp2_with (go_at_call 71; refine (HD.out _ hT2).mono ?_; rintro e w2 ⟨rfl, hb2⟩)
          have hI3 := hI2.below hb2
          have hit3 := (Beside.ofBelow hb2 (Nat.le_of_lt hI2.lt)).iter I s _ hIB2 hit2
          have hbw3 := hbw2.trans (hb2.mono hbw2.size)
          have hT3 := hT2.below hb2
          clear hI2 hit2 hbw2 hT2 hb2 HD
          go_wp2_with (go_at_call 72; refine (letter_lit _ 92 _ hT3 (by decide)).mono ?_; rintro e w3 ⟨rfl, hb3⟩)
          have hI4 := hI3.below hb3
          have hit4 := (Beside.ofBelow hb3 (Nat.le_of_lt hI3.lt)).iter I s _ hIB2 hit3
          have hbw4 := hbw3.trans (hb3.mono hbw3.size)
          clear hI3 hit3 hbw3 hT3 hb3
          go_wp2_with (go_at_call 70; refine (wbyte_lit B acc 92 92 _ hI4 (by decide) (by omega) rfl).mono ?_; rintro e w4 ⟨rfl, hI5, hk5⟩)
          go_wp2_with (go_at_call 73; refine (wrune_any B (acc ++ [92]) 92 92 _ hI5 (by decide) rfl (by simp; omega)).mono ?_; rintro e w5 ⟨⟨v5, rfl⟩, hI6, hk6⟩)
          have hk := hk5.trans hk6
          have hit6 := hk.iter I s _ hIB2 hit4
          have hbw6 := hbw4.trans (hk.low.mono (by rw [← HBQ.out]; exact Nat.le_refl _))
          go_wp2
          go_roundw
          case rel => exact HN.out _ [92, 92] (by simpa using hI6) hit6 hbw6 (by rw [HP.out]; rfl)
          case measure => exact HM.out _ hit6
        · go_wp2_with (go_at_call 71; refine (HD.out _ hT2).mono ?_; rintro e w2 ⟨rfl, hb2⟩)
          have hI3 := hI2.below hb2
          have hit3 := (Beside.ofBelow hb2 (Nat.le_of_lt hI2.lt)).iter I s _ hIB2 hit2
          have hbw3 := hbw2.trans (hb2.mono hbw2.size)
          have hT3 := hT2.below hb2
          clear hI2 hit2 hbw2 hT2 hb2 HD
          go_wp2_with (go_at_call 72; refine (letter_lit _ 110 _ hT3 (by decide)).mono ?_; rintro e w3 ⟨rfl, hb3⟩)
          have hI4 := hI3.below hb3
          have hit4 := (Beside.ofBelow hb3 (Nat.le_of_lt hI3.lt)).iter I s _ hIB2 hit3
          have hbw4 := hbw3.trans (hb3.mono hbw3.size)
          clear hI3 hit3 hbw3 hT3 hb3
          go_wp2_with (go_at_call 70; refine (wbyte_lit B acc 92 92 _ hI4 (by decide) (by omega) rfl).mono ?_; rintro e w4 ⟨rfl, hI5, hk5⟩)
          go_wp2_with (go_at_call 73; refine (wrune_any B (acc ++ [92]) 110 110 _ hI5 (by decide) rfl (by simp; omega)).mono ?_; rintro e w5 ⟨⟨v5, rfl⟩, hI6, hk6⟩)
          have hk := hk5.trans hk6
          have hit6 := hk.iter I s _ hIB2 hit4
          have hbw6 := hbw4.trans (hk.low.mono (by rw [← HBQ.out]; exact Nat.le_refl _))
          go_wp2
          go_roundw
          case rel => exact HN.out _ [92, 110] (by simpa using hI6) hit6 hbw6 (by rw [HP.out]; rfl)
          case measure => exact HM.out _ hit6
      · have hLet : letter (c : Int) = 0 := by unfold letter; rw [if_neg (by omega), if_neg (by omega), if_neg (by omega)]
        have HL := Lib.hid hLet
        have HA := Lib.hid hA
        have HE : Hid (pos + n ≤ s.size) := Lib.hid hwd.2
        clear hLet
        by_cases hB : c < 32 ∨ c = 127 ∨ (c = 65533 ∧ n = 1)
        · have hn1 : n = 1 := by omega
          subst hn1
          have HP2 : Hid (piece s pos = [92, 120, hexB (bAt s pos / 16), hexB (bAt s pos % 16)]) := Lib.hid (by
            rw [HP.out, if_neg (by omega), if_neg (by omega), if_neg (by omega), if_pos hB])
          clear hA hway
          have HG : Hid (bAt s pos = (s[pos]'hp).toNat) := Lib.hid (bAt_get s pos hp)
          have HX1 := Lib.hid (hexB_lt (bAt s pos / 16) (by omega))
          have HX2 := Lib.hid (hexB_lt (bAt s pos % 16) (by omega))
          have HX3 : Hid ((acc ++ [92, 120]).length + 1 ≤ 140737488355328) := Lib.hid (by simp; omega)
          have HX4 : Hid ((acc ++ [92, 120] ++ [hexB (bAt s pos / 16)]).length + 1 ≤ 140737488355328) := Lib.hid (by simp; omega)
          have g1 : 0 ≤ (((s[pos]'hp).toNat : Nat) : Int) / 16 := by omega
          have g2 : (((s[pos]'hp).toNat : Nat) : Int) / 16 < 16 := by have := (s[pos]'hp).toNat_lt; omega
          have g3 : 0 ≤ (((s[pos]'hp).toNat : Nat) : Int) % 16 := by omega
          have g4 : (((s[pos]'hp).toNat : Nat) : Int) % 16 < 16 := by omega
          rcases hB with hc32 | rfl | ⟨rfl, _⟩
          · go_wp2_with (go_at_call 71; refine (HD.out _ hT2).mono ?_; rintro e w2 ⟨rfl, hb2⟩)
            have hI3 := hI2.below hb2
            have hit3 := (Beside.ofBelow hb2 (Nat.le_of_lt hI2.lt)).iter I s _ hIB2 hit2
            have hbw3 := hbw2.trans (hb2.mono hbw2.size)
            have hT3 := hT2.below hb2
            clear hI2 hit2 hbw2 hT2 hb2 HD
            go_wp2_with (go_at_call 72; refine (letter_lit _ 0 _ hT3 HL.out).mono ?_; rintro e w3 ⟨rfl, hb3⟩)
            have hI4 := hI3.below hb3
            have hit4 := (Beside.ofBelow hb3 (Nat.le_of_lt hI3.lt)).iter I s _ hIB2 hit3
            have hbw4 := hbw3.trans (hb3.mono hbw3.size)
            clear hI3 hit3 hbw3 hT3 hb3
            go_wp2_with (go_at_call 28; refine (wstr_any B acc [92, 120] _ _ hI4 rfl (by simp; omega)).mono ?_; rintro e w5 ⟨⟨v5, rfl⟩, hI5, hk5⟩)
            go_wp2_with (go_at_call 70; refine (wbyte_lit B (acc ++ [92, 120]) (hexB (bAt s pos / 16)) _ _ hI5 HX1.out HX3.out (by rw [hex_get, HG.out]; all_goals (congr 2 <;> omega))).mono ?_; rintro e w6 ⟨rfl, hI6, hk6⟩)
            go_wp2_with (go_at_call 70; refine (wbyte_lit B (acc ++ [92, 120] ++ [hexB (bAt s pos / 16)]) (hexB (bAt s pos % 16)) _ _ hI6 HX2.out HX4.out (by rw [hex_get, HG.out]; all_goals (congr 2 <;> omega))).mono ?_; rintro e w7 ⟨rfl, hI7, hk7⟩)
            have hk := (hk5.trans hk6).trans hk7
            have hit7 := hk.iter I s _ hIB2 hit4
            have hbw7 := hbw4.trans (hk.low.mono (by rw [← HBQ.out]; exact Nat.le_refl _))
            go_wp2
            go_roundw
            case rel => exact HN.out _ _ (by simpa using hI7) hit7 hbw7 HP2.out
            case measure => exact HM.out _ hit7
          · go_wp2_with (go_at_call 71; refine (HD.out _ hT2).mono ?_; rintro e w2 ⟨rfl, hb2⟩)
            have hI3 := hI2.below hb2
            have hit3 := (Beside.ofBelow hb2 (Nat.le_of_lt hI2.lt)).iter I s _ hIB2 hit2
            have hbw3 := hbw2.trans (hb2.mono hbw2.size)
            have hT3 := hT2.below hb2
            clear hI2 hit2 hbw2 hT2 hb2 HD
            go_wp2_with (go_at_call 72; refine (letter_lit _ 0 _ hT3 HL.out).mono ?_; rintro e w3 ⟨rfl, hb3⟩)
            have hI4 := hI3.below hb3
            have hit4 := (Beside.ofBelow hb3 (Nat.le_of_lt hI3.lt)).iter I s _ hIB2 hit3
            have hbw4 := hbw3.trans (hb3.mono hbw3.size)
            clear hI3 hit3 hbw3 hT3 hb3
            go_wp2_with (go_at_call 28; refine (wstr_any B acc [92, 120] _ _ hI4 rfl (by simp; omega)).mono ?_; rintro e w5 ⟨⟨v5, rfl⟩, hI5, hk5⟩)
            go_wp2_with (go_at_call 70; refine (wbyte_lit B (acc ++ [92, 120]) (hexB (bAt s pos / 16)) _ _ hI5 HX1.out HX3.out (by rw [hex_get, HG.out]; all_goals (congr 2 <;> omega))).mono ?_; rintro e w6 ⟨rfl, hI6, hk6⟩)
            go_wp2_with (go_at_call 70; refine (wbyte_lit B (acc ++ [92, 120] ++ [hexB (bAt s pos / 16)]) (hexB (bAt s pos % 16)) _ _ hI6 HX2.out HX4.out (by rw [hex_get, HG.out]; all_goals (congr 2 <;> omega))).mono ?_; rintro e w7 ⟨rfl, hI7, hk7⟩)
            have hk := (hk5.trans hk6).trans hk7
            have hit7 := hk.iter I s _ hIB2 hit4
            have hbw7 := hbw4.trans (hk.low.mono (by rw [← HBQ.out]; exact Nat.le_refl _))
            go_wp2
            go_roundw
            case rel => exact HN.out _ _ (by simpa using hI7) hit7 hbw7 HP2.out
            case measure => exact HM.out _ hit7
          · go_wp2_with (go_at_call 71; refine (HD.out _ hT2).mono ?_; rintro e w2 ⟨rfl, hb2⟩)
            have hI3 := hI2.below hb2
            have hit3 := (Beside.ofBelow hb2 (Nat.le_of_lt hI2.lt)).iter I s _ hIB2 hit2
            have hbw3 := hbw2.trans (hb2.mono hbw2.size)
            have hT3 := hT2.below hb2
            clear hI2 hit2 hbw2 hT2 hb2 HD
            go_wp2_with (go_at_call 72; refine (letter_lit _ 0 _ hT3 HL.out).mono ?_; rintro e w3 ⟨rfl, hb3⟩)
            have hI4 := hI3.below hb3
            have hit4 := (Beside.ofBelow hb3 (Nat.le_of_lt hI3.lt)).iter I s _ hIB2 hit3
            have hbw4 := hbw3.trans (hb3.mono hbw3.size)
            clear hI3 hit3 hbw3 hT3 hb3
            go_wp2_with (go_at_call 28; refine (wstr_any B acc [92, 120] _ _ hI4 rfl (by simp; omega)).mono ?_; rintro e w5 ⟨⟨v5, rfl⟩, hI5, hk5⟩)
            go_wp2_with (go_at_call 70; refine (wbyte_lit B (acc ++ [92, 120]) (hexB (bAt s pos / 16)) _ _ hI5 HX1.out HX3.out (by rw [hex_get, HG.out]; all_goals (congr 2 <;> omega))).mono ?_; rintro e w6 ⟨rfl, hI6, hk6⟩)
            go_wp2_with (go_at_call 70; refine (wbyte_lit B (acc ++ [92, 120] ++ [hexB (bAt s pos / 16)]) (hexB (bAt s pos % 16)) _ _ hI6 HX2.out HX4.out (by rw [hex_get, HG.out]; all_goals (congr 2 <;> omega))).mono ?_; rintro e w7 ⟨rfl, hI7, hk7⟩)
            have hk := (hk5.trans hk6).trans hk7
            have hit7 := hk.iter I s _ hIB2 hit4
            have hbw7 := hbw4.trans (hk.low.mono (by rw [← HBQ.out]; exact Nat.le_refl _))
            go_wp2
            go_roundw
            case rel => exact HN.out _ _ (by simpa using hI7) hit7 hbw7 HP2.out
            case measure => exact HM.out _ hit7
        · have HP2 : Hid (piece s pos = cut s pos n) := Lib.hid (by
            rw [HP.out, if_neg (by omega), if_neg (by omega), if_neg (by omega), if_neg hB])
          have hc32 : 32 ≤ c := by omega
          have h127 : ((c : Int) == 127) = false := by rw [beq_eq_false_iff_ne]; omega
          have hcut : (cut s pos n).length = n := by simp [cut]
          have HCL := Lib.hid hcut
          have hne := hwd.2
          clear hcut hA hway
          by_cases h65 : c = 65533
          · have hn1 : ((n : Int) == 1) = false := by rw [beq_eq_false_iff_ne]; omega
            subst h65
            clear hB hc32 h127
            go_wp2_with (go_at_call 71; refine (HD.out _ hT2).mono ?_; rintro e w2 ⟨rfl, hb2⟩)
            have hI3 := hI2.below hb2
            have hit3 := (Beside.ofBelow hb2 (Nat.le_of_lt hI2.lt)).iter I s _ hIB2 hit2
            have hbw3 := hbw2.trans (hb2.mono hbw2.size)
            have hT3 := hT2.below hb2
            clear hI2 hit2 hbw2 hT2 hb2 HD
            go_wp2_with (go_at_call 72; refine (letter_lit _ 0 _ hT3 HL.out).mono ?_; rintro e w3 ⟨rfl, hb3⟩)
            have hI4 := hI3.below hb3
            have hit4 := (Beside.ofBelow hb3 (Nat.le_of_lt hI3.lt)).iter I s _ hIB2 hit3
            have hbw4 := hbw3.trans (hb3.mono hbw3.size)
            clear hI3 hit3 hbw3 hT3 hb3
            go_wp2_with (go_at_call 28; refine (wstr_any B acc (cut s pos n) _ _ hI4 (cut_data s pos n HE.out) (by rw [HCL.out]; omega)).mono ?_; rintro e w5 ⟨⟨v5, rfl⟩, hI6, hk⟩)
            have hit6 := hk.iter I s _ hIB2 hit4
            have hbw6 := hbw4.trans (hk.low.mono (by rw [← HBQ.out]; exact Nat.le_refl _))
            go_wp2
            go_roundw
            case rel => exact HN.out _ _ hI6 hit6 hbw6 HP2.out
            case measure => exact HM.out _ hit6
          · have hc65 : ((c : Int) == 65533) = false := by rw [beq_eq_false_iff_ne]; omega
            clear hB h65
            go_wp2_with (go_at_call 71; refine (HD.out _ hT2).mono ?_; rintro e w2 ⟨rfl, hb2⟩)
            have hI3 := hI2.below hb2
            have hit3 := (Beside.ofBelow hb2 (Nat.le_of_lt hI2.lt)).iter I s _ hIB2 hit2
            have hbw3 := hbw2.trans (hb2.mono hbw2.size)
            have hT3 := hT2.below hb2
            clear hI2 hit2 hbw2 hT2 hb2 HD
            go_wp2_with (go_at_call 72; refine (letter_lit _ 0 _ hT3 HL.out).mono ?_; rintro e w3 ⟨rfl, hb3⟩)
            have hI4 := hI3.below hb3
            have hit4 := (Beside.ofBelow hb3 (Nat.le_of_lt hI3.lt)).iter I s _ hIB2 hit3
            have hbw4 := hbw3.trans (hb3.mono hbw3.size)
            clear hI3 hit3 hbw3 hT3 hb3
            go_wp2_with (go_at_call 28; refine (wstr_any B acc (cut s pos n) _ _ hI4 (cut_data s pos n HE.out) (by rw [HCL.out]; omega)).mono ?_; rintro e w5 ⟨⟨v5, rfl⟩, hI6, hk⟩)
            have hit6 := hk.iter I s _ hIB2 hit4
            have hbw6 := hbw4.trans (hk.low.mono (by rw [← HBQ.out]; exact Nat.le_refl _))
            go_wp2
            go_roundw
            case rel => exact HN.out _ _ hI6 hit6 hbw6 HP2.out
            case measure => exact HM.out _ hit6
    · have hnx : ∀ ty, (Instr.next (.pointer (some ⟨I, 0, none⟩)) true ty).run Tryz.prog wr = _ := fun ty => Lib.run_next_end_at wr I s pos ty hit hp
      rw [quoteFrom_end s fuel pos hp, List.append_nil] at hacc
      have HQ := Lib.hid hacc
      have HBb := Lib.hid hbw
      have hBle : B ≤ wr.heap.size := by omega
      clear hacc hbw hfu
      go_wp2_with (go_at_call 70; refine (wbyte_lit B acc 34 34 _ hI (by decide) (by omega) rfl).mono ?_; rintro e w2 ⟨rfl, hb2, hk2⟩)
      go_wp2_with (go_at_call 31; refine (bstr_any B _ _ hb2).mono ?_; rintro e w3 ⟨rfl, _, hk3⟩)
      go_wp2
      go_ret
      refine ⟨?_, HBb.out.trans ?_⟩
      · rw [HQ.out]; rfl
      · rw [← HBQ.out]; exact (hk2.trans hk3).low
end Go.Proofs.YtnoodiibkchaaaaGreatDoor
