/-
  Lemmas on which LTopChunks rests, packed out of the texts WCrcA Shelf PRange3 PRange4 XDoor; each for all arguments under the hypotheses it names.
-/
import Derived.Test.YtfpcgcbehdogjaaGreatDoorT03
import Derived.Laws.BitsLemmas
import Derived.Shelf.Small.Bits
import Derived.Shelf.Strconv.Itoa0
import Derived.Shelf.Sort.Plain
import Derived.Shelf.Slices.Equal
import Derived.Shelf.Slices.CompactS
import Derived.Shelf.Slices.Cells
import Derived.Shelf.Slices.In.SortNone
import Derived.Shelf.Slices.Empties2
import Derived.Shelf.Bytes.SlSearch0
import Derived.Shelf.Bytes.SlEqualAll
import Derived.Shelf.Bytes.Small
import Derived.Test.YtfpcgcbehdogjaaGreatDoorProg
import Derived.Lib.LaidTab
namespace Go.Proofs.YtfpcgcbehdogjaaGreatDoor
section
set_option maxHeartbeats 1000000
set_option maxRecDepth 100000
open Go.RowKit
def crcTab (i : Nat) : Nat := [0x00000000, 0x1db71064, 0x3b6e20c8, 0x26d930ac, 0x76dc4190, 0x6b6b51f4, 0x4db26158, 0x5005713c, 0xedb88320, 0xf00f9344, 0xd6d6a3e8, 0xcb61b38c, 0x9b64c2b0, 0x86d3d2d4, 0xa00ae278, 0xbdbdf21c].getD i 0
def crcHalf (s : Nat) : Nat := crcTab (s % 16) ^^^ (s / 16)
def crcStep (s c : Nat) : Nat := crcHalf (crcHalf (s ^^^ c))
def qde (s : Nat) (l : List Nat) : Nat := l.foldl crcStep s
def crcO (l : List Nat) : Nat := qde 4294967295 l ^^^ 4294967295
theorem crcTab_lt (i : Nat) : crcTab i < 4294967296 := by
 by_cases h : i < 16
 · have : ∀ k : Fin 16, crcTab k.val < 4294967296 := by decide
   exact this ⟨i, h⟩
 · unfold crcTab; simp [List.getD, show 16 ≤ i by omega]
theorem xor32 {a b : Nat} (ha : a < 4294967296) (hb : b < 4294967296) : a ^^^ b < 4294967296 := Nat.xor_lt_two_pow (n := 32) ha hb
theorem crcHalf_lt {s : Nat} (h : s < 4294967296) : crcHalf s < 4294967296 := xor32 (crcTab_lt _) (by omega)
theorem crcStep_lt {s c : Nat} (h : s < 4294967296) (hc : c < 256) : crcStep s c < 4294967296 := crcHalf_lt (crcHalf_lt (xor32 h (by omega)))
theorem crcFold_lt (l : List Nat) (hb : ∀ c ∈ l, c < 256) : ∀ s, s < 4294967296 → qde s l < 4294967296 := by
 induction l with
 | nil => intro s h; exact h
 | cons c r ih => intro s h; exact ih (fun x hx => hb x (by simp [hx])) _ (crcStep_lt h (hb c (by simp)))
theorem crcO_lt (l : List Nat) (hb : ∀ c ∈ l, c < 256) : crcO l < 4294967296 := xor32 (crcFold_lt l hb _ (by decide)) (by decide)
theorem qdk (a b : Nat) (ha : a < 4294967296) (hb : b < 4294967296) : bits .xor .u32 (a : Int) (b : Int) = ((a ^^^ b : Nat) : Int) := by
 have hx : a ^^^ b < 2 ^ 32 := Nat.xor_lt_two_pow (by omega) (by omega)
 have h1 : (BitVec.ofInt 32 (a : Int)).toNat = a := by
  rw [BitVec.ofInt_natCast, BitVec.toNat_ofNat]; exact Nat.mod_eq_of_lt (by omega)
 have h2 : (BitVec.ofInt 32 (b : Int)).toNat = b := by
  rw [BitVec.ofInt_natCast, BitVec.toNat_ofNat]; exact Nat.mod_eq_of_lt (by omega)
 show IntKind.u32.wrap ((BitVec.ofInt 32 (a : Int) ^^^ BitVec.ofInt 32 (b : Int)).toNat : Int) = _
 rw [BitVec.toNat_xor, h1, h2]
 simp [IntKind.wrap, IntKind.bits, IntKind.signed]
 omega
theorem bits_and_15 (a : Nat) (ha : a < 4294967296) : bits .and .u32 (a : Int) 15 = ((a % 16 : Nat) : Int) := by
 have h1 : (BitVec.ofInt 32 (a : Int)).toNat = a := by
  rw [BitVec.ofInt_natCast, BitVec.toNat_ofNat]; exact Nat.mod_eq_of_lt (by omega)
 show IntKind.u32.wrap ((BitVec.ofInt 32 (a : Int) &&& BitVec.ofInt 32 15).toNat : Int) = _
 rw [BitVec.toNat_and, h1, show (BitVec.ofInt 32 15).toNat = 2 ^ 4 - 1 by decide, Nat.and_two_pow_sub_one_eq_mod]
 simp [IntKind.wrap, IntKind.bits, IntKind.signed]
 omega
def TabC (w : World) : Prop := ∀ j, j < 16 → w.cell? ⟨1, j, none⟩ = some (.int .u32 ((crcTab j : Nat) : Int))
theorem TabC.keeps {S : Nat → Prop} {a b : World} (h : TabC a) (k : Keeps S a b) (hS : ¬ S 1) : TabC b := fun j hj => k.cell (h j hj) hS
theorem TabC.pos {a : World} (h : TabC a) : 1 < a.heap.size := World.block_lt_of_cell? a _ (h 0 (by decide))
theorem u8_cell {w : World} {ad : Option Addr} {n cap : Nat} {bs : List Nat} (h : Holds w (.slice ad n cap) (u8s bs)) {j c : Nat} (hx : bs[j]? = some c) : ∃ b off, ad = some ⟨b, off, none⟩ ∧ w.cell? ⟨b, off + j, none⟩ = some (.int .u8 (c : Int)) := by
 obtain ⟨a', c', hv, hc, h | ⟨b, off, rfl, hcell⟩⟩ := h
 · have : bs = [] := by simpa [u8s] using h
   subst this; simp at hx
 · simp only [Value.slice.injEq] at hv
   exact ⟨b, off, hv.1, hcell j _ (by simp [u8s, hx])⟩
theorem crcFold_snoc (s : Nat) (l : List Nat) (j c : Nat) (h : l[j]? = some c) : qde s (l.take (j + 1)) = crcStep (qde s (l.take j)) c := by
 unfold qde; rw [List.take_add_one, h, List.foldl_append]; rfl
theorem crcu_any (s : Nat) (v : Value) (l : List Nat) (w : World) (hs : s < 4294967296) (h : Holds w v (u8s l)) (hb : ∀ c ∈ l, c < 256) (hl : l.length ≤ 140737488351232) (hT : TabC w) :
 Calls Tryz.prog 179 #[.int .u32 (s : Int), v] w fun e w' => e = .returned (.int .u32 ((qde s l : Nat) : Int)) ∧ w' = w := by
 obtain ⟨ad, cp, hv, _, _⟩ := id h
 rw [qac] at hv
 subst hv
 have HH := Hj h; have HB := Hj hb; have HT := Hj hT; have HS := Hj hs
 clear h hb hT hs
 go_enter Tryz.func179, Tryz.ntmps179
 go_wp2
 go_loopw [0, 9] (fun c0 c wr => ∃ (j t : Nat), c = .int .i64 (j : Int) ∧ c0 = .int .u32 (t : Int) ∧ j ≤ l.length ∧ Hid (t = qde s (l.take j)) ∧ Hid (wr = w)) (fun _ c _ => l.length - (intOf c).toNat)
 case atStart => exact ⟨0, s, rfl, rfl, Nat.zero_le _, Hj rfl, Hj rfl⟩
 case round =>
  obtain ⟨j, t, rfl, rfl, hjl, HTT, HW⟩ := hrel
  by_cases hlt : j < l.length
  · have hlti : (j : Int) < (l.length : Int) := by omega
    obtain ⟨c, hc⟩ : ∃ c, l[j]? = some c := ⟨l[j], by simp⟩
    have hc256 := HB.out c (List.mem_of_getElem? hc)
    obtain ⟨b, off, rfl, hcell⟩ := u8_cell HH.out hc
    rw [← HW.out] at hcell
    have ht : t < 4294967296 := by rw [HTT.out]; exact crcFold_lt _ (fun x hx => HB.out x (List.mem_of_mem_take hx)) s HS.out
    obtain ⟨s1, hs1⟩ : ∃ s1, s1 = t ^^^ c := ⟨_, rfl⟩
    obtain ⟨s2, hs2⟩ : ∃ s2, s2 = crcHalf s1 := ⟨_, rfl⟩
    obtain ⟨s3, hs3⟩ : ∃ s3, s3 = crcHalf s2 := ⟨_, rfl⟩
    have l1 : s1 < 4294967296 := by rw [hs1]; exact xor32 ht (by omega)
    have l2 : s2 < 4294967296 := by rw [hs2]; exact crcHalf_lt l1
    have hN : s3 = qde s (l.take (j + 1)) := by rw [crcFold_snoc s l j c hc, ← HTT.out, hs3, hs2, hs1]; rfl
    obtain ⟨m1, hm1⟩ : ∃ m1, m1 = s1 % 16 := ⟨_, rfl⟩
    obtain ⟨m2, hm2⟩ : ∃ m2, m2 = s2 % 16 := ⟨_, rfl⟩
    obtain ⟨d1, hd1⟩ : ∃ d1, d1 = s1 / 16 := ⟨_, rfl⟩
    obtain ⟨d2, hd2⟩ : ∃ d2, d2 = s2 / 16 := ⟨_, rfl⟩
    obtain ⟨t1, ht1⟩ : ∃ t1, t1 = crcTab m1 := ⟨_, rfl⟩
    obtain ⟨t2, ht2⟩ : ∃ t2, t2 = crcTab m2 := ⟨_, rfl⟩
    have x1 : bits .xor .u32 (t : Int) (c : Int) = (s1 : Int) := by rw [qdk _ _ ht (by omega), hs1]
    have a1 : bits .and .u32 (s1 : Int) 15 = (m1 : Int) := by rw [bits_and_15 _ l1, hm1]
    have a2 : bits .and .u32 (s2 : Int) 15 = (m2 : Int) := by rw [bits_and_15 _ l2, hm2]
    have q1 : (s1 : Int) / 16 = (d1 : Int) := by omega
    have q2 : (s2 : Int) / 16 = (d2 : Int) := by omega
    have g1 := HT.out m1 (by omega); have g2 := HT.out m2 (by omega)
    rw [← ht1, ← HW.out] at g1
    rw [← ht2, ← HW.out] at g2
    have y1 : bits .xor .u32 (t1 : Int) (d1 : Int) = (s2 : Int) := by rw [qdk _ _ (by rw [ht1]; exact crcTab_lt _) (by omega), hs2, ht1, hd1, hm1]; rfl
    have y2 : bits .xor .u32 (t2 : Int) (d2 : Int) = (s3 : Int) := by rw [qdk _ _ (by rw [ht2]; exact crcTab_lt _) (by omega), hs3, ht2, hd2, hm2]; rfl
    have b1 : (m1 : Int) < 16 := by omega
    have b2 : (m2 : Int) < 16 := by omega
    have HN := Hj hN
    clear hc hs1 hs2 hs3 hN hm1 hm2 hd1 hd2 ht1 ht2
    go_wp2
    exact ⟨⟨j + 1, s3, by simp, rfl, by omega, HN, HW⟩, by simp [intOf]; omega⟩
  · obtain rfl : j = l.length := by omega
    go_wp2
    go_ret
    have ht := HTT.out
    rw [List.take_length] at ht
    exact ⟨by rw [← ht]; rfl, HW.out⟩
theorem crcs_any (v : Value) (l : List Nat) (w : World) (h : Holds w v (u8s l)) (hb : ∀ c ∈ l, c < 256) (hl : l.length ≤ 140737488351232) (hT : TabC w) :
 Calls Tryz.prog 131 #[v] w fun e w' => e = .returned (.int .u32 ((crcO l : Nat) : Int)) ∧ w' = w := by
 have HC := Hj (crcu_any 4294967295 v l w (by decide) h hb hl hT)
 have hlt := crcFold_lt l hb 4294967295 (by decide)
 have hx : bits .xor .u32 IntKind.u32.max ((qde 4294967295 l : Nat) : Int) = ((crcO l : Nat) : Int) := by
  have h1 := qdk 4294967295 (qde 4294967295 l) (by decide) hlt
  rw [Nat.xor_comm] at h1
  exact h1
 generalize qde 4294967295 l = s at *
 generalize crcO l = r at *
 clear h hb hT
 go_enter Tryz.func131, Tryz.ntmps131
 go_wp2_with (go_at_call 179; refine HC.out.mono ?_; rintro e w' ⟨rfl, rfl⟩)
 go_ret
 exact ⟨rfl, rfl⟩
end
end Go.Proofs.YtfpcgcbehdogjaaGreatDoor
section
namespace Go.Proofs
open Go.Shelf
def Tryz.lays190_ren : Go.Shelf.Ren := ⟨fun | 190 => 205 | 125 => 157 | 258 => 228 | 128 => 192 | 129 => 193 | 302 => 242 | 303 => 243 | 304 => 244 | 305 => 245 | 306 => 246 | 307 => 247 | 308 => 208 | 309 => 248 | 310 => 249 | 333 => 254 | 329 => 238 | 330 => 239 | 334 => 255 | 335 => 256 | 336 => 212 | 344 => 258 | n => n, fun | 31 => 132 | 9 => 9 | 3 => 3 | 46 => 207 | 0 => 0 | 51 => 236 | 53 => 23 | 4 => 4 | 183 => 333 | 182 => 332 | 131 => 144 | 5 => 5 | 218 => 345 | 222 => 348 | 228 => 357 | 229 => 358 | n => n, fun | n => n⟩
theorem Tryz.lays190 : Go.Proofs.Lays.n190 Tryz.prog Tryz.lays190_ren := {
 mixed := by kernel_rfl
 f125 := Tryz.func157.trans (congrArg some (by kernel_rfl))
 f128 := Tryz.func192.trans (congrArg some (by kernel_rfl))
 f129 := Tryz.func193.trans (congrArg some (by kernel_rfl))
 f190 := Tryz.func205.trans (congrArg some (by kernel_rfl))
 f258 := Tryz.func228.trans (congrArg some (by kernel_rfl))
 f302 := Tryz.func242.trans (congrArg some (by kernel_rfl))
 f303 := Tryz.func243.trans (congrArg some (by kernel_rfl))
 f304 := Tryz.func244.trans (congrArg some (by kernel_rfl))
 f305 := Tryz.func245.trans (congrArg some (by kernel_rfl))
 f306 := Tryz.func246.trans (congrArg some (by kernel_rfl))
 f307 := Tryz.func247.trans (congrArg some (by kernel_rfl))
 f308 := Tryz.func208.trans (congrArg some (by kernel_rfl))
 f309 := Tryz.func248.trans (congrArg some (by kernel_rfl))
 f310 := Tryz.func249.trans (congrArg some (by kernel_rfl))
 f329 := Tryz.func238.trans (congrArg some (by kernel_rfl))
 f330 := Tryz.func239.trans (congrArg some (by kernel_rfl))
 f333 := Tryz.func254.trans (congrArg some (by kernel_rfl))
 f334 := Tryz.func255.trans (congrArg some (by kernel_rfl))
 f335 := Tryz.func256.trans (congrArg some (by kernel_rfl))
 f336 := Tryz.func212.trans (congrArg some (by kernel_rfl))
 f344 := Tryz.func258.trans (congrArg some (by kernel_rfl))
 t0 := Tryz.underlying0
 a0 := Tryz.isAgg0
 z0 := Tryz.sizeOf0
 v0 := Tryz.zeroValue0
 t3 := Tryz.underlying3
 a3 := Tryz.isAgg3
 z3 := Tryz.sizeOf3
 v3 := Tryz.zeroValue3
 t4 := Tryz.underlying4
 a4 := Tryz.isAgg4
 z4 := Tryz.sizeOf4
 v4 := Tryz.zeroValue4
 t5 := Tryz.underlying5
 a5 := Tryz.isAgg5
 z5 := Tryz.sizeOf5
 v5 := Tryz.zeroValue5
 t9 := Tryz.underlying9
 a9 := Tryz.isAgg9
 z9 := Tryz.sizeOf9
 v9 := Tryz.zeroValue9
 t31 := Tryz.underlying132
 a31 := Tryz.isAgg132
 z31 := Tryz.sizeOf132
 v31 := Tryz.zeroValue132
 t46 := Tryz.underlying207
 a46 := Tryz.isAgg207
 z46 := Tryz.sizeOf207
 v46 := Tryz.zeroValue207
 t51 := Tryz.underlying236
 a51 := Tryz.isAgg236
 z51 := Tryz.sizeOf236
 v51 := Tryz.zeroValue236
 t53 := Tryz.underlying23
 a53 := Tryz.isAgg23
 z53 := Tryz.sizeOf23
 v53 := Tryz.zeroValue23
 t131 := Tryz.underlying144
 a131 := Tryz.isAgg144
 z131 := Tryz.sizeOf144
 v131 := Tryz.zeroValue144
 t182 := Tryz.underlying332
 a182 := Tryz.isAgg332
 z182 := Tryz.sizeOf332
 v182 := Tryz.zeroValue332
 t183 := Tryz.underlying333
 a183 := Tryz.isAgg333
 z183 := Tryz.sizeOf333
 v183 := Tryz.zeroValue333
 t218 := Tryz.underlying345
 a218 := Tryz.isAgg345
 z218 := Tryz.sizeOf345
 v218 := Tryz.zeroValue345
 t222 := Tryz.underlying348
 a222 := Tryz.isAgg348
 z222 := Tryz.sizeOf348
 v222 := Tryz.zeroValue348
 t228 := Tryz.underlying357
 a228 := Tryz.isAgg357
 z228 := Tryz.sizeOf357
 v228 := Tryz.zeroValue357
 t229 := Tryz.underlying358
 a229 := Tryz.isAgg358
 z229 := Tryz.sizeOf358
 v229 := Tryz.zeroValue358 }
open Go.Sort Go.RowKit in
theorem Tryz.slices_Sort_string (blk off cap : Nat) (ss : List (List UInt8)) (w : World) (hH : Holds encStr w blk off ss.toArray) (hblk : blk < w.heap.size) (hsz : ss.length < 4611686018427387904) :
 Calls Tryz.prog 205 #[.slice (some ⟨blk, off, none⟩) ss.length cap] w fun e w' =>
  e = .returned (.tuple #[]) ∧ ∃ n os, w' = grow (putRow encStr (Sort.ahead w n) blk off (ss.mergeSort fun x y => decide (x ≤ y)).toArray) os := Any.slices_Sort_string Tryz.lays190 blk off cap ss w hH hblk hsz
def Tryz.lays111_ren : Go.Shelf.Ren := ⟨fun | 111 => 140 | n => n, fun | 28 => 125 | 3 => 3 | 4 => 4 | 0 => 0 | n => n, fun | n => n⟩
theorem Tryz.lays111 : Go.Proofs.Lays.n111 Tryz.prog Tryz.lays111_ren := {
 mixed := by kernel_rfl
 f111 := Tryz.func140.trans (congrArg some (by kernel_rfl))
 t0 := Tryz.underlying0
 a0 := Tryz.isAgg0
 z0 := Tryz.sizeOf0
 v0 := Tryz.zeroValue0
 t3 := Tryz.underlying3
 a3 := Tryz.isAgg3
 z3 := Tryz.sizeOf3
 v3 := Tryz.zeroValue3
 t4 := Tryz.underlying4
 a4 := Tryz.isAgg4
 z4 := Tryz.sizeOf4
 v4 := Tryz.zeroValue4
 t28 := Tryz.underlying125
 a28 := Tryz.isAgg125
 z28 := Tryz.sizeOf125
 v28 := Tryz.zeroValue125 }
open Go.RowKit Go.Lib in
theorem Tryz.slices_Equal_int (b1 o1 n c b2 o2 m d : Nat) (xs ys : List Int) (w : World) (hx : n ≤ xs.length) (hy : m ≤ ys.length) (hbig : n ≤ 9223372036854775807) (hbig2 : m ≤ 9223372036854775807) (hc1 : ∀ j, j < xs.length → w.cell? ⟨b1, o1 + j, none⟩ = some (.int .i64 (xs.getD j 0))) (hc2 : ∀ j, j < ys.length → w.cell? ⟨b2, o2 + j, none⟩ = some (.int .i64 (ys.getD j 0))) :
 Calls Tryz.prog 140 #[.slice (some ⟨b1, o1, none⟩) n c, .slice (some ⟨b2, o2, none⟩) m d] w fun e w' => e = .returned (.bool (xs.take n == ys.take m)) ∧ ∃ q, w' = w.drewN q := Any.slices_Equal_int Tryz.lays111 b1 o1 n c b2 o2 m d xs ys w hx hy hbig hbig2 hc1 hc2
def Tryz.lays194_ren : Go.Shelf.Ren := ⟨fun | 194 => 167 | n => n, fun | 31 => 132 | 9 => 9 | 3 => 3 | 4 => 4 | 0 => 0 | n => n, fun | n => n⟩
theorem Tryz.lays194 : Go.Proofs.Lays.n194 Tryz.prog Tryz.lays194_ren := {
 mixed := by kernel_rfl
 f194 := Tryz.func167.trans (congrArg some (by kernel_rfl))
 t0 := Tryz.underlying0
 a0 := Tryz.isAgg0
 z0 := Tryz.sizeOf0
 v0 := Tryz.zeroValue0
 t3 := Tryz.underlying3
 a3 := Tryz.isAgg3
 z3 := Tryz.sizeOf3
 v3 := Tryz.zeroValue3
 t4 := Tryz.underlying4
 a4 := Tryz.isAgg4
 z4 := Tryz.sizeOf4
 v4 := Tryz.zeroValue4
 t9 := Tryz.underlying9
 a9 := Tryz.isAgg9
 z9 := Tryz.sizeOf9
 v9 := Tryz.zeroValue9
 t31 := Tryz.underlying132
 a31 := Tryz.isAgg132
 z31 := Tryz.sizeOf132
 v31 := Tryz.zeroValue132 }
open Go.RowKit Go.Lib Go.Sort in
theorem Tryz.slices_Compact_string_empty (a : Option Addr) (cap : Nat) (w : World) :
 Calls Tryz.prog 167 #[.slice a 0 cap] w fun e w' => e = .returned (.slice a 0 cap) ∧ w' = w := Any.slices_Compact_string_empty Tryz.lays194 a cap w
open Go.RowKit Go.Lib Go.Sort in
theorem Tryz.slices_Compact_string_cells (b off n c : Nat) (Sx : Nat → ByteArray) (w : World) (hbig : n ≤ 9223372036854775807) (hcap : n ≤ c) (hc : ∀ i, i < n → w.cell? ⟨b, off + i, none⟩ = some (.string (Sx i))) (hf : ∀ j, j < n → w.frozen? ⟨b, off + j, none⟩ = false) :
 Calls Tryz.prog 167 #[.slice (some ⟨b, off, none⟩) n c] w fun e w' => e = .returned (.slice (some ⟨b, off, none⟩) (Lib.compact (Lib.strsOf Sx n)).length c) ∧ ∃ q, w' = (w.drewN q).setCells b off ((Lib.compact (Lib.strsOf Sx n) ++ List.replicate (n - (Lib.compact (Lib.strsOf Sx n)).length) []).map encStr) := Any.slices_Compact_string_cells Tryz.lays194 b off n c Sx w hbig hcap hc hf
open Go.RowKit Go.Sort in
theorem Tryz.slices_Sort_string_none (p : Option Addr) (cap : Nat) (w : World) :
 Calls Tryz.prog 205 #[.slice p 0 cap] w fun e w' => e = .returned (.tuple #[]) ∧ w' = w := Any.slices_Sort_string_none Tryz.lays190 p cap w
end Go.Proofs
end
namespace Go.Proofs.YtfpcgcbehdogjaaGreatDoor
section
open Go.RowKit
def SeqAt {α : Type} (P : Program) (g : Nat) (lb : Array Value) (encs : α → Array Value) (own tr : Nat → Prop) (S Sp : List α → Prop) (W : World) : Prop :=
 ∀ (l : Nat) (J Jx : List α → World → Prop),
  (∀ s A B, J s A → Keeps tr A B → J s B) → (∀ s A B, Jx s A → Keeps tr A B → Jx s B) →
  (∀ pre x W1, J pre W1 → Sp (pre ++ [x]) → YieldAt Fence.wide 0 P l (encs x) W1 fun e W' =>
    (e = .returned (.bool true) ∧ J (pre ++ [x]) W' ∧ Keeps (fun k => ¬ own k) W1 W') ∨ (e = .returned (.bool false) ∧ Jx (pre ++ [x]) W' ∧ Keeps (fun k => ¬ own k) W1 W')) →
  J [] W →
  CallsIn Fence.wide 0 P g (#[.func (.yield l) #[] #[]] ++ lb) W fun e W' => (∃ v, e = .returned v) ∧ ((∃ xs, S xs ∧ J xs W') ∨ (∃ pre, Sp pre ∧ Jx pre W'))
variable {P : Program}
theorem wpIn_rangeFunc_m {α : Type} {g : Operand} {ps : Array Tmp} {assign body : Code} {Q : Exit → Act → World → Prop} {a : Act} {w : World}
 {gf : Nat} {lb : Array Value} (hg : a.eval g = .func (.func gf) #[] lb) (eg : ∀ args w, (callFunc gf args).run P w = .ok (.enter gf args) w)
 {encs : α → Array Value} {own tr T : Nat → Prop} {S Sp : List α → Prop} (hseq : ∀ W, W.heap.size = w.heap.size + 2 → Keeps (fun _ => False) w W → SeqAt P gf lb encs own tr S Sp W) (hps : ∀ x, (encs x).size = ps.size)
 (htr : ∀ k, tr k → own k) (hown : ∀ k, own k → k < w.heap.size ∨ w.heap.size + 2 ≤ k) (hT : ∀ k, T k → ¬ own k) (hT2 : ∀ k, T k → k < w.heap.size ∨ w.heap.size + 2 ≤ k)
 (I : List α → World → Prop) (Ix : Code → List α → World → Prop)
 (hI : ∀ s A B, I s A → Keeps (fun k => tr k ∨ k = w.heap.size ∨ k = w.heap.size + 1) A B → I s B)
 (hIx : ∀ c s A B, Ix c s A → Keeps (fun k => tr k ∨ k = w.heap.size ∨ k = w.heap.size + 1) A B → Ix c s B) (h0 : I [] w) (a₁ : α → Nat → Act) (cs : α → Array Value) (ty : TypeId)
 (hassign : ∀ (l : Nat) (x : α) (W : World) (K : Act → World → Prop), K (a₁ x W.heap.size) (W.alloc (.cells (cs x) ty)) →
   assign.wpIn (Fence.wide.inRound l) 0 P (Exit.then K (fun _ _ _ => False)) { tmps := (ps.zip (encs x)).foldl (fun t (p, v) => t.setIfInBounds p v) a.tmps, defers := [] } W)
 (hbody : ∀ (l D : Nat) (pre : List α) (x : α) (W : World), I pre W → Sp (pre ++ [x]) → w.heap.size + 2 ≤ W.heap.size → W.heap[D]? = some (.cells (cs x) ty (0, 0)) → w.heap.size + 2 ≤ D → body.wpIn (Fence.wide.inRound l) 0 P (bodyC T I Ix (pre ++ [x]) W) (a₁ x D) W)
 (hdone : ∀ (D : Nat) (xs : List α) (W : World), S xs → I xs W → w.heap.size ≤ D → W.heap[D]? = some (.deferred (some [])) → Q .normal { a with defers := { target := .collected D, args := #[] } :: a.defers } W)
 (hstop : ∀ (D : Nat) (c : Code) (pre : List α) (W : World), Sp pre → Ix c pre W → w.heap.size ≤ D → W.heap[D]? = some (.deferred (some [])) → c.wpIn Fence.wide 0 P Q { a with defers := { target := .collected D, args := #[] } :: a.defers } W) :
 (Code.rangeFunc g ps assign body).wpIn Fence.wide 0 P Q a w := by
 refine wpIn_rangeFunc ?_
 intro fn hfn
 obtain ⟨rec, hrec⟩ : ∃ rec : LoopState → Option Code → Loop, rec = fun st pe => { state := st, pending := pe, fn, tmps := a.tmps, params := ps, assign, body, defers := w.heap.size } := ⟨_, rfl⟩
 obtain ⟨W1, hW1⟩ : ∃ W1, (w.alloc (.deferred (some []))).alloc (.loop (rec .ready none)) = W1 := ⟨_, rfl⟩
 have hL1 : W1.heap[w.heap.size + 1]? = some (.loop (rec .ready none)) := by
  rw [← hW1]; have := World.alloc_heap_new (w.alloc (.deferred (some []))) (.loop (rec .ready none)); rwa [World.size_alloc] at this
 have hK1 : W1.heap[w.heap.size]? = some (.deferred (some [])) := by
  rw [← hW1]; exact (Below.heap_alloc _ _ _ (by simp)).trans (World.alloc_heap_new w _)
 have hKW : ∀ S : Nat → Prop, Keeps S w W1 := fun S => by rw [← hW1]; exact ((Keeps.refl S w).alloc _).alloc _
 have hI1 : I [] W1 := hI _ _ _ h0 (hKW _)
 refine ⟨w.heap.size + 1, [{ target := .collected w.heap.size, args := #[] }], W1, { target := .fn (.func gf) lb, args := #[.func (.yield (w.heap.size + 1)) #[] #[]] }, W1, gf,
  #[.func (.yield (w.heap.size + 1)) #[] #[]] ++ lb, W1, ?_, ?_, ?_, ?_, (fun h => by cases h), ?_⟩
 · rw [← hW1, hrec]; exact run_enterLoop_outer _ _ _ _ _
 · simp only [resolve, hg]
   simp [go_sem]
 · intro f' _; exact trivial
 · simp [invoke, go_sem, eg]
 · have hDown : ¬ own w.heap.size := fun h => by rcases hown _ h with h | h <;> omega
   have hLown : ¬ own (w.heap.size + 1) := fun h => by rcases hown _ h with h | h <;> omega
   refine (hseq W1 (by rw [← hW1]; simp) (hKW _) (w.heap.size + 1)
    (fun pre W => (I pre W ∧ w.heap.size + 2 ≤ W.heap.size) ∧ W.heap[w.heap.size + 1]? = some (.loop (rec .ready none)) ∧ W.heap[w.heap.size]? = some (.deferred (some [])))
    (fun pre W => ∃ c, Ix c pre W ∧ W.heap[w.heap.size + 1]? = some (.loop (rec .done (some c))) ∧ W.heap[w.heap.size]? = some (.deferred (some [])))
    (fun s A B hs k => ⟨⟨hI s A B hs.1.1 (k.mono (fun _ _ h => .inl h)), Nat.le_trans hs.1.2 k.size⟩, k.heap hs.2.1 (fun h => hLown (htr _ h)), k.heap hs.2.2 (fun h => hDown (htr _ h))⟩)
    (fun s A B hs k => by
      obtain ⟨c, hc, hl, hk⟩ := hs
      exact ⟨c, hIx c s A B hc (k.mono (fun _ _ h => .inl h)), k.heap hl (fun h => hLown (htr _ h)), k.heap hk (fun h => hDown (htr _ h))⟩)
    ?_ ⟨⟨hI1, by have := (Array.getElem?_eq_some_iff.1 hL1).1; omega⟩, hL1, hK1⟩).mono ?_
   · rintro pre x W ⟨⟨hi, hsz⟩, hl, hk⟩ hsp
     have hlt : w.heap.size + 1 < W.heap.size := (Array.getElem?_eq_some_iff.1 hl).1
     have hy := run_yield (P := P) (args := encs x) hl (by rw [hrec]; exact hps x)
     rw [hrec] at hy
     obtain ⟨WA, hWA⟩ : ∃ WA, WA = W.alloc (.cells (cs x) ty) := ⟨_, rfl⟩
     have hKA : ∀ S : Nat → Prop, Keeps S W WA := fun S => by rw [hWA]; exact (Keeps.refl S W).alloc _
     have hDA : WA.heap[W.heap.size]? = some (.cells (cs x) ty (0, 0)) := by rw [hWA]; exact heap_alloc_new _ _
     have hlA : WA.heap[w.heap.size + 1]? = some (.loop (rec .ready none)) := (hKA (fun _ => False)).heap hl (fun h => h)
     have hkA : WA.heap[w.heap.size]? = some (.deferred (some [])) := (hKA (fun _ => False)).heap hk (fun h => h)
     have hiA : I pre WA := hI _ _ _ hi (hKA _)
     refine ⟨fn, _, assign, body, hy, roundIn_of_wpIn hfn (hassign _ x W _ ⟨_, (by rw [← hWA]; exact run_beginRound hlA (by rw [hrec])), ?_⟩)⟩
     have hltA : w.heap.size + 1 < WA.heap.size := (Array.getElem?_eq_some_iff.1 hlA).1
     have hl2 : (WA.putObj (w.heap.size + 1) (.loop { rec .ready none with state := .busy })).heap[w.heap.size + 1]? = some (.loop { rec .ready none with state := .busy }) := World.putObj_heap_same hltA
     have hk2 : (WA.putObj (w.heap.size + 1) (.loop { rec .ready none with state := .busy })).heap[w.heap.size]? = some (.deferred (some [])) := (World.putObj_heap_other (by omega)).trans hkA
     have hw2 : Keeps (fun k => ¬ own k) W (WA.putObj (w.heap.size + 1) (.loop { rec .ready none with state := .busy })) := (hKA (fun k => ¬ own k)).trans (Keeps.putObj _ _ _ hLown) (fun _ _ h => h)
     have hi2 := hI _ _ _ hiA (Keeps.putObj WA (w.heap.size + 1) (.loop { rec .ready none with state := .busy }) (.inr (.inr rfl)))
     have hD2 : (WA.putObj (w.heap.size + 1) (.loop { rec .ready none with state := .busy })).heap[W.heap.size]? = some (.cells (cs x) ty (0, 0)) := (World.putObj_heap_other (by omega)).trans hDA
     have hTn : ¬ T (w.heap.size + 1) := fun h => by rcases hT2 _ h with h | h <;> omega
     have hTd : ¬ T w.heap.size := fun h => by rcases hT2 _ h with h | h <;> omega
     have hszA : w.heap.size + 2 ≤ (WA.putObj (w.heap.size + 1) (.loop { rec .ready none with state := .busy })).heap.size := by simp; omega
     refine wpIn_mono (hbody _ W.heap.size pre x _ hi2 hsp hszA hD2 (by omega)) ?_
     have fin : ∀ (jump : Option Code) (W3 : World), Keeps T (WA.putObj (w.heap.size + 1) (.loop { rec .ready none with state := .busy })) W3 →
      (Instr.endRound (w.heap.size + 1) jump).run P W3 = .ok (.bool jump.isNone) (W3.putObj (w.heap.size + 1) (.loop (rec (if jump.isNone then .ready else .done) jump))) ∧
      w.heap.size + 2 ≤ W3.heap.size ∧
      (W3.putObj (w.heap.size + 1) (.loop (rec (if jump.isNone then .ready else .done) jump))).heap[w.heap.size + 1]? = some (.loop (rec (if jump.isNone then .ready else .done) jump)) ∧
      (W3.putObj (w.heap.size + 1) (.loop (rec (if jump.isNone then .ready else .done) jump))).heap[w.heap.size]? = some (.deferred (some [])) := fun jump W3 hk3 => by
      have hl3 := hk3.heap hl2 hTn
      have hr := run_endRound (P := P) jump hl3
      rw [hrec] at hr ⊢
      have hlt3 := (Array.getElem?_eq_some_iff.1 hl3).1
      exact ⟨hr, by omega, World.putObj_heap_same hlt3, (World.putObj_heap_other (by omega)).trans (hk3.heap hk2 hTd)⟩
     have put : ∀ (s : List α) (jump : Option Code) (W3 : World), I s W3 → I s (W3.putObj (w.heap.size + 1) (.loop (rec (if jump.isNone then .ready else .done) jump))) := fun s jump W3 h => hI _ _ _ h (Keeps.putObj _ _ _ (.inr (.inr rfl)))
     have putx : ∀ (c : Code) (s : List α) (jump : Option Code) (W3 : World), Ix c s W3 → Ix c s (W3.putObj (w.heap.size + 1) (.loop (rec (if jump.isNone then .ready else .done) jump))) := fun c s jump W3 h => hIx _ _ _ _ h (Keeps.putObj _ _ _ (.inr (.inr rfl)))
     rintro e a3 W3 hp
     cases e with
     | normal =>
       obtain ⟨hk3, hi3⟩ := hp
       obtain ⟨hr, hs3, hl4, hk4⟩ := fin none W3 hk3
       refine ⟨_, _, hr, .inl ⟨rfl, ⟨⟨put _ none _ hi3, by simpa using hs3⟩, hl4, hk4⟩, ?_⟩⟩
       exact (hw2.trans hk3 (fun k _ h => hT k h)).trans (Keeps.putObj (S := fun k => ¬ own k) _ _ _ hLown) (fun _ _ h => h)
     | ret =>
       obtain ⟨hk3, hi3⟩ := hp
       obtain ⟨hr, hs3, hl4, hk4⟩ := fin (some .ret) W3 hk3
       exact ⟨_, _, hr, .inr ⟨rfl, ⟨.ret, putx _ _ (some .ret) _ hi3, hl4, hk4⟩, (hw2.trans hk3 (fun k _ h => hT k h)).trans (Keeps.putObj (S := fun k => ¬ own k) _ _ _ hLown) (fun _ _ h => h)⟩⟩
     | exit id =>
       obtain ⟨hk3, hi3⟩ := hp
       obtain ⟨hr, hs3, hl4, hk4⟩ := fin (some (.exit id)) W3 hk3
       exact ⟨_, _, hr, .inr ⟨rfl, ⟨.exit id, putx _ _ (some (.exit id)) _ hi3, hl4, hk4⟩, (hw2.trans hk3 (fun k _ h => hT k h)).trans (Keeps.putObj (S := fun k => ¬ own k) _ _ _ hLown) (fun _ _ h => h)⟩⟩
     | goto t =>
       obtain ⟨hk3, hi3⟩ := hp
       obtain ⟨hr, hs3, hl4, hk4⟩ := fin (some (.goto t)) W3 hk3
       exact ⟨_, _, hr, .inr ⟨rfl, ⟨.goto t, putx _ _ (some (.goto t)) _ hi3, hl4, hk4⟩, (hw2.trans hk3 (fun k _ h => hT k h)).trans (Keeps.putObj (S := fun k => ¬ own k) _ _ _ hLown) (fun _ _ h => h)⟩⟩
     | panic ch => exact hp.elim
     | outgrown => exact hp.elim
   · rintro e W2 ⟨⟨v, rfl⟩, (⟨xs, hS, ⟨hi, _⟩, hl, hk⟩ | ⟨pre, hSp, c, hi, hl, hk⟩)⟩
     · exact ⟨none, _, by have := run_endLoop (P := P) hl (by rw [hrec]; simp); rw [hrec] at this; exact this, hdone _ xs _ hS (hI _ _ _ hi (Keeps.putObj _ _ _ (.inr (.inr rfl)))) (Nat.le_refl _) ((World.putObj_heap_other (by omega)).trans hk)⟩
     · exact ⟨some c, _, by have := run_endLoop (P := P) hl (by rw [hrec]; simp); rw [hrec] at this; exact this, hstop _ c pre _ hSp (hIx _ _ _ _ hi (Keeps.putObj _ _ _ (.inr (.inr rfl)))) (Nat.le_refl _) ((World.putObj_heap_other (by omega)).trans hk)⟩
#print axioms wpIn_rangeFunc_m
end
section
open Go.RowKit
def SeqQ {α : Type} (P : Program) (g : Nat) (lb : Array Value) (encs : α → Array Value) (own tr : Nat → Prop) (S Sp : List α → Prop) (Qx : α → World → Prop) (W : World) : Prop :=
 ∀ (l : Nat) (J Jx : List α → World → Prop),
  (∀ s A B, J s A → Keeps tr A B → J s B) → (∀ s A B, Jx s A → Keeps tr A B → Jx s B) →
  (∀ pre x W1, J pre W1 → Sp (pre ++ [x]) → Qx x W1 → YieldAt Fence.wide 0 P l (encs x) W1 fun e W' =>
    (e = .returned (.bool true) ∧ J (pre ++ [x]) W' ∧ Keeps (fun k => ¬ own k) W1 W') ∨ (e = .returned (.bool false) ∧ Jx (pre ++ [x]) W' ∧ Keeps (fun k => ¬ own k) W1 W')) →
  J [] W →
  CallsIn Fence.wide 0 P g (#[.func (.yield l) #[] #[]] ++ lb) W fun e W' => (∃ v, e = .returned v) ∧ ((∃ xs, S xs ∧ J xs W') ∨ (∃ pre, Sp pre ∧ Jx pre W'))
variable {P : Program}
theorem wpIn_rangeFunc_q {α : Type} {g : Operand} {ps : Array Tmp} {assign body : Code} {Q : Exit → Act → World → Prop} {a : Act} {w : World}
 {gf : Nat} {lb : Array Value} (hg : a.eval g = .func (.func gf) #[] lb) (eg : ∀ args w, (callFunc gf args).run P w = .ok (.enter gf args) w)
 {encs : α → Array Value} {own tr T : Nat → Prop} {S Sp : List α → Prop} {Qx : α → World → Prop} (hseq : ∀ W, W.heap.size = w.heap.size + 2 → Keeps (fun _ => False) w W → SeqQ P gf lb encs own tr S Sp Qx W) (hQx : ∀ x A B, Qx x A → Keeps (fun k => k = w.heap.size ∨ k = w.heap.size + 1) A B → Qx x B) (hps : ∀ x, (encs x).size = ps.size)
 (htr : ∀ k, tr k → own k) (hown : ∀ k, own k → k < w.heap.size ∨ w.heap.size + 2 ≤ k) (hT : ∀ k, T k → ¬ own k) (hT2 : ∀ k, T k → k < w.heap.size ∨ w.heap.size + 2 ≤ k)
 (I : List α → World → Prop) (Ix : Code → List α → World → Prop)
 (hI : ∀ s A B, I s A → Keeps (fun k => tr k ∨ k = w.heap.size ∨ k = w.heap.size + 1) A B → I s B)
 (hIx : ∀ c s A B, Ix c s A → Keeps (fun k => tr k ∨ k = w.heap.size ∨ k = w.heap.size + 1) A B → Ix c s B) (h0 : I [] w) (a₁ : α → Act)
 (hassign : ∀ (l : Nat) (x : α) (W : World) (K : Act → World → Prop), K (a₁ x) W →
   assign.wpIn (Fence.wide.inRound l) 0 P (Exit.then K (fun _ _ _ => False)) { tmps := (ps.zip (encs x)).foldl (fun t (p, v) => t.setIfInBounds p v) a.tmps, defers := [] } W)
 (hbody : ∀ (l : Nat) (pre : List α) (x : α) (W : World), I pre W → Sp (pre ++ [x]) → Qx x W → w.heap.size + 2 ≤ W.heap.size → body.wpIn (Fence.wide.inRound l) 0 P (bodyC T I Ix (pre ++ [x]) W) (a₁ x) W)
 (hdone : ∀ (D : Nat) (xs : List α) (W : World), S xs → I xs W → w.heap.size ≤ D → W.heap[D]? = some (.deferred (some [])) → Q .normal { a with defers := { target := .collected D, args := #[] } :: a.defers } W)
 (hstop : ∀ (D : Nat) (c : Code) (pre : List α) (W : World), Sp pre → Ix c pre W → w.heap.size ≤ D → W.heap[D]? = some (.deferred (some [])) → c.wpIn Fence.wide 0 P Q { a with defers := { target := .collected D, args := #[] } :: a.defers } W) :
 (Code.rangeFunc g ps assign body).wpIn Fence.wide 0 P Q a w := by
 refine wpIn_rangeFunc ?_
 intro fn hfn
 obtain ⟨rec, hrec⟩ : ∃ rec : LoopState → Option Code → Loop, rec = fun st pe => { state := st, pending := pe, fn, tmps := a.tmps, params := ps, assign, body, defers := w.heap.size } := ⟨_, rfl⟩
 obtain ⟨W1, hW1⟩ : ∃ W1, (w.alloc (.deferred (some []))).alloc (.loop (rec .ready none)) = W1 := ⟨_, rfl⟩
 have hL1 : W1.heap[w.heap.size + 1]? = some (.loop (rec .ready none)) := by
  rw [← hW1]; have := World.alloc_heap_new (w.alloc (.deferred (some []))) (.loop (rec .ready none)); rwa [World.size_alloc] at this
 have hK1 : W1.heap[w.heap.size]? = some (.deferred (some [])) := by
  rw [← hW1]; exact (Below.heap_alloc _ _ _ (by simp)).trans (World.alloc_heap_new w _)
 have hKW : ∀ S : Nat → Prop, Keeps S w W1 := fun S => by rw [← hW1]; exact ((Keeps.refl S w).alloc _).alloc _
 have hI1 : I [] W1 := hI _ _ _ h0 (hKW _)
 refine ⟨w.heap.size + 1, [{ target := .collected w.heap.size, args := #[] }], W1, { target := .fn (.func gf) lb, args := #[.func (.yield (w.heap.size + 1)) #[] #[]] }, W1, gf,
  #[.func (.yield (w.heap.size + 1)) #[] #[]] ++ lb, W1, ?_, ?_, ?_, ?_, (fun h => by cases h), ?_⟩
 · rw [← hW1, hrec]; exact run_enterLoop_outer _ _ _ _ _
 · simp only [resolve, hg]
   simp [go_sem]
 · intro f' _; exact trivial
 · simp [invoke, go_sem, eg]
 · have hDown : ¬ own w.heap.size := fun h => by rcases hown _ h with h | h <;> omega
   have hLown : ¬ own (w.heap.size + 1) := fun h => by rcases hown _ h with h | h <;> omega
   refine (hseq W1 (by rw [← hW1]; simp) (hKW _) (w.heap.size + 1)
    (fun pre W => (I pre W ∧ w.heap.size + 2 ≤ W.heap.size) ∧ W.heap[w.heap.size + 1]? = some (.loop (rec .ready none)) ∧ W.heap[w.heap.size]? = some (.deferred (some [])))
    (fun pre W => ∃ c, Ix c pre W ∧ W.heap[w.heap.size + 1]? = some (.loop (rec .done (some c))) ∧ W.heap[w.heap.size]? = some (.deferred (some [])))
    (fun s A B hs k => ⟨⟨hI s A B hs.1.1 (k.mono (fun _ _ h => .inl h)), Nat.le_trans hs.1.2 k.size⟩, k.heap hs.2.1 (fun h => hLown (htr _ h)), k.heap hs.2.2 (fun h => hDown (htr _ h))⟩)
    (fun s A B hs k => by
      obtain ⟨c, hc, hl, hk⟩ := hs
      exact ⟨c, hIx c s A B hc (k.mono (fun _ _ h => .inl h)), k.heap hl (fun h => hLown (htr _ h)), k.heap hk (fun h => hDown (htr _ h))⟩)
    ?_ ⟨⟨hI1, by have := (Array.getElem?_eq_some_iff.1 hL1).1; omega⟩, hL1, hK1⟩).mono ?_
   · rintro pre x W ⟨⟨hi, hsz⟩, hl, hk⟩ hsp hqx
     have hlt : w.heap.size + 1 < W.heap.size := (Array.getElem?_eq_some_iff.1 hl).1
     have hy := run_yield (P := P) (args := encs x) hl (by rw [hrec]; exact hps x)
     rw [hrec] at hy
     refine ⟨fn, _, assign, body, hy, roundIn_of_wpIn hfn (hassign _ x W _ ⟨_, run_beginRound hl (by rw [hrec]), ?_⟩)⟩
     have hl2 : (W.putObj (w.heap.size + 1) (.loop { rec .ready none with state := .busy })).heap[w.heap.size + 1]? = some (.loop { rec .ready none with state := .busy }) := World.putObj_heap_same hlt
     have hk2 : (W.putObj (w.heap.size + 1) (.loop { rec .ready none with state := .busy })).heap[w.heap.size]? = some (.deferred (some [])) := (World.putObj_heap_other (by omega)).trans hk
     have hw2 : Keeps (fun k => ¬ own k) W (W.putObj (w.heap.size + 1) (.loop { rec .ready none with state := .busy })) := Keeps.putObj _ _ _ hLown
     have hi2 := hI _ _ _ hi (Keeps.putObj W (w.heap.size + 1) (.loop { rec .ready none with state := .busy }) (.inr (.inr rfl)))
     have hTn : ¬ T (w.heap.size + 1) := fun h => by rcases hT2 _ h with h | h <;> omega
     have hTd : ¬ T w.heap.size := fun h => by rcases hT2 _ h with h | h <;> omega
     refine wpIn_mono (hbody _ pre x _ hi2 hsp (hQx _ _ _ hqx (Keeps.putObj _ _ _ (.inr rfl))) (by simpa using hsz)) ?_
     have fin : ∀ (jump : Option Code) (W3 : World), Keeps T (W.putObj (w.heap.size + 1) (.loop { rec .ready none with state := .busy })) W3 →
      (Instr.endRound (w.heap.size + 1) jump).run P W3 = .ok (.bool jump.isNone) (W3.putObj (w.heap.size + 1) (.loop (rec (if jump.isNone then .ready else .done) jump))) ∧
      w.heap.size + 2 ≤ W3.heap.size ∧
      (W3.putObj (w.heap.size + 1) (.loop (rec (if jump.isNone then .ready else .done) jump))).heap[w.heap.size + 1]? = some (.loop (rec (if jump.isNone then .ready else .done) jump)) ∧
      (W3.putObj (w.heap.size + 1) (.loop (rec (if jump.isNone then .ready else .done) jump))).heap[w.heap.size]? = some (.deferred (some [])) := fun jump W3 hk3 => by
      have hl3 := hk3.heap hl2 hTn
      have hr := run_endRound (P := P) jump hl3
      rw [hrec] at hr ⊢
      have hlt3 := (Array.getElem?_eq_some_iff.1 hl3).1
      exact ⟨hr, by omega, World.putObj_heap_same hlt3, (World.putObj_heap_other (by omega)).trans (hk3.heap hk2 hTd)⟩
     have put : ∀ (s : List α) (jump : Option Code) (W3 : World), I s W3 → I s (W3.putObj (w.heap.size + 1) (.loop (rec (if jump.isNone then .ready else .done) jump))) := fun s jump W3 h => hI _ _ _ h (Keeps.putObj _ _ _ (.inr (.inr rfl)))
     have putx : ∀ (c : Code) (s : List α) (jump : Option Code) (W3 : World), Ix c s W3 → Ix c s (W3.putObj (w.heap.size + 1) (.loop (rec (if jump.isNone then .ready else .done) jump))) := fun c s jump W3 h => hIx _ _ _ _ h (Keeps.putObj _ _ _ (.inr (.inr rfl)))
     rintro e a3 W3 hp
     cases e with
     | normal =>
       obtain ⟨hk3, hi3⟩ := hp
       obtain ⟨hr, hs3, hl4, hk4⟩ := fin none W3 hk3
       refine ⟨_, _, hr, .inl ⟨rfl, ⟨⟨put _ none _ hi3, by simpa using hs3⟩, hl4, hk4⟩, ?_⟩⟩
       exact (hw2.trans hk3 (fun k _ h => hT k h)).trans (Keeps.putObj (S := fun k => ¬ own k) _ _ _ hLown) (fun _ _ h => h)
     | ret =>
       obtain ⟨hk3, hi3⟩ := hp
       obtain ⟨hr, hs3, hl4, hk4⟩ := fin (some .ret) W3 hk3
       exact ⟨_, _, hr, .inr ⟨rfl, ⟨.ret, putx _ _ (some .ret) _ hi3, hl4, hk4⟩, (hw2.trans hk3 (fun k _ h => hT k h)).trans (Keeps.putObj (S := fun k => ¬ own k) _ _ _ hLown) (fun _ _ h => h)⟩⟩
     | exit id =>
       obtain ⟨hk3, hi3⟩ := hp
       obtain ⟨hr, hs3, hl4, hk4⟩ := fin (some (.exit id)) W3 hk3
       exact ⟨_, _, hr, .inr ⟨rfl, ⟨.exit id, putx _ _ (some (.exit id)) _ hi3, hl4, hk4⟩, (hw2.trans hk3 (fun k _ h => hT k h)).trans (Keeps.putObj (S := fun k => ¬ own k) _ _ _ hLown) (fun _ _ h => h)⟩⟩
     | goto t =>
       obtain ⟨hk3, hi3⟩ := hp
       obtain ⟨hr, hs3, hl4, hk4⟩ := fin (some (.goto t)) W3 hk3
       exact ⟨_, _, hr, .inr ⟨rfl, ⟨.goto t, putx _ _ (some (.goto t)) _ hi3, hl4, hk4⟩, (hw2.trans hk3 (fun k _ h => hT k h)).trans (Keeps.putObj (S := fun k => ¬ own k) _ _ _ hLown) (fun _ _ h => h)⟩⟩
     | panic ch => exact hp.elim
     | outgrown => exact hp.elim
   · rintro e W2 ⟨⟨v, rfl⟩, (⟨xs, hS, ⟨hi, _⟩, hl, hk⟩ | ⟨pre, hSp, c, hi, hl, hk⟩)⟩
     · exact ⟨none, _, by have := run_endLoop (P := P) hl (by rw [hrec]; simp); rw [hrec] at this; exact this, hdone _ xs _ hS (hI _ _ _ hi (Keeps.putObj _ _ _ (.inr (.inr rfl)))) (Nat.le_refl _) ((World.putObj_heap_other (by omega)).trans hk)⟩
     · exact ⟨some c, _, by have := run_endLoop (P := P) hl (by rw [hrec]; simp); rw [hrec] at this; exact this, hstop _ c pre _ hSp (hIx _ _ _ _ hi (Keeps.putObj _ _ _ (.inr (.inr rfl)))) (Nat.le_refl _) ((World.putObj_heap_other (by omega)).trans hk)⟩
end
section
open Go.RowKit
theorem cells_crc : Tryz.prog.cellsOf 325 = 16 := by kernel_rfl
theorem cells_u32z : Tryz.prog.cellsOf 236 = 1 := by kernel_rfl
theorem gCrc : Tryz.prog.globalNamed "tsblock/crc.table" = some 1 := by kernel_rfl
theorem gCrcType : (Tryz.prog.globals[(1 : Nat)]?).map (·.type) = some 325 := by kernel_rfl
def crcList : List Nat := (List.range 16).map crcTab
end
end Go.Proofs.YtfpcgcbehdogjaaGreatDoor
