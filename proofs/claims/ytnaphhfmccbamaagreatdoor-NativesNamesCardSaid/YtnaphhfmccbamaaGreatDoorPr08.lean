/- The store (layer 8) as it stands in the world, and contracts of its small functions: Down, fail, fits, Get. Contracts of rms.load: names that may not be, a store that isn't there, one that is. Contracts of the store's fits and apply. Contract of the store's lay: a record's bytes and the byte 0 behind them are laid at the head. -/
import Derived.Test.YtnaphhfmccbamaaGreatDoorPr06
import Derived.Test.YtnaphhfmccbamaaGreatDoorPr07
import Derived.Test.YtnaphhfmccbamaaGreatDoorPr05
import Derived.Lib.ConvBytes
namespace Go.Proofs.YtnaphhfmccbamaaGreatDoor
open Go.RowKit

structure BS where
  F : FL
  secs : List Sec
  idx : List (ByteArray × Value)
  head : Int
  at_ : Nat
  txn : Nat
  seq : Nat
  down : Bool

def stCells (B : BS) (p g c m : Nat) : Array Value :=
  #[.pointer (some ⟨p, 0, none⟩), .int .i64 B.F.sectors, .int .i64 B.F.size, .int .i64 B.F.limit, .slice (some ⟨g, 0, none⟩) B.secs.length c, .map (some m), .int .i64 B.head, .int .i64 B.at_, .int .u32 B.txn, .int .u32 B.seq, .bool B.down]

/-- A store behind a pointer to block s: its flash p, pb, pw, its sectors g, its map m. -/
structure StoreAt (w : World) (s p pb pw g m : Nat) (B : BS) : Prop where
  fl : FlashAt w p pb pw B.F
  main : ∃ c, B.secs.length ≤ c ∧ Blk w s 98 (stCells B p g c m)
  secs : ∃ cs : Array Value, Blk w g 100 cs ∧ ∀ i (h : i < B.secs.length), cs[i * 3]? = some (.int .i64 B.secs[i].state) ∧ cs[i * 3 + 1]? = some (.int .u32 B.secs[i].seq) ∧ cs[i * 3 + 2]? = some (.int .i64 B.secs[i].erases)
  map : MapIs w m B.idx

section
variable {w w' : World} {s p pb pw g m : Nat} {B : BS} {S : Nat → Prop}
theorem StoreAt.kp (h : StoreAt w s p pb pw g m B) (k : Kp S w w') (h1 : ¬ S s) (h2 : ¬ S p) (h3 : ¬ S pb) (h4 : ¬ S pw) (h5 : ¬ S g) (h6 : ¬ S m) : StoreAt w' s p pb pw g m B := by
  obtain ⟨a, ⟨c, hc, b⟩, ⟨cs, d, e⟩, f⟩ := h
  exact ⟨a.kp k h2 h3 h4, ⟨c, hc, b.kp k h1⟩, ⟨cs, d.kp k h5, e⟩, f.kp k h6⟩
theorem StoreAt.below (h : StoreAt w s p pb pw g m B) (k : Below w.heap.size w w') : StoreAt w' s p pb pw g m B :=
  h.kp (Kp.of_below k (fun _ => False)) (fun x => x) (fun x => x) (fun x => x) (fun x => x) (fun x => x) (fun x => x)
theorem StoreAt.alloc (h : StoreAt w s p pb pw g m B) (o : Obj) : StoreAt (w.alloc o) s p pb pw g m B :=
  h.kp ((Kp.refl (fun _ => False) w).alloc o) (fun x => x) (fun x => x) (fun x => x) (fun x => x) (fun x => x) (fun x => x)
theorem StoreAt.drew (h : StoreAt w s p pb pw g m B) : StoreAt w.drew s p pb pw g m B := ⟨h.fl.drewN 1, h.main, h.secs, h.map⟩
theorem StoreAt.lts (h : StoreAt w s p pb pw g m B) : s < w.heap.size ∧ p < w.heap.size ∧ pb < w.heap.size ∧ pw < w.heap.size ∧ g < w.heap.size ∧ m < w.heap.size := by
  obtain ⟨⟨⟨_, _, _, _, a⟩, ⟨_, b, _⟩, ⟨_, c, _⟩⟩, ⟨_, _, d⟩, ⟨_, e, _⟩, f⟩ := h
  exact ⟨d.lt, a.lt, b.lt, c.lt, e.lt, f.lt⟩
/-- All blocks are apart. -/
theorem StoreAt.apart (h : StoreAt w s p pb pw g m B) : s ≠ p ∧ s ≠ pb ∧ s ≠ pw ∧ s ≠ g ∧ s ≠ m ∧ p ≠ pb ∧ p ≠ pw ∧ p ≠ g ∧ p ≠ m ∧ pb ≠ pw ∧ pb ≠ g ∧ pb ≠ m ∧ pw ≠ g ∧ pw ≠ m ∧ g ≠ m := by
  obtain ⟨⟨⟨_, _, _, _, a⟩, ⟨_, b, _⟩, ⟨_, c, _⟩⟩, ⟨_, _, d⟩, ⟨_, e, _⟩, f⟩ := h
  exact ⟨d.ne_ a (by decide), d.ne_ b (by decide), d.ne_ c (by decide), d.ne_ e (by decide), f.ne_blk d, a.ne_ b (by decide), a.ne_ c (by decide), a.ne_ e (by decide), f.ne_blk a, b.ne_ c (by decide), b.ne_ e (by decide), f.ne_blk b, c.ne_ e (by decide), f.ne_blk c, f.ne_blk e⟩
theorem st11 {t : TypeId} {a b c d e f g' h i j k : Value} (hb : Blk w s t #[a, b, c, d, e, f, g', h, i, j, k]) :
    w.cell? ⟨s, 0, none⟩ = some a ∧ w.cell? ⟨s, 1, none⟩ = some b ∧ w.cell? ⟨s, 2, none⟩ = some c ∧ w.cell? ⟨s, 3, none⟩ = some d ∧ w.cell? ⟨s, 4, none⟩ = some e ∧ w.cell? ⟨s, 5, none⟩ = some f ∧ w.cell? ⟨s, 6, none⟩ = some g' ∧ w.cell? ⟨s, 7, none⟩ = some h ∧ w.cell? ⟨s, 8, none⟩ = some i ∧ w.cell? ⟨s, 9, none⟩ = some j ∧ w.cell? ⟨s, 10, none⟩ = some k :=
  ⟨hb.cell 0, hb.cell 1, hb.cell 2, hb.cell 3, hb.cell 4, hb.cell 5, hb.cell 6, hb.cell 7, hb.cell 8, hb.cell 9, hb.cell 10⟩
theorem StoreAt.cells (h : StoreAt w s p pb pw g m B) : ∃ c, B.secs.length ≤ c ∧ Blk w s 98 (stCells B p g c m) ∧ s < w.heap.size ∧
    w.cell? ⟨s, 0, none⟩ = some (.pointer (some ⟨p, 0, none⟩)) ∧ w.cell? ⟨s, 1, none⟩ = some (.int .i64 B.F.sectors) ∧ w.cell? ⟨s, 2, none⟩ = some (.int .i64 B.F.size) ∧ w.cell? ⟨s, 3, none⟩ = some (.int .i64 B.F.limit) ∧
    w.cell? ⟨s, 4, none⟩ = some (.slice (some ⟨g, 0, none⟩) B.secs.length c) ∧ w.cell? ⟨s, 5, none⟩ = some (.map (some m)) ∧ w.cell? ⟨s, 6, none⟩ = some (.int .i64 B.head) ∧ w.cell? ⟨s, 7, none⟩ = some (.int .i64 B.at_) ∧
    w.cell? ⟨s, 8, none⟩ = some (.int .u32 B.txn) ∧ w.cell? ⟨s, 9, none⟩ = some (.int .u32 B.seq) ∧ w.cell? ⟨s, 10, none⟩ = some (.bool B.down) := by
  obtain ⟨c, hc, hb⟩ := h.main
  exact ⟨c, hc, hb, hb.lt, st11 hb⟩
theorem StoreAt.sec (h : StoreAt w s p pb pw g m B) {c : Nat} (hc : B.secs.length ≤ c) : SecAt (fun b => b = g) w (.slice (some ⟨g, 0, none⟩) B.secs.length c) B.secs := by
  obtain ⟨cs, hb, hcs⟩ := h.secs
  exact ⟨g, c, cs, rfl, hc, rfl, hb, hcs⟩
end

theorem Down_any (w : World) (s p pb pw g m : Nat) (B : BS) (h : StoreAt w s p pb pw g m B) :
    Calls Tryz.prog 148 #[.pointer (some ⟨s, 0, none⟩)] w fun e w' => e = .returned (.bool B.down) ∧ w = w' := by
  obtain ⟨c, hc, hb, hs, c0, c1, c2, c3, c4, c5, c6, c7, c8, c9, c10⟩ := h.cells
  clear h hb
  go_enter Tryz.func148, Tryz.ntmps148
  go_wp2
  go_ret
  exact ⟨rfl, rfl⟩

theorem fail_ok (w : World) (s p pb pw g m : Nat) (B : BS) (h : StoreAt w s p pb pw g m B) :
    Calls Tryz.prog 152 #[.pointer (some ⟨s, 0, none⟩), .int .i64 0] w fun e w' => e = .returned (.int .i64 0) ∧ StoreAt w' s p pb pw g m B ∧ Kp (fun k => k = s) w w' := by
  obtain ⟨c, hc, hb, hs, c0, c1, c2, c3, c4, c5, c6, c7, c8, c9, c10⟩ := h.cells
  have HS := Lib.hid h
  have HB := Lib.hid hb
  have hf := hb.frozen 10
  have fin : StoreAt (w.setCell ⟨s, 10, none⟩ (.bool B.down)) s p pb pw g m B ∧ Kp (fun k => k = s) w (w.setCell ⟨s, 10, none⟩ (.bool B.down)) := by
    have ha := h.apart
    have k : Kp (fun k => k = s) w (w.setCell ⟨s, 10, none⟩ (.bool B.down)) := Kp.set_ (S := fun k => k = s) (Kp.refl _ w) (.inl rfl) _
    obtain ⟨cs, d, e⟩ := h.secs
    refine ⟨⟨h.fl.kp k (Ne.symm ha.1) (Ne.symm ha.2.1) (Ne.symm ha.2.2.1), ⟨c, hc, ?_⟩, ⟨cs, d.kp k (Ne.symm ha.2.2.2.1), e⟩, h.map.kp k (Ne.symm ha.2.2.2.2.1)⟩, k⟩
    exact hb.set_ 10 (.bool B.down)
  clear h hb
  cases hd : B.down with
  | false =>
    rw [hd] at c10 fin
    have FIN := Lib.hid fin
    clear fin
    go_enter Tryz.func152, Tryz.ntmps152
    go_wp2
    go_ret
    exact ⟨rfl, FIN.out⟩
  | true =>
    rw [hd] at c10 fin
    have FIN := Lib.hid fin
    clear fin
    go_enter Tryz.func152, Tryz.ntmps152
    go_wp2
    go_ret
    exact ⟨rfl, FIN.out⟩

theorem zero_place (w : World) : (zeroValue 190).run Tryz.prog w = .ok (.agg #[.int .i64 0, .int .i64 0, .string ⟨#[]⟩]) w := by kernel_rfl

def placeV (sec at_ : Nat) (blob : ByteArray) : Value := .agg #[.int .i64 sec, .int .i64 at_, .string blob]

theorem conv_below (W : World) (e : TypeId) (s : ByteArray) : Below W.heap.size W (Lib.bytesWorld W e s) :=
  ⟨rfl, rfl, rfl, by rw [Lib.bytesWorld_size]; omega, fun k hk => Lib.bytesWorld_at_old W e s k hk⟩
theorem conv_sl (W : World) (e : TypeId) (s : ByteArray) : Sl (fun b => b = W.heap.size) (Lib.bytesWorld W e s) (.slice (some ⟨W.heap.size, 0, none⟩) s.size (grownCap W s.size 0 e)) (bytesV s.data.toList) := by
  have hl : (bytesV s.data.toList).length = s.size := by simp [bytesV]
  refine ⟨some ⟨W.heap.size, 0, none⟩, grownCap W s.size 0 e, by rw [hl], by rw [hl]; exact grownCap_ge W s.size 0 e, fun _ => ⟨_, 0, rfl, rfl, by rw [Lib.bytesWorld_size]; omega, fun i u hi => ?_⟩⟩
  have hlt : i < s.size := by rw [← hl]; exact (List.getElem?_eq_some_iff.1 hi).1
  rw [Nat.zero_add, Lib.bytesWorld_cell W e s i hlt, ← hi]
  have hlt' : i < s.data.toList.length := by simpa using hlt
  simp only [bytesV, List.getElem?_map, List.getElem?_eq_getElem hlt', Option.map_some, List.getD_eq_getElem?_getD, Option.getD_some]
  rfl

set_option maxRecDepth 100000 in
theorem Get_any (w : World) (s p pb pw g m : Nat) (B : BS) (h : StoreAt w s p pb pw g m B) (key : ByteArray) (a b : Nat) (blob : ByteArray) (f : Bool)
    (hk : (idxFind B.idx key).getD (placeV 0 0 ⟨#[]⟩) = placeV a b blob) (hf : (idxFind B.idx key).isSome = f) :
    Calls Tryz.prog 88 #[.pointer (some ⟨s, 0, none⟩), .string key] w fun e w' => ∃ v, e = .returned (.tuple #[v, .bool f]) ∧ Sl (fun b => w.heap.size ≤ b) w' v (bytesV blob.data.toList) ∧ Below w.heap.size w w' := by
  obtain ⟨c, hc, hb, hs, c0, c1, c2, c3, c4, c5, c6, c7, c8, c9, c10⟩ := h.cells
  have hl := map_look h.map Tryz.underlying95 Tryz.underlying9 (zero_place w) key
  have hk' : (idxFind B.idx key).getD (.agg #[.int .i64 0, .int .i64 0, .string ⟨#[]⟩]) = .agg #[.int .i64 a, .int .i64 b, .string blob] := hk
  rw [hk', hf] at hl
  have hcv := fun W : World => Lib.run_convert_string_bytes (P := Tryz.prog) W 9 31 5 blob Tryz.underlying9 Tryz.underlying31 Tryz.underlying5
  clear h hb hk hk' hf
  go_enter Tryz.func88, Tryz.ntmps88
  go_wp2
  go_ret2
  have key := conv_sl (w.alloc (.cells #[.int .i64 a, .int .i64 b, .string blob] 190)) 5 blob
  have hz : (w.alloc (.cells #[.int .i64 a, .int .i64 b, .string blob] 190)).heap.size = w.heap.size + 1 := by simp
  rw [hz] at key
  refine ⟨_, rfl, key.mono (fun q hq _ => by subst hq; omega), ?_⟩
  exact ((Kp.refl (fun _ => False) w).alloc _).below_trans (conv_below _ _ _) |>.below
end Go.Proofs.YtnaphhfmccbamaaGreatDoor

namespace Go.Proofs.YtnaphhfmccbamaaGreatDoor
open Go.RowKit

def zRec : Value := .agg #[.int .u32 0, .int .u32 0, .slice none 0 0]
theorem zero3 {w : World} {n : Nat} (h : Blk w n 39 #[.int .u32 0, .int .u32 0, .slice none 0 0]) :
    (w.cell? ⟨n, 0, none⟩ = some (.int .u32 0) ∧ w.cell? ⟨n, 1, none⟩ = some (.int .u32 0) ∧ w.cell? ⟨n, 2, none⟩ = some (.slice none 0 0)) ∧ w.frozen? ⟨n, 0, none⟩ = false ∧ w.frozen? ⟨n, 1, none⟩ = false ∧ w.frozen? ⟨n, 2, none⟩ = false :=
  ⟨⟨h.cell 0, h.cell 1, h.cell 2⟩, h.frozen 0, h.frozen 1, h.frozen 2⟩
/-- A record store's block is written anew. -/
theorem set3 {w : World} {n : Nat} {x y z : Value} (h : Blk w n 39 #[x, y, z]) (a b c : Value) :
    Blk (((w.setCell ⟨n, 0, none⟩ a).setCell ⟨n, 1, none⟩ b).setCell ⟨n, 2, none⟩ c) n 39 #[a, b, c] ∧ Kp (fun k => k = n) w (((w.setCell ⟨n, 0, none⟩ a).setCell ⟨n, 1, none⟩ b).setCell ⟨n, 2, none⟩ c) :=
  ⟨((h.set_ 0 a).set_ 1 b).set_ 2 c, Kp.set_ (S := fun b => b = n) (Kp.set_ (S := fun b => b = n) (Kp.set_ (S := fun b => b = n) (Kp.refl _ w) (.inl rfl) _) (.inl rfl) _) (.inl rfl) _⟩

theorem fin3 {w w1 : World} {n : Nat} {x y z : Value} (h : Blk w1 n 39 #[x, y, z]) (hk : Kp (fun _ => False) w w1) (hn : w.heap.size ≤ n) (a b c : Value) :
    ∃ W, (((w1.setCell ⟨n, 0, none⟩ a).setCell ⟨n, 1, none⟩ b).setCell ⟨n, 2, none⟩ c) = W ∧ Kp (fun _ => False) w W ∧ Kp (fun k => k = n) w1 W ∧ Blk W n 39 #[a, b, c] ∧ W.cell? ⟨n, 0, none⟩ = some a ∧ W.cell? ⟨n, 1, none⟩ = some b ∧ W.cell? ⟨n, 2, none⟩ = some c := by
  obtain ⟨hb, kk⟩ := set3 h a b c
  exact ⟨_, rfl, hk.trans kk (fun b hb hlt => by omega), kk, hb, hb.cell 0, hb.cell 1, hb.cell 2⟩

set_option maxRecDepth 100000 in
theorem load_name (w : World) (sv : Value) (suite name : ByteArray) (h : (nameB suite && nameB name) = false) :
    Calls Tryz.prog 60 #[sv, .string suite, .string name] w fun e w' => e = .returned (.tuple #[zRec, .int .i64 13]) ∧ Below w.heap.size w w' := by
  have HB0 : Hid (Blk (w.alloc (.cells #[.int .u32 0, .int .u32 0, .slice none 0 0] 39)) w.heap.size 39 #[.int .u32 0, .int .u32 0, .slice none 0 0]) := Lib.hid (Blk.at_top rfl)
  have HK0 : Hid (Kp (fun _ => False) w (w.alloc (.cells #[.int .u32 0, .int .u32 0, .slice none 0 0] 39))) := Lib.hid ((Kp.refl _ w).alloc _)
  have HN := Lib.hid (IsName_any name)
  have HS := Lib.hid (IsName_any suite)
  unfold zRec
  cases h1 : nameB suite with
  | false =>
    rw [h1] at HS
    clear h1 h
    go_enter Tryz.func60, Tryz.ntmps60
    go_wp2_with fail
    refine (HS.out _).mono ?_
    rintro e w1 ⟨rfl, hb1⟩
    have HK1 := Lib.hid (HK0.out.below_trans hb1)
    have hB := HB0.out.kp (Kp.of_below hb1 (fun _ => False)) (fun x => x)
    have HB := Lib.hid hB
    obtain ⟨⟨z0, z1, z2⟩, f0, f1, f2⟩ := zero3 hB
    have hl := hB.lt
    clear hb1 hB
    go_wp2_with fail
    obtain ⟨W5, hW5, hK5, _, _, y0, y1, y2⟩ := fin3 HB.out HK1.out (Nat.le_refl _) (.int .u32 0) (.int .u32 0) (.slice none 0 0)
    rw [hW5]
    exact bodyPost_ret (v := .tuple #[.agg #[.int .u32 0, .int .u32 0, .slice none 0 0], .int .i64 13]) (by simp [results, Tryz.results60, go_sem, y0, y1, y2]) rfl ⟨rfl, hK5.below⟩
  | true =>
    have h2 : nameB name = false := by simpa [h1] using h
    rw [h1] at HS
    rw [h2] at HN
    clear h1 h2 h
    go_enter Tryz.func60, Tryz.ntmps60
    go_wp2_with fail
    refine (HS.out _).mono ?_
    rintro e w1 ⟨rfl, hb1⟩
    have HK1 := Lib.hid (HK0.out.below_trans hb1)
    have HB1 := Lib.hid (HB0.out.kp (Kp.of_below hb1 (fun _ => False)) (fun x => x))
    clear hb1
    go_wp2_with fail
    refine (HN.out _).mono ?_
    rintro e w2 ⟨rfl, hb2⟩
    have HK2 := Lib.hid (HK1.out.below_trans hb2)
    have hB := HB1.out.kp (Kp.of_below hb2 (fun _ => False)) (fun x => x)
    have HB := Lib.hid hB
    obtain ⟨⟨z0, z1, z2⟩, f0, f1, f2⟩ := zero3 hB
    have hl := hB.lt
    clear hb2 hB
    go_wp2_with fail
    obtain ⟨W5, hW5, hK5, _, _, y0, y1, y2⟩ := fin3 HB.out HK2.out (Nat.le_refl _) (.int .u32 0) (.int .u32 0) (.slice none 0 0)
    rw [hW5]
    exact bodyPost_ret (v := .tuple #[.agg #[.int .u32 0, .int .u32 0, .slice none 0 0], .int .i64 13]) (by simp [results, Tryz.results60, go_sem, y0, y1, y2]) rfl ⟨rfl, hK5.below⟩

theorem nameB_size {s : ByteArray} (h : nameB s = true) : 1 ≤ s.size ∧ s.size ≤ 16 := by
  simp only [nameB, Bool.and_eq_true, decide_eq_true_eq] at h
  exact h.1
set_option maxRecDepth 100000 in
theorem load_missing (w : World) (s p pb pw g m : Nat) (B : BS) (h : StoreAt w s p pb pw g m B) (suite name : ByteArray) (h1 : nameB suite = true) (h2 : nameB name = true) (hm : idxFind B.idx (keyS suite name) = none) :
    Calls Tryz.prog 60 #[.pointer (some ⟨s, 0, none⟩), .string suite, .string name] w fun e w' => e = .returned (.tuple #[zRec, .int .i64 11]) ∧ Below w.heap.size w w' := by
  have HST := Lib.hid h
  have HB0 : Hid (Blk (w.alloc (.cells #[.int .u32 0, .int .u32 0, .slice none 0 0] 39)) w.heap.size 39 #[.int .u32 0, .int .u32 0, .slice none 0 0]) := Lib.hid (Blk.at_top rfl)
  have HK0 : Hid (Kp (fun _ => False) w (w.alloc (.cells #[.int .u32 0, .int .u32 0, .slice none 0 0] 39))) := Lib.hid ((Kp.refl _ w).alloc _)
  have HN := Lib.hid (IsName_any name)
  have HS := Lib.hid (IsName_any suite)
  have z1 := nameB_size h1
  have z2 := nameB_size h2
  have HG : Hid (∀ W, StoreAt W s p pb pw g m B → Calls Tryz.prog 88 #[.pointer (some ⟨s, 0, none⟩), .string (keyS suite name)] W fun e w' => ∃ v, e = .returned (.tuple #[v, .bool false]) ∧ Sl (fun b => W.heap.size ≤ b) w' v (bytesV (⟨#[]⟩ : ByteArray).data.toList) ∧ Below W.heap.size W w') :=
    Lib.hid fun W hW => Get_any W s p pb pw g m B hW (keyS suite name) 0 0 ⟨#[]⟩ false (by rw [hm]; rfl) (by rw [hm]; rfl)
  unfold zRec
  rw [h1] at HS
  rw [h2] at HN
  clear h1 h2 h hm
  go_enter Tryz.func60, Tryz.ntmps60
  go_wp2_with fail
  refine (HS.out _).mono ?_
  rintro e w1 ⟨rfl, hb1⟩
  have HK1 := Lib.hid (HK0.out.below_trans hb1)
  have HB1 := Lib.hid (HB0.out.kp (Kp.of_below hb1 (fun _ => False)) (fun x => x))
  clear hb1
  go_wp2_with fail
  refine (HN.out _).mono ?_
  rintro e w2 ⟨rfl, hb2⟩
  have HK2 := Lib.hid (HK1.out.below_trans hb2)
  have HB2 := Lib.hid (HB1.out.kp (Kp.of_below hb2 (fun _ => False)) (fun x => x))
  clear hb2
  go_wp2_with fail
  refine (Key_any suite name (by omega) (by omega) w2).mono ?_
  rintro e w3 ⟨rfl, hw3⟩
  obtain rfl : w2 = w3 := hw3
  go_wp2_with fail
  refine (HG.out w2 (HST.out.below HK2.out.below)).mono ?_
  rintro e w4 ⟨v, rfl, hs4, hb4⟩
  obtain ⟨vA, vc, rfl, _⟩ := hs4.form
  have HK4 := Lib.hid (HK2.out.below_trans hb4)
  have hB := HB2.out.kp (Kp.of_below hb4 (fun _ => False)) (fun x => x)
  have HB := Lib.hid hB
  obtain ⟨⟨z0, z1, z2⟩, f0, f1, f2⟩ := zero3 hB
  have hl := hB.lt
  clear hb4 hB hs4
  go_wp2_with fail
  obtain ⟨W5, hW5, hK5, _, _, y0, y1, y2⟩ := fin3 HB.out HK4.out (Nat.le_refl _) (.int .u32 0) (.int .u32 0) (.slice none 0 0)
  rw [hW5]
  exact bodyPost_ret (v := .tuple #[.agg #[.int .u32 0, .int .u32 0, .slice none 0 0], .int .i64 11]) (by simp [results, Tryz.results60, go_sem, y0, y1, y2]) rfl ⟨rfl, hK5.below⟩

set_option maxRecDepth 100000 in
theorem load_ok (w : World) (s p pb pw g m : Nat) (B : BS) (h : StoreAt w s p pb pw g m B) (suite name : ByteArray) (h1 : nameB suite = true) (h2 : nameB name = true) (r : Rc) (hr : RcOk r) (a b : Nat) (hm : idxFind B.idx (keyS suite name) = some (placeV a b ⟨(rcB r).toArray⟩)) :
    Calls Tryz.prog 60 #[.pointer (some ⟨s, 0, none⟩), .string suite, .string name] w fun e w' => ∃ lv, e = .returned (.tuple #[rcV r lv, .int .i64 0]) ∧ EntsO (fun b => w.heap.size ≤ b) w.heap.size w' lv r.list ∧ Below w.heap.size w w' := by
  have HST := Lib.hid h
  have HR := Lib.hid hr
  have HB0 : Hid (Blk (w.alloc (.cells #[.int .u32 0, .int .u32 0, .slice none 0 0] 39)) w.heap.size 39 #[.int .u32 0, .int .u32 0, .slice none 0 0]) := Lib.hid (Blk.at_top rfl)
  have HK0 : Hid (Kp (fun _ => False) w (w.alloc (.cells #[.int .u32 0, .int .u32 0, .slice none 0 0] 39))) := Lib.hid ((Kp.refl _ w).alloc _)
  have HN := Lib.hid (IsName_any name)
  have HS := Lib.hid (IsName_any suite)
  have z1 := nameB_size h1
  have z2 := nameB_size h2
  have HG : Hid (∀ W, StoreAt W s p pb pw g m B → Calls Tryz.prog 88 #[.pointer (some ⟨s, 0, none⟩), .string (keyS suite name)] W fun e w' => ∃ v, e = .returned (.tuple #[v, .bool true]) ∧ Sl (fun b => W.heap.size ≤ b) w' v (bytesV (rcB r)) ∧ Below W.heap.size W w') :=
    Lib.hid fun W hW => by
      have := Get_any W s p pb pw g m B hW (keyS suite name) a b ⟨(rcB r).toArray⟩ true (by rw [hm]; rfl) (by rw [hm]; rfl)
      simpa using this
  rw [h1] at HS
  rw [h2] at HN
  clear h1 h2 h hm hr
  go_enter Tryz.func60, Tryz.ntmps60
  go_wp2_with fail
  refine (HS.out _).mono ?_
  rintro e w1 ⟨rfl, hb1⟩
  have HK1 := Lib.hid (HK0.out.below_trans hb1)
  have HB1 := Lib.hid (HB0.out.kp (Kp.of_below hb1 (fun _ => False)) (fun x => x))
  clear hb1
  go_wp2_with fail
  refine (HN.out _).mono ?_
  rintro e w2 ⟨rfl, hb2⟩
  have HK2 := Lib.hid (HK1.out.below_trans hb2)
  have HB2 := Lib.hid (HB1.out.kp (Kp.of_below hb2 (fun _ => False)) (fun x => x))
  clear hb2
  go_wp2_with fail
  refine (Key_any suite name (by omega) (by omega) w2).mono ?_
  rintro e w3 ⟨rfl, hw3⟩
  obtain rfl : w2 = w3 := hw3
  go_wp2_with fail
  refine (HG.out w2 (HST.out.below HK2.out.below)).mono ?_
  rintro e w4 ⟨v, rfl, hs4, hb4⟩
  obtain ⟨vA, vc, rfl, _⟩ := hs4.form
  have HS4 := Lib.hid hs4
  rw [bytesV_length] at HS4
  have HK4 := Lib.hid (HK2.out.below_trans hb4)
  have HB4 := Lib.hid (HB2.out.kp (Kp.of_below hb4 (fun _ => False)) (fun x => x))
  clear hb4 hs4
  go_wp2_with fail
  refine (rmsParse_ok r HR.out w4 _ _ HS4.out).mono ?_
  rintro e w5 ⟨lv, rfl, he5, hb5⟩
  unfold rcV
  have HK5 := Lib.hid (HK4.out.below_trans hb5)
  have hB := HB4.out.kp (Kp.of_below hb5 (fun _ => False)) (fun x => x)
  have HB := Lib.hid hB
  have HE5 := Lib.hid he5
  have hz4 : w.heap.size < w4.heap.size := HB4.out.lt
  obtain ⟨⟨z0, z1, z2⟩, f0, f1, f2⟩ := zero3 hB
  have hl := hB.lt
  obtain ⟨LA, Lc, rfl, _⟩ := (he5.reads (ok' := fun _ => True) (fun _ _ _ => trivial) (fun _ _ _ => trivial)).form
  clear hb5 hB he5
  go_wp2_with fail
  obtain ⟨W5, hW5, hK5, hk5, _, y0, y1, y2⟩ := fin3 HB.out HK5.out (Nat.le_refl _) (.int .u32 r.next) (.int .u32 r.ver) (.slice LA r.list.length Lc)
  rw [hW5]
  exact bodyPost_ret (v := .tuple #[.agg #[.int .u32 r.next, .int .u32 r.ver, .slice LA r.list.length Lc], .int .i64 0]) (by simp [results, Tryz.results60, go_sem, y0, y1, y2]) rfl ⟨_, rfl, ((HE5.out.kp hk5 (fun b hb _ => by omega) (fun b hb _ => by omega)).mono (by omega) (fun b hb _ => by omega)), hK5.below⟩
end Go.Proofs.YtnaphhfmccbamaaGreatDoor

namespace Go.Proofs.YtnaphhfmccbamaaGreatDoor
open Go.RowKit

theorem fits_none (w : World) (s p pb pw g m : Nat) (B : BS) (h : StoreAt w s p pb pw g m B) (hh : B.head = -1) (n : Nat) :
    Calls Tryz.prog 170 #[.pointer (some ⟨s, 0, none⟩), .int .i64 n] w fun e w' => e = .returned (.bool false) ∧ Below w.heap.size w w' := by
  obtain ⟨c, hc, hb, hs, c0, c1, c2, c3, c4, c5, c6, c7, c8, c9, c10⟩ := h.cells
  rw [hh] at c6
  clear h hb
  go_enter Tryz.func170, Tryz.ntmps170
  go_wp2_with fail
  go_quiet (fail)
  go_wp2
  go_ret
  exact ⟨rfl, Kp.below ((Kp.refl _ w).drewN _)⟩

theorem fits_some (w : World) (s p pb pw g m : Nat) (B : BS) (h : StoreAt w s p pb pw g m B) (hd : Nat) (hh : B.head = hd) (h1 : B.at_ ≤ 1000000) (_h2 : B.F.size ≤ 1000000) (n : Nat) (hn : n ≤ 1000000) :
    Calls Tryz.prog 170 #[.pointer (some ⟨s, 0, none⟩), .int .i64 n] w fun e w' => e = .returned (.bool (decide (B.at_ + n ≤ B.F.size))) ∧ Below w.heap.size w w' := by
  obtain ⟨c, hc, hb, hs, c0, c1, c2, c3, c4, c5, c6, c7, c8, c9, c10⟩ := h.cells
  rw [hh] at c6
  have t0 : ((hd : Int) != -1) = true := bne_iff_ne.2 (by omega)
  have t1 : IntKind.i64.wrap ((B.at_ : Int) + (n : Int)) = (B.at_ : Int) + (n : Int) := by rw [IntKind.wrap_i64]; omega
  have t3 : decide ((B.at_ : Int) + (n : Int) ≤ (B.F.size : Int)) = decide (B.at_ + n ≤ B.F.size) := decide_eq_decide.2 (by omega)
  clear h hb
  go_enter Tryz.func170, Tryz.ntmps170
  go_wp2_with fail
  go_quiet (fail)
  go_wp2
  go_ret
  exact ⟨by rw [← t3]; rfl, Kp.below ((Kp.refl _ w).drewN _)⟩

theorem Sl.conv {ok : Nat → Prop} {w : World} {v : Value} {l : List UInt8} (h : Sl ok w v (bytesV l)) : (convert 31 9 v).run Tryz.prog w = .ok (.string ⟨l.toArray⟩) w := by
  by_cases h0 : l = []
  · subst h0
    obtain ⟨A, c, rfl, _⟩ := h.form
    show (convert _ _ (.slice A 0 c)).run _ w = _
    rw [run_convert_bytes_string w 31 9 5 A 0 c Tryz.underlying31 Tryz.underlying5 Tryz.underlying9]
    cases A <;> rfl
  · obtain ⟨b, o, c, rfl, _, _, _, hc⟩ := h.form_pos (by rw [bytesV_length]; exact List.length_pos_iff.2 h0)
    rw [bytesV_length]
    refine run_convert_bytes_back w 31 9 5 ⟨b, o, none⟩ c l Tryz.underlying31 Tryz.underlying5 Tryz.underlying9 (fun j hj => ?_)
    have := hc j (byteV l[j]) (by simp [bytesV, List.getElem?_eq_getElem hj])
    rw [show (⟨b, o, none⟩ : Addr).add j = ⟨b, o + j, none⟩ by unfold Addr.add; split <;> simp_all]
    exact this
theorem cells6 {w : World} {n : Nat} {t : TypeId} {a b c d e f : Value} (h : Blk w n t #[a, b, c, d, e, f]) : w.cell? ⟨n, 0, none⟩ = some a ∧ w.cell? ⟨n, 1, none⟩ = some b ∧ w.cell? ⟨n, 2, none⟩ = some c ∧ w.cell? ⟨n, 3, none⟩ = some d ∧ w.cell? ⟨n, 4, none⟩ = some e ∧ w.cell? ⟨n, 5, none⟩ = some f :=
  ⟨h.cell 0, h.cell 1, h.cell 2, h.cell 3, h.cell 4, h.cell 5⟩
theorem put_store {w W W' : World} {s p pb pw g m : Nat} {B : BS} {l : List (ByteArray × Value)} (_h0 : StoreAt w s p pb pw g m B) (h : StoreAt W s p pb pw g m B) (k : Kp (fun _ => False) w W) (hm : MapIs W' m l) (hk : Kp (fun b => b = m) W W') :
    StoreAt W' s p pb pw g m { B with idx := l } ∧ Kp (fun b => b = m) w W' := by
  obtain ⟨_, _, _, _, a1, _, _, _, a2, _, _, a3, _, a4, a5⟩ := h.apart
  obtain ⟨c, hc, hb⟩ := h.main
  obtain ⟨cs, d, e⟩ := h.secs
  exact ⟨⟨h.fl.kp hk a2 a3 a4, ⟨c, hc, hb.kp hk a1⟩, ⟨cs, d.kp hk a5, e⟩, hm⟩, (k.mono (fun _ q => q.elim)).trans hk (fun _ q _ => q)⟩

def foundV (at_ kind txn : Nat) (key : ByteArray) (bv : Value) (cnt : Nat) : Value := .agg #[.int .i64 at_, .int .i64 kind, .int .u32 txn, .string key, bv, .int .i64 cnt]
set_option maxRecDepth 100000 in
set_option maxHeartbeats 4000000 in
theorem apply_put (w : World) (s p pb pw g m : Nat) (B : BS) (h : StoreAt w s p pb pw g m B) (sec at_ kind txn : Nat) (hkind : kind ≠ 2) (key : ByteArray) (bv : Value) (cnt : Nat) (ok : Nat → Prop) (blob : List UInt8) (hv : Sl ok w bv (bytesV blob)) :
    Calls Tryz.prog 111 #[.pointer (some ⟨s, 0, none⟩), .int .i64 sec, foundV at_ kind txn key bv cnt] w fun e w' => e = .returned (.tuple #[]) ∧ StoreAt w' s p pb pw g m { B with idx := idxPut B.idx key (placeV sec at_ ⟨blob.toArray⟩) } ∧ Kp (fun b => b = m) w w' := by
  have HS := Lib.hid h
  have HV := Lib.hid hv
  clear hv
  have t0 : ((kind : Int) == 2) = false := beq_eq_false_iff_ne.2 (by omega)
  unfold foundV
  go_enter Tryz.func111, Tryz.ntmps111
  go_wp2_with fail
  refine region_turn_all (by kernel_rfl) (fun i => [Value.pointer (some ⟨s, 0, none⟩), .pointer (some ⟨s, 0, none⟩), .pointer (some ⟨s, 5, none⟩), .map (some m), .pointer (some ⟨w.heap.size, 1, none⟩), .pointer (some ⟨w.heap.size, 3, none⟩), .string key, .int .i64 sec, .pointer (some ⟨w.heap.size, 0, none⟩), .int .i64 at_, .pointer (some ⟨w.heap.size, 1, none⟩), .pointer (some ⟨w.heap.size, 4, none⟩), bv, .string ⟨blob.toArray⟩, .agg #[.int .i64 sec, .int .i64 at_, .string ⟨blob.toArray⟩], undef].getD i undef) 15 (fun W => StoreAt W s p pb pw g m B ∧ Blk W w.heap.size 185 #[.int .i64 at_, .int .i64 kind, .int .u32 txn, .string key, bv, .int .i64 cnt] ∧ Sl ok W bv (bytesV blob) ∧ Kp (fun _ => False) w W) (fun W => StoreAt W s p pb pw g m { B with idx := idxPut B.idx key (.agg #[.int .i64 sec, .int .i64 at_, .string ⟨blob.toArray⟩]) } ∧ Kp (fun b => b = m) w W) (by kernel_rfl) (by kernel_rfl) (by kernel_rfl) ?h0 ?hops ?hend
  case h0 => exact ⟨(HS.out.alloc _).drew, (Blk.at_top rfl).drew, (HV.out.kp ((Kp.refl (fun _ => False) w).alloc _) (fun _ _ _ x => x)).drewN 1, ((Kp.refl _ w).alloc _).drew⟩
  case hops =>
    refine ⟨?_, ?_, ?_, ?_, ?_, ?_, ?_, ?_, ?_, ?_, ?_, ?_, ?_, ?_, ?_, ?_, trivial⟩
    all_goals intro L b W hL hS K hK
    · have q1 := hL.old_ 0 (by kernel_rfl)
      simp at q1
      go_simp
      exact hK _ hS
    · have q1 := hL.dep 0 17 (by kernel_rfl)
      simp at q1
      go_simp
      exact hK _ hS
    · have q1 := hL.dep 1 18 (by kernel_rfl)
      simp at q1
      go_simp
      exact hK _ hS
    · have q1 := hL.dep 2 19 (by kernel_rfl)
      simp at q1
      obtain ⟨_, _, _, _, _, _, _, _, _, c5, _⟩ := hS.1.cells
      go_simp
      exact hK _ hS
    · have q1 := hL.old_ 5 (by kernel_rfl)
      simp at q1
      go_simp
      exact hK _ hS
    · have q1 := hL.dep 4 21 (by kernel_rfl)
      simp at q1
      go_simp
      exact hK _ hS
    · have q1 := hL.dep 5 22 (by kernel_rfl)
      simp at q1
      obtain ⟨x0, x1, x2, x3, x4, x5⟩ := cells6 hS.2.1
      go_simp
      exact hK _ hS
    · have q1 := hL.old_ 1 (by kernel_rfl)
      simp at q1
      go_simp
      exact hK _ hS
    · have q1 := hL.old_ 5 (by kernel_rfl)
      simp at q1
      go_simp
      exact hK _ hS
    · have q1 := hL.dep 8 25 (by kernel_rfl)
      simp at q1
      obtain ⟨x0, x1, x2, x3, x4, x5⟩ := cells6 hS.2.1
      go_simp
      exact hK _ hS
    · have q1 := hL.old_ 5 (by kernel_rfl)
      simp at q1
      go_simp
      exact hK _ hS
    · have q1 := hL.dep 10 27 (by kernel_rfl)
      simp at q1
      go_simp
      exact hK _ hS
    · have q1 := hL.dep 11 28 (by kernel_rfl)
      simp at q1
      obtain ⟨x0, x1, x2, x3, x4, x5⟩ := cells6 hS.2.1
      go_simp
      exact hK _ hS
    · have q1 := hL.dep 12 29 (by kernel_rfl)
      simp at q1
      have hcv := hS.2.2.1.conv
      go_simp
      exact hK _ hS
    · have q1 := hL.dep 7 24 (by kernel_rfl)
      have q2 := hL.dep 9 26 (by kernel_rfl)
      have q3 := hL.dep 13 30 (by kernel_rfl)
      simp at q1 q2 q3
      go_simp
      exact hK _ hS
    · have q1 := hL.dep 3 20 (by kernel_rfl)
      have q2 := hL.dep 6 23 (by kernel_rfl)
      have q3 := hL.dep 14 31 (by kernel_rfl)
      simp at q1 q2 q3
      obtain ⟨w', hrun, hm, hk⟩ := map_put hS.1.map Tryz.underlying95 Tryz.underlying9 key (.agg #[.int .i64 sec, .int .i64 at_, .string ⟨blob.toArray⟩])
      go_simp
      exact hK _ (put_store h hS.1 hS.2.2.2 hm hk)
  case hend =>
    intro W hS
    simp only [putList_cons, putList_nil]
    go_simp
    go_wp2
    exact bodyPost_end (results_none rfl _ _ _) rfl ⟨rfl, hS⟩
end Go.Proofs.YtnaphhfmccbamaaGreatDoor

namespace Go.Proofs.YtnaphhfmccbamaaGreatDoor
open Go.RowKit

theorem store_flash {w w' : World} {s p pb pw g m : Nat} {B : BS} {F' : FL} (h : StoreAt w s p pb pw g m B) (hf : FlashAt w' p pb pw F') (k : Kp (fun b => b = pb) w w') (h1 : F'.sectors = B.F.sectors) (h2 : F'.size = B.F.size) (h3 : F'.limit = B.F.limit) :
    StoreAt w' s p pb pw g m { B with F := F' } := by
  obtain ⟨_, a1, _, _, _, _, _, _, _, _, a2, a3, _, _, _⟩ := h.apart
  obtain ⟨c, hc, hb⟩ := h.main
  obtain ⟨cs, d, e⟩ := h.secs
  refine ⟨hf, ⟨c, hc, ?_⟩, ⟨cs, d.kp k (Ne.symm a2), e⟩, h.map.kp k (Ne.symm a3)⟩
  have := hb.kp k a1
  unfold stCells at this ⊢
  simp only [h1, h2, h3]
  exact this
theorem store_set {w : World} {s p pb pw g m : Nat} {B : BS} (h : StoreAt w s p pb pw g m B) (i : Nat) (u : Value) (B' : BS) (hF : B'.F = B.F) (hs : B'.secs = B.secs) (hi : B'.idx = B.idx) (hc : ∀ c, (stCells B p g c m).setIfInBounds i u = stCells B' p g c m) :
    StoreAt (w.setCell ⟨s, i, none⟩ u) s p pb pw g m B' ∧ Kp (fun k => k = s) w (w.setCell ⟨s, i, none⟩ u) := by
  have ha := h.apart
  have k : Kp (fun k => k = s) w (w.setCell ⟨s, i, none⟩ u) := Kp.set_ (S := fun k => k = s) (Kp.refl _ w) (.inl rfl) _
  obtain ⟨cs, d, e⟩ := h.secs
  obtain ⟨c, hcc, hb⟩ := h.main
  obtain ⟨F, secs, idx, x4, x5, x6, x7, x8⟩ := B
  obtain ⟨F', secs', idx', y4, y5, y6, y7, y8⟩ := B'
  simp only at hF hs hi
  subst hF hs hi
  refine ⟨⟨h.fl.kp k (Ne.symm ha.1) (Ne.symm ha.2.1) (Ne.symm ha.2.2.1), ⟨c, hcc, ?_⟩, ⟨cs, d.kp k (Ne.symm ha.2.2.2.1), e⟩, h.map.kp k (Ne.symm ha.2.2.2.2.1)⟩, k⟩
  have := hb.set_ i u
  rw [hc c] at this
  exact this

def FL.laid (F : FL) (pos : Nat) (d : List UInt8) : FL := (F.put pos d).put (pos + d.length) [0]

set_option maxRecDepth 100000 in
set_option maxHeartbeats 4000000 in
theorem lay_ok (w : World) (s p pb pw g m : Nat) (B : BS) (h : StoreAt w s p pb pw g m B) (hd : B.F.down = false) (hfu : B.F.fuse < 0) (hn : Nat) (hh : B.head = hn) (hlt : hn < B.F.sectors) (hsec : B.F.sectors ≤ 64) (hsz : B.F.size ≤ 65536)
    (hlen : B.F.b.length = B.F.sectors * B.F.size) (kind txn cnt : Nat) (hk : kind ≤ 3) (htx : txn < 4294967296) (hcn : cnt ≤ 16) (key : ByteArray) (hks : key.size ≤ 64) (blob : List UInt8) (hbl : blob.length ≤ 4096)
    (hfit : B.at_ + (16 + key.size + blob.length) ≤ B.F.size) (hff : Ff B.F.b (hn * B.F.size + B.at_) (hn * B.F.size + B.F.size)) (ok : Nat → Prop) (bv : Value) (hv : Sl ok w bv (bytesV blob))
    (hr : ∀ W, Calls Tryz.prog 158 #[recV kind txn key bv cnt, .int .i64 key.size, .int .i64 blob.length] W fun e w' => e = .returned (.bool true) ∧ Below W.heap.size W w') :
    Calls Tryz.prog 172 #[.pointer (some ⟨s, 0, none⟩), recV kind txn key bv cnt] w fun e w' =>
      e = .returned (.tuple #[foundV B.at_ kind txn key bv cnt, .int .i64 0]) ∧
      StoreAt w' s p pb pw g m { B with F := B.F.laid (hn * B.F.size + B.at_) (recL kind txn cnt key.data.toList blob), at_ := B.at_ + (16 + key.size + blob.length) } ∧ Kp (fun b => b = pb ∨ b = s) w w' := by
  obtain ⟨bA, bc, rfl, hbc⟩ := hv.form
  rw [bytesV_length] at hr hv hbc ⊢
  have HR := Lib.hid hr
  have HV := Lib.hid hv
  have HS := Lib.hid h
  obtain ⟨c, hc, hb, hs, c0, c1, c2, c3, c4, c5, c6, c7, c8, c9, c10⟩ := h.cells
  obtain ⟨hwl, _, hpbl, _⟩ := h.lts
  clear hwl
  clear hr hv h hb
  unfold recV at HR ⊢
  unfold foundV
  have hLn : (recL kind txn cnt key.data.toList blob).length = 15 + key.size + blob.length := by rw [recL_length]; rfl
  obtain ⟨L, HL⟩ : ∃ L, Hid (recL kind txn cnt key.data.toList blob = L) := ⟨_, Lib.hid rfl⟩
  rw [HL.out] at hLn ⊢
  obtain ⟨n, hLn', hnn⟩ : ∃ n, L.length = n ∧ n = 15 + key.size + blob.length := ⟨_, rfl, hLn⟩
  clear hLn
  obtain ⟨q, hq, t1⟩ : ∃ q : Nat, hn * B.F.size = q ∧ IntKind.i64.wrap ((hn : Int) * (B.F.size : Int)) = (q : Int) := by
    refine ⟨hn * B.F.size, rfl, ?_⟩
    have : hn * B.F.size ≤ 64 * 65536 := Nat.mul_le_mul (by omega) hsz
    rw [← Int.natCast_mul, IntKind.wrap_i64]
    omega
  have hqb : q + B.F.size ≤ B.F.b.length := by
    rw [hlen, ← hq]
    calc hn * B.F.size + B.F.size = (hn + 1) * B.F.size := by rw [Nat.add_mul, Nat.one_mul]
      _ ≤ _ := Nat.mul_le_mul_right _ hlt
  have hbig : B.F.b.length ≤ 4194304 := by
    rw [hlen]
    exact Nat.le_trans (Nat.mul_le_mul hsec hsz) (by omega)
  rw [hq] at hff ⊢
  obtain ⟨pos, hpos, t2⟩ : ∃ pos : Nat, q + B.at_ = pos ∧ IntKind.i64.wrap ((q : Int) + (B.at_ : Int)) = (pos : Int) := by
    refine ⟨q + B.at_, rfl, ?_⟩
    rw [IntKind.wrap_i64]
    omega
  rw [hpos] at hff ⊢
  obtain ⟨pos2, hpos2, t3⟩ : ∃ pos2 : Nat, pos + n = pos2 ∧ IntKind.i64.wrap ((pos : Int) + (n : Int)) = (pos2 : Int) := by
    refine ⟨pos + n, rfl, ?_⟩
    rw [IntKind.wrap_i64]
    omega
  have t4 : IntKind.i64.wrap ((n : Int) + 1) = ((n + 1 : Nat) : Int) := by rw [IntKind.wrap_i64]; omega
  obtain ⟨fin, hfin, t5⟩ : ∃ fin : Nat, B.at_ + (16 + key.size + blob.length) = fin ∧ IntKind.i64.wrap ((B.at_ : Int) + ((n : Int) + 1)) = (fin : Int) := by
    refine ⟨_, rfl, ?_⟩
    rw [IntKind.wrap_i64]
    omega
  rw [hfin]
  rw [hh] at c6
  have hnb : n ≤ 4175 ∧ 15 ≤ n ∧ B.at_ + (n + 1) ≤ B.F.size ∧ B.at_ + (n + 1) = fin := by omega
  have HNN := Lib.hid hnn
  clear hnn hfit
  go_enter Tryz.func172, Tryz.ntmps172
  go_wp2_with fail
  have HV0 := (HV.out.kp (((Kp.refl (fun _ => False) w).alloc (.cells #[.int .i64 kind, .int .u32 txn, .string key, .slice bA blob.length bc, .int .i64 cnt] 183)).alloc (.cells #[.int .i64 0, .int .i64 0, .int .u32 0, .string ⟨#[]⟩, .slice none 0 0, .int .i64 0] 185)) (fun _ _ _ x => x))
  refine (recBytes_ok kind txn cnt hk htx hcn key hks blob hbl _ ok _ HV0 HR.out).mono ?_
  rintro e w1 ⟨r, rfl, hsl, hb1⟩
  rw [HL.out] at hsl
  obtain ⟨A, c', rfl, hc'⟩ := hsl.form
  rw [bytesV_length, hLn'] at hc'
  rw [bytesV_length, hLn'] at hsl
  rw [bytesV_length, hLn']
  have HSL := Lib.hid hsl
  clear hsl
  have BB1 : Blk w1 w.heap.size 183 #[.int .i64 kind, .int .u32 txn, .string key, .slice bA blob.length bc, .int .i64 cnt] := Blk.kp (((Blk.at_top rfl : Blk (w.alloc (.cells #[.int .i64 kind, .int .u32 txn, .string key, .slice bA blob.length bc, .int .i64 cnt] 183)) w.heap.size 183 _)).alloc _) (Kp.of_below hb1 (fun _ => False)) (fun x => x)
  have BB2 : Blk w1 (w.heap.size + 1) 185 #[.int .i64 0, .int .i64 0, .int .u32 0, .string ⟨#[]⟩, .slice none 0 0, .int .i64 0] := Blk.kp (Blk.at_top (by simp)) (Kp.of_below hb1 (fun _ => False)) (fun x => x)
  have HS1 : StoreAt w1 s p pb pw g m B := ((HS.out.alloc _).alloc _).below hb1
  have hk1 : Kp (fun _ => False) w w1 := (((Kp.refl (fun _ => False) w).alloc _).alloc _).below_trans hb1
  have hz1 : w.heap.size + 2 ≤ w1.heap.size := by have := hb1.size; simpa using this
  clear hb1 HV0
  obtain ⟨ca, hca, hba, hsa, a0, a1, a2, a3, a4, a5, a6, a7, a8, a9, a10⟩ := HS1.cells
  rw [hh] at a6
  have HFL1 := Lib.hid HS1.fl
  have B1 := Lib.hid BB1
  have B2 := Lib.hid BB2
  have HS1' := Lib.hid HS1
  clear BB1 BB2 HS1 hba
  go_wp2_with fail
  go_quiet (fail)
  go_wp2_with fail
  refine (Program_ok (w1.drewN nq) p pb pw B.F (HFL1.out.drewN nq) hd hfu pos L (by omega) (by omega) hbig _ _ (HSL.out.drewN nq) (hff.fits L pos (by omega) (by omega))).mono ?_
  rintro e w2 ⟨rfl, hfl2, hk2⟩
  have HS2 : StoreAt w2 s p pb pw g m { B with F := B.F.put pos L } := store_flash (w := w1.drewN nq) ⟨HS1'.out.fl.drewN nq, HS1'.out.main, HS1'.out.secs, HS1'.out.map⟩ hfl2 hk2 rfl rfl rfl
  have B1b := Lib.hid (((B1.out.drewN nq).kp hk2 (by omega)))
  have B2b := Lib.hid (((B2.out.drewN nq).kp hk2 (by omega)))
  have hk02 : Kp (fun b => b = pb ∨ b = s) w w2 := (hk1.drewN nq |>.mono (fun _ x => x.elim)).trans hk2 (fun _ x _ => .inl x)
  have hz2 : w.heap.size + 2 ≤ w2.heap.size := by have := hk2.size; have e : (w1.drewN nq).heap.size = w1.heap.size := rfl; omega
  clear hk2 hfl2 B1 B2 HFL1 HS1' HSL a0 a1 a2 a3 a4 a5 a6 a7 a8 a9 a10 hk1
  obtain ⟨ca2, hca2, hba2, hsa2, a0, a1, a2, a3, a4, a5, a6, a7, a8, a9, a10⟩ := HS2.cells
  simp only at a0 a1 a2 a3 a4 a5 a6 a7 a8 a9 a10
  rw [hh] at a6
  have HS2' := Lib.hid HS2
  clear HS2 hba2
  go_wp2_with fail
  have hl1 := put_length B.F pos L (by omega)
  have hs1 : Sl (fun _ => True) (w2.alloc (.cells #[.int .u8 0] 5)) (.slice (some ⟨w2.heap.size, 0, none⟩) 1 1) (bytesV [0]) := by
    refine ⟨some ⟨w2.heap.size, 0, none⟩, 1, rfl, by simp, fun _ => ⟨w2.heap.size, 0, rfl, trivial, by simp, fun i u hu => ?_⟩⟩
    have := (Blk.new w2 5 #[.int .u8 0]).cell (0 + i)
    rw [this, Nat.zero_add, ← hu]
    simp [bytesV, byteV]
  have hl2 : ([0] : List UInt8).length = 1 := rfl
  refine (Program_ok _ p pb pw _ (HS2'.out.fl.kp ((Kp.refl (fun _ => False) w2).alloc _) (fun x => x) (fun x => x) (fun x => x)) hd hfu pos2 [0] (by simp) (by show _ ≤ (B.F.put pos L).b.length; rw [hl1, hl2]; omega) (by show (B.F.put pos L).b.length ≤ _; rw [hl1]; exact hbig) _ _ hs1
    ((hff.mono (a' := pos2) (b' := q + B.F.size) (by omega) (by omega)).put pos L (by omega) (.inr (by omega)) |>.fits _ _ (Nat.le_refl _) (by rw [hl2]; omega))).mono ?_
  rintro e w3 ⟨rfl, hfl3, hk3⟩
  have HS3 : StoreAt w3 s p pb pw g m { B with F := (B.F.put pos L).put pos2 [0] } := store_flash (B := { B with F := B.F.put pos L }) (HS2'.out.alloc _) hfl3 hk3 rfl rfl rfl
  have B1c := ((B1b.out.alloc _).kp hk3 (by omega))
  have B2c := ((B2b.out.alloc _).kp hk3 (by omega))
  have hk03 : Kp (fun b => b = pb ∨ b = s) w w3 := (hk02.alloc _).trans hk3 (fun _ x _ => .inl x)
  have hz3 : w.heap.size + 2 ≤ w3.heap.size := by have := hk3.size; simp at this; omega
  clear hk3 hfl3 B1b B2b HS2' hs1 a0 a1 a2 a3 a4 a5 a6 a7 a8 a9 a10 hk02
  obtain ⟨ca3, hca3, hba3, hsa3, a0, a1, a2, a3, a4, a5, a6, a7, a8, a9, a10⟩ := HS3.cells
  simp only at a0 a1 a2 a3 a4 a5 a6 a7 a8 a9 a10
  rw [hh] at a6
  obtain ⟨x0, x1, x2, x3, x4⟩ := rec5 B1c
  obtain ⟨y0, y1, y2, y3, y4, y5⟩ := cells6 B2c
  have f7 := hba3.frozen 7
  have g0 := B2c.frozen 0
  have g1 := B2c.frozen 1
  have g2 := B2c.frozen 2
  have g3 := B2c.frozen 3
  have g4 := B2c.frozen 4
  have g5 := B2c.frozen 5
  have HS3' := Lib.hid HS3
  have B1d := Lib.hid B1c
  have B2d := Lib.hid B2c
  clear HS3 hba3 B1c B2c
  go_wp2_with fail
  go_region
  obtain ⟨w4, hw4, B2e, HS4, hk04⟩ : ∃ w4, ((((((w3.setCell ⟨w.heap.size + 1, 0, none⟩ (.int .i64 B.at_)).setCell ⟨w.heap.size + 1, 1, none⟩ (.int .i64 kind)).setCell ⟨w.heap.size + 1, 2, none⟩ (.int .u32 txn)).setCell ⟨w.heap.size + 1, 3, none⟩ (.string key)).setCell ⟨w.heap.size + 1, 4, none⟩ (.slice bA blob.length bc)).setCell ⟨w.heap.size + 1, 5, none⟩ (.int .i64 cnt)).drew = w4 ∧ Blk w4 (w.heap.size + 1) 185 #[.int .i64 B.at_, .int .i64 kind, .int .u32 txn, .string key, .slice bA blob.length bc, .int .i64 cnt] ∧ StoreAt w4 s p pb pw g m { B with F := (B.F.put pos L).put pos2 [0] } ∧ Kp (fun b => b = pb ∨ b = s) w w4 := by
    refine ⟨_, rfl, ?_, ?_, ?_⟩
    · exact ((((((B2d.out.set_ 0 _).set_ 1 _).set_ 2 _).set_ 3 _).set_ 4 _).set_ 5 _).drew
    · obtain ⟨l1, l2, l3, l4, l5, l6⟩ := HS.out.lts
      refine HS3'.out.kp (S := fun b => b = w.heap.size + 1) ?_ (by omega) (by omega) (by omega) (by omega) (by omega) (by omega)
      exact (Kp.set_ (p := ⟨w.heap.size + 1, 5, none⟩) (Kp.set_ (p := ⟨w.heap.size + 1, 4, none⟩) (Kp.set_ (p := ⟨w.heap.size + 1, 3, none⟩) (Kp.set_ (p := ⟨w.heap.size + 1, 2, none⟩) (Kp.set_ (p := ⟨w.heap.size + 1, 1, none⟩) (Kp.set_ (p := ⟨w.heap.size + 1, 0, none⟩) (Kp.refl (fun b => b = w.heap.size + 1) w3) (.inl rfl) _) (.inl rfl) _) (.inl rfl) _) (.inl rfl) _) (.inl rfl) _) (.inl rfl) _).drew
    · exact (Kp.set_ (p := ⟨w.heap.size + 1, 5, none⟩) (Kp.set_ (p := ⟨w.heap.size + 1, 4, none⟩) (Kp.set_ (p := ⟨w.heap.size + 1, 3, none⟩) (Kp.set_ (p := ⟨w.heap.size + 1, 2, none⟩) (Kp.set_ (p := ⟨w.heap.size + 1, 1, none⟩) (Kp.set_ (p := ⟨w.heap.size + 1, 0, none⟩) hk03 (.inr (Nat.le_succ _)) _) (.inr (Nat.le_succ _)) _) (.inr (Nat.le_succ _)) _) (.inr (Nat.le_succ _)) _) (.inr (Nat.le_succ _)) _) (.inr (Nat.le_succ _)) _).drew
  (with_reducible rw [hw4])
  have hz4 : w.heap.size + 2 ≤ w4.heap.size := by rw [← hw4]; simpa using hz3
  clear hw4 y0 y1 y2 y3 y4 y5 g0 g1 g2 g3 g4 g5 a0 a1 a2 a3 a4 a5 a6 a7 a8 a9 a10 x0 x1 x2 x3 x4 f7
  obtain ⟨ca4, hca4, hba4, hsa4, a0, a1, a2, a3, a4, a5, a6, a7, a8, a9, a10⟩ := HS4.cells
  simp only at a0 a1 a2 a3 a4 a5 a6 a7 a8 a9 a10
  have f7 := hba4.frozen 7
  obtain ⟨w5, hw5, B2f, HS5, hk05⟩ : ∃ w5, w4.setCell ⟨s, 7, none⟩ (.int .i64 fin) = w5 ∧ Blk w5 (w.heap.size + 1) 185 #[.int .i64 B.at_, .int .i64 kind, .int .u32 txn, .string key, .slice bA blob.length bc, .int .i64 cnt] ∧ StoreAt w5 s p pb pw g m { B with F := (B.F.put pos L).put pos2 [0], at_ := fin } ∧ Kp (fun b => b = pb ∨ b = s) w w5 := by
    obtain ⟨e1, e2⟩ := store_set HS4 7 (.int .i64 fin) { B with F := (B.F.put pos L).put pos2 [0], at_ := fin } rfl rfl rfl (fun _ => rfl)
    exact ⟨_, rfl, B2e.kp e2 (by omega), e1, hk04.trans e2 (fun _ x _ => .inr x)⟩
  have HS4' := Lib.hid HS4
  clear HS4 hba4
  have hz5 : w.heap.size + 2 ≤ w5.heap.size := by rw [← hw5]; simpa using hz4
  clear B2e
  obtain ⟨y0, y1, y2, y3, y4, y5⟩ := cells6 B2f
  have g0 := B2f.frozen 0
  have g1 := B2f.frozen 1
  have g2 := B2f.frozen 2
  have g3 := B2f.frozen 3
  have g4 := B2f.frozen 4
  have g5 := B2f.frozen 5
  obtain ⟨w6, hw6, B2g, HS6, hk06⟩ : ∃ w6, ((((((w5.setCell ⟨w.heap.size + 1, 0, none⟩ (.int .i64 B.at_)).setCell ⟨w.heap.size + 1, 1, none⟩ (.int .i64 kind)).setCell ⟨w.heap.size + 1, 2, none⟩ (.int .u32 txn)).setCell ⟨w.heap.size + 1, 3, none⟩ (.string key)).setCell ⟨w.heap.size + 1, 4, none⟩ (.slice bA blob.length bc)).setCell ⟨w.heap.size + 1, 5, none⟩ (.int .i64 cnt)) = w6 ∧ Blk w6 (w.heap.size + 1) 185 #[.int .i64 B.at_, .int .i64 kind, .int .u32 txn, .string key, .slice bA blob.length bc, .int .i64 cnt] ∧ StoreAt w6 s p pb pw g m { B with F := (B.F.put pos L).put pos2 [0], at_ := fin } ∧ Kp (fun b => b = pb ∨ b = s) w w6 := by
    refine ⟨_, rfl, ?_, ?_, ?_⟩
    · exact ((((((B2f.set_ 0 _).set_ 1 _).set_ 2 _).set_ 3 _).set_ 4 _).set_ 5 _)
    · obtain ⟨l1, l2, l3, l4, l5, l6⟩ := HS.out.lts
      refine HS5.kp (S := fun b => b = w.heap.size + 1) ?_ (by omega) (by omega) (by omega) (by omega) (by omega) (by omega)
      exact (Kp.set_ (p := ⟨w.heap.size + 1, 5, none⟩) (Kp.set_ (p := ⟨w.heap.size + 1, 4, none⟩) (Kp.set_ (p := ⟨w.heap.size + 1, 3, none⟩) (Kp.set_ (p := ⟨w.heap.size + 1, 2, none⟩) (Kp.set_ (p := ⟨w.heap.size + 1, 1, none⟩) (Kp.set_ (p := ⟨w.heap.size + 1, 0, none⟩) (Kp.refl (fun b => b = w.heap.size + 1) w5) (.inl rfl) _) (.inl rfl) _) (.inl rfl) _) (.inl rfl) _) (.inl rfl) _) (.inl rfl) _)
    · exact (Kp.set_ (p := ⟨w.heap.size + 1, 5, none⟩) (Kp.set_ (p := ⟨w.heap.size + 1, 4, none⟩) (Kp.set_ (p := ⟨w.heap.size + 1, 3, none⟩) (Kp.set_ (p := ⟨w.heap.size + 1, 2, none⟩) (Kp.set_ (p := ⟨w.heap.size + 1, 1, none⟩) (Kp.set_ (p := ⟨w.heap.size + 1, 0, none⟩) hk05 (.inr (Nat.le_succ _)) _) (.inr (Nat.le_succ _)) _) (.inr (Nat.le_succ _)) _) (.inr (Nat.le_succ _)) _) (.inr (Nat.le_succ _)) _) (.inr (Nat.le_succ _)) _)
  obtain ⟨z0, z1, z2, z3, z4, z5⟩ := cells6 B2g
  have HS6' := Lib.hid HS6
  have HK6 := Lib.hid hk06
  have HLL : Hid ((B.F.put pos L).put pos2 [0] = B.F.laid pos L) := Lib.hid (by unfold FL.laid; rw [hLn', hpos2])
  clear B2f HS5 hk05 hk04 hk03 HS6 hk06 B2g
  go_wp2_with fail
  refine bodyPost_ret (v := .tuple #[.agg #[.int .i64 B.at_, .int .i64 kind, .int .u32 txn, .string key, .slice bA blob.length bc, .int .i64 cnt], .int .i64 0]) ?res rfl ⟨rfl, ?st, HK6.out⟩
  case res => simp [results, Tryz.results172, go_sem, z0, z1, z2, z3, z4, z5]
  case st =>
    have := HS6'.out
    rw [HLL.out, hh] at this
    exact this
end Go.Proofs.YtnaphhfmccbamaaGreatDoor
