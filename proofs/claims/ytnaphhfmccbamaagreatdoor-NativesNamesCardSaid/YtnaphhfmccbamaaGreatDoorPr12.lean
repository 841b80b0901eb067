/- Contract of the environment's open (natives), over what rms.Open tells. Contracts of rms.Open: what load tells is handed on; a store that isn't there is made. DERIVED: THE SHELF's CONTRACTS AT THIS DUMP, IN PLAIN WORDS (tools/lay-plain.mjs out of 'TryzIter.lean', which tools/lay-shelf.mjs wrote): THE SAME DECLARATIONS UNDER THE SAME NAMES: 'import', 'namespace', 'open', 'def', 'theorem' AND NOTHING ELSE: no command of the shelf's: FOR A HAND-IN. Each laying: the table of numbers ('.._ren') and one theorem, a field a fact of the dump's own or the kernel's comparison; each contract: ONE APPLICATION. Keys of a store: what slices.Sorted(maps.Keys(..)) tells; a store without keys. Contracts of the environment's methods (natives) where its store is down or its suite is no name; Count. Contracts of rms.find: a search over entries whose IDs go up. Contracts of rms.find and rms.Get. -/
import Derived.Test.YtnaphhfmccbamaaGreatDoorPr11
import Derived.Test.YtnaphhfmccbamaaGreatDoorPr08
import Derived.Test.YtnaphhfmccbamaaGreatDoorPr10
import Derived.Shelf.SlGeneric
import Derived.Shelf.SlIter.Nil
import Derived.Shelf.SortM.Plain
import Derived.Shelf.SortM.SortNone
import Derived.Ground.GgzProg
import Derived.Ground.SlgmProg
import Derived.Test.YtnaphhfmccbamaaGreatDoorProg
import Derived.Sort.KeysCollected
import Derived.CallsIn
namespace Go.Proofs.YtnaphhfmccbamaaGreatDoor
open Go.RowKit

def recT (n ver : Nat) (A : Option Addr) (k c : Nat) : Value := .agg #[.int .u32 n, .int .u32 ver, .slice A k c]
def dataS : ByteArray := ⟨#[100, 97, 116, 97]⟩
def stW (w1 : World) (N n ver : Nat) (A : Option Addr) (k c : Nat) : World := ((w1.setCell ⟨N, 0, none⟩ (.int .u32 n)).setCell ⟨N, 1, none⟩ (.int .u32 ver)).setCell ⟨N, 2, none⟩ (.slice A k c)
structure OpR (X : World) (N : Nat) (er : Int) (SQ : Nat → Prop) (Q : Nat → Nat → Option Addr → Nat → Nat → World → World → Prop) (L : Nat → Prop) (V : Nat → Value) (W : World) : Prop where
  pre : ¬ L 9 → Kp (fun _ => False) X W
  post : L 9 → ∃ n ver A k c W0 w1, V 9 = .tuple #[recT n ver A k c, .int .i64 er] ∧ (L 10 → V 10 = recT n ver A k c) ∧ Kp (fun _ => False) X W0 ∧ Q n ver A k c W0 w1 ∧ Kp SQ W0 w1 ∧ (¬ L 12 → W = w1) ∧ (L 12 → W = stW w1 N n ver A k c)
/-- What open tells: W0 is the world ahead of rms.Open, w1 the one behind it. -/
structure OpenPost (w : World) (er : Int) (SQ : Nat → Prop) (Q : Nat → Nat → Option Addr → Nat → Nat → World → World → Prop) (e : Ending) (w' : World) : Prop where
  out : ∃ n ver A k c W0 w1, e = .returned (.tuple #[recT n ver A k c, .int .i64 er]) ∧ Kp (fun _ => False) w W0 ∧ Q n ver A k c W0 w1 ∧ Kp SQ W0 w1 ∧ Kp (fun b => b = w.heap.size) w1 w' ∧ w.heap.size < W0.heap.size

set_option maxRecDepth 100000 in
theorem open_nil (w : World) (cr : Bool) : Calls Tryz.prog 32 #[.pointer none, .bool cr] w fun e w' => e = .returned (.tuple #[zRec, .int .i64 5]) ∧ Below w.heap.size w w' := by
  have HB0 : Hid (Blk (w.alloc (.cells #[.int .u32 0, .int .u32 0, .slice none 0 0] 39)) w.heap.size 39 #[.int .u32 0, .int .u32 0, .slice none 0 0]) := Lib.hid (Blk.at_top rfl)
  have HK0 : Hid (Kp (fun _ => False) w (w.alloc (.cells #[.int .u32 0, .int .u32 0, .slice none 0 0] 39))) := Lib.hid ((Kp.refl _ w).alloc _)
  unfold zRec
  go_enter Tryz.func32, Tryz.ntmps32
  go_wp2_with fail
  obtain ⟨⟨z0, z1, z2⟩, _, _, _⟩ := zero3 HB0.out
  exact bodyPost_ret (v := .tuple #[.agg #[.int .u32 0, .int .u32 0, .slice none 0 0], .int .i64 5]) (by simp [results, Tryz.results32, go_sem]) rfl ⟨rfl, HK0.out.below⟩

set_option maxRecDepth 100000 in
set_option maxHeartbeats 1000000 in
theorem open_gen (w : World) (v : Nat) (sp : Option Addr) (suite : ByteArray) (lv : Value) (hb : Blk w v 63 #[.pointer sp, .string suite, lv]) (cr : Bool) (er : Int) (SQ : Nat → Prop) (hSQ : ∀ b, SQ b → b < w.heap.size) (Q : Nat → Nat → Option Addr → Nat → Nat → World → World → Prop)
    (HO : ∀ W, Kp (fun _ => False) w W → Calls Tryz.prog 57 #[.pointer sp, .string suite, .string dataS, .bool cr] W fun e w' => ∃ n ver A k c, e = .returned (.tuple #[recT n ver A k c, .int .i64 er]) ∧ Q n ver A k c W w' ∧ Kp SQ W w') :
    Calls Tryz.prog 32 #[.pointer (some ⟨v, 0, none⟩), .bool cr] w (OpenPost w er SQ Q) := by
  obtain ⟨X, hX, HKX, HBX, HNX⟩ : ∃ X, w.alloc (.cells #[.int .u32 0, .int .u32 0, .slice none 0 0] 39) = X ∧ Hid (Kp (fun _ => False) w X) ∧ Hid (Blk X v 63 #[.pointer sp, .string suite, lv]) ∧ Hid (Blk X w.heap.size 39 #[.int .u32 0, .int .u32 0, .slice none 0 0]) :=
    ⟨_, rfl, Lib.hid ((Kp.refl _ w).alloc _), Lib.hid (hb.alloc _), Lib.hid (Blk.at_top rfl)⟩
  have HHO := Lib.hid HO
  have HS := Lib.hid hSQ
  clear HO hSQ hb
  go_enter Tryz.func32, Tryz.ntmps32
  go_wp2_with fail
  clear hX
  refine region_parts_all (by kernel_rfl) (fun j => [some (Value.pointer (some ⟨v, 0, none⟩)), some (.pointer (some ⟨v, 0, none⟩)), some (.pointer (some ⟨v, 0, none⟩)), some (.pointer sp), some (.pointer (some ⟨v, 0, none⟩)), some (.pointer (some ⟨v, 0, none⟩)), some (.pointer (some ⟨v, 1, none⟩)), some (.string suite), some (.bool cr), none, none, some (.int .i64 er), none, some (.int .i64 er)].getD j none)
    (OpR X w.heap.size er SQ Q) (by kernel_rfl) ?h0 ?hops ?hend
  case h0 => exact fun V => ⟨fun _ => (Kp.refl _ X).drew, fun h => h.elim⟩
  case hops =>
    refine ⟨?_, ?_, ?_, ?_, ?_, ?_, ?_, ?_, ?_, ?_, ?_, ?_, ?_, ?_, trivial⟩
    all_goals intro L V b Y hL hF hR K hK
    · have q1 := hL.old_ 0 (by kernel_rfl)
      simp at q1
      go_simp
      exact hK _ hR
    · have q1 := hL.depv hF 0 9 _ rfl (by kernel_rfl)
      go_simp
      exact hK _ hR
    · have q1 := hL.depv hF 1 10 _ rfl (by kernel_rfl)
      go_simp
      exact hK _ hR
    · have q1 := hL.depv hF 2 11 _ rfl (by kernel_rfl)
      have z1 : Y.cell? ⟨v, 0, none⟩ = some (.pointer sp) := (HBX.out.kp (hR.pre (hL.notn 9 (by kernel_rfl))) (fun x => x)).cell 0
      go_simp
      exact hK _ hR
    · have q1 := hL.old_ 0 (by kernel_rfl)
      simp at q1
      go_simp
      exact hK _ hR
    · have q1 := hL.depv hF 4 13 _ rfl (by kernel_rfl)
      go_simp
      exact hK _ hR
    · have q1 := hL.depv hF 5 14 _ rfl (by kernel_rfl)
      go_simp
      exact hK _ hR
    · have q1 := hL.depv hF 6 15 _ rfl (by kernel_rfl)
      have z1 : Y.cell? ⟨v, 1, none⟩ = some (.string suite) := (HBX.out.kp (hR.pre (hL.notn 9 (by kernel_rfl))) (fun x => x)).cell 1
      go_simp
      exact hK _ hR
    · have q1 := hL.old_ 1 (by kernel_rfl)
      simp at q1
      go_simp
      exact hK _ hR
    · have q1 := hL.depv hF 3 12 _ rfl (by kernel_rfl)
      have q2 := hL.depv hF 7 16 _ rfl (by kernel_rfl)
      have q3 := hL.depv hF 8 17 _ rfl (by kernel_rfl)
      have hp := hR.pre hL.freshn
      have hc := HHO.out Y (HKX.out.trans hp (fun _ x _ => x))
      go_simp
      refine hc.mono ?_
      rintro e w' ⟨n, ver, A, k, c, rfl, hq, hk⟩
      refine hK _ _ ⟨fun h => absurd (Or.inr rfl) h, fun _ => ⟨n, ver, A, k, c, Y, w', by rw [upd_same], fun h => absurd (h.resolve_right (by decide)) (hL.notn 10 (by kernel_rfl)), hp, hq, hk, fun _ => rfl, fun h => absurd (h.resolve_right (by decide)) (hL.notn 12 (by kernel_rfl))⟩⟩
    · have q1 := hL.dep 9 18 (by kernel_rfl)
      obtain ⟨n, ver, A, k, c, W0, w1, e9, h10, hp, hq, hk, h12, h12'⟩ := hR.post (hL.isn 9 rfl (by kernel_rfl))
      have e9' : V 9 = .tuple #[.agg #[.int .u32 n, .int .u32 ver, .slice A k c], .int .i64 er] := e9
      rw [e9'] at q1
      go_simp
      refine hK _ _ ⟨fun h => hR.pre (fun x => h (.inl x)), fun _ => ⟨n, ver, A, k, c, W0, w1, e9, fun _ => rfl, hp, hq, hk, fun h => h12 (fun x => h (.inl x)), fun h => h12' (h.resolve_right (by decide))⟩⟩
    · have q1 := hL.dep 9 18 (by kernel_rfl)
      obtain ⟨n, ver, A, k, c, W0, w1, e9, h10, hp, hq, hk, h12, h12'⟩ := hR.post (hL.isn 9 rfl (by kernel_rfl))
      have e9' : V 9 = .tuple #[.agg #[.int .u32 n, .int .u32 ver, .slice A k c], .int .i64 er] := e9
      rw [e9'] at q1
      go_simp
      exact hK _ hR
    · have q1 := hL.old_ 4 (by kernel_rfl)
      have q2 := hL.dep 10 19 (by kernel_rfl)
      obtain ⟨n, ver, A, k, c, W0, w1, e9, h10, hp, hq, hk, h12, h12'⟩ := hR.post (hL.isn 9 rfl (by kernel_rfl))
      have e10 : V 10 = .agg #[.int .u32 n, .int .u32 ver, .slice A k c] := h10 (hL.isn 10 rfl (by kernel_rfl))
      rw [e10] at q2
      obtain rfl : Y = w1 := h12 hL.freshn
      have hN := (HNX.out.kp hp (fun x => x)).kp hk (fun h => by have := HS.out _ h; omega)
      obtain ⟨⟨z0, z1, z2⟩, f0, f1, f2⟩ := zero3 hN
      have hlN := hN.lt
      have hnew : OpR X w.heap.size er SQ Q (fun j => mkL (fun j => [some (Value.pointer (some ⟨v, 0, none⟩)), some (.pointer (some ⟨v, 0, none⟩)), some (.pointer (some ⟨v, 0, none⟩)), some (.pointer sp), some (.pointer (some ⟨v, 0, none⟩)), some (.pointer (some ⟨v, 0, none⟩)), some (.pointer (some ⟨v, 1, none⟩)), some (.string suite), some (.bool cr), none, none, some (.int .i64 er), none, some (.int .i64 er)].getD j none) L j ∨ j = 12) (upd (mkV (fun j => [some (Value.pointer (some ⟨v, 0, none⟩)), some (.pointer (some ⟨v, 0, none⟩)), some (.pointer (some ⟨v, 0, none⟩)), some (.pointer sp), some (.pointer (some ⟨v, 0, none⟩)), some (.pointer (some ⟨v, 0, none⟩)), some (.pointer (some ⟨v, 1, none⟩)), some (.string suite), some (.bool cr), none, none, some (.int .i64 er), none, some (.int .i64 er)].getD j none) V) 12 undef) (stW Y w.heap.size n ver A k c) :=
        ⟨fun h => absurd (Or.inl (hL.isn 9 rfl (by kernel_rfl))) h, fun _ => ⟨n, ver, A, k, c, W0, Y, e9, fun _ => e10, hp, hq, hk, fun h => absurd (Or.inr rfl) h, fun _ => rfl⟩⟩
      simp at q1
      unfold stW at hnew
      clear hq h12 h12' h10 e9 e10 hN
      go_simp
      exact hK _ _ hnew
    · have q1 := hL.depv hF 11 20 _ rfl (by kernel_rfl)
      go_simp
      exact hK _ hR
  case hend =>
    intro L V Y hall hfix hR
    have e0 := hfix 0 _ (by decide) rfl
    have e1 := hfix 1 _ (by decide) rfl
    have e2 := hfix 2 _ (by decide) rfl
    have e3 := hfix 3 _ (by decide) rfl
    have e4 := hfix 4 _ (by decide) rfl
    have e5 := hfix 5 _ (by decide) rfl
    have e6 := hfix 6 _ (by decide) rfl
    have e7 := hfix 7 _ (by decide) rfl
    have e8 := hfix 8 _ (by decide) rfl
    have e11 := hfix 11 _ (by decide) rfl
    have e13 := hfix 13 _ (by decide) rfl
    obtain ⟨n, ver, A, k, c, W0, w1, e9, h10, hp, hq, hk, h12, h12'⟩ := hR.post (hall 9 rfl (by decide))
    have hYe := h12' (hall 12 rfl (by decide))
    have hN := (HNX.out.kp hp (fun x => x)).kp hk (fun h => by have := HS.out _ h; omega)
    obtain ⟨hb3, hk3⟩ := set3 hN (.int .u32 n) (.int .u32 ver) (.slice A k c)
    have hYs : stW w1 w.heap.size n ver A k c = Y := hYe.symm
    unfold stW at hYs
    rw [hYs] at hb3 hk3
    have FIN : Hid (OpenPost w er SQ Q (.returned (.tuple #[recT n ver A k c, .int .i64 er])) Y) := Lib.hid ⟨n, ver, A, k, c, W0, w1, rfl, HKX.out.trans hp (fun _ x _ => x), hq, hk, hk3, (HNX.out.kp hp (fun x => x)).lt⟩
    obtain ⟨y0, y1, y2⟩ := recs3 hb3
    simp only [putList_cons, putList_nil, e0, e1, e2, e3, e4, e5, e6, e7, e8, e11, e13]
    obtain ⟨v9, hv9⟩ : ∃ x, V 9 = x := ⟨_, rfl⟩
    obtain ⟨v10, hv10⟩ : ∃ x, V 10 = x := ⟨_, rfl⟩
    rw [hv9, hv10]
    clear hR e0 e1 e2 e3 e4 e5 e6 e7 e8 e9 e11 e13 h10 hp hq hk h12 h12' hYe hN hb3 hk3 hYs hall hfix hv9 hv10
    go_simp
    go_wp2
    exact bodyPost_ret (v := .tuple #[.agg #[.int .u32 n, .int .u32 ver, .slice A k c], .int .i64 er]) (by simp [results, Tryz.results32, go_sem, y0, y1, y2]) rfl FIN.out
end Go.Proofs.YtnaphhfmccbamaaGreatDoor

namespace Go.Proofs.YtnaphhfmccbamaaGreatDoor
open Go.RowKit

theorem fin3a {w w1 : World} {n : Nat} {x y z : Value} (h : Blk w1 n 39 #[x, y, z]) (hk : Kp (fun _ => False) w w1) (hn : w.heap.size ≤ n) (a b c : Value) (o : Obj) :
    ∃ W, ((((w1.setCell ⟨n, 0, none⟩ a).setCell ⟨n, 1, none⟩ b).setCell ⟨n, 2, none⟩ c).alloc o) = W ∧ Kp (fun _ => False) w W ∧ Kp (fun k => k = n) w1 W ∧ W.cell? ⟨n, 0, none⟩ = some a ∧ W.cell? ⟨n, 1, none⟩ = some b ∧ W.cell? ⟨n, 2, none⟩ = some c := by
  obtain ⟨hb, kk⟩ := set3 h a b c
  have hb' := hb.alloc o
  exact ⟨_, rfl, (hk.trans kk (fun b hb hlt => by omega)).alloc o, kk.alloc o, hb'.cell 0, hb'.cell 1, hb'.cell 2⟩

set_option maxRecDepth 100000 in
set_option maxHeartbeats 800000 in
theorem Open_absent (w : World) (sv : Value) (suite name : ByteArray) (cr : Bool) (er : Nat) (hcase : er ≠ 11 ∨ cr = false)
    (HL : ∀ W, Kp (fun _ => False) w W → Calls Tryz.prog 60 #[sv, .string suite, .string name] W fun e w' => e = .returned (.tuple #[zRec, .int .i64 er]) ∧ Below W.heap.size W w') :
    Calls Tryz.prog 57 #[sv, .string suite, .string name, .bool cr] w fun e w' => e = .returned (.tuple #[zRec, .int .i64 er]) ∧ Below w.heap.size w w' := by
  obtain ⟨X, hX, HKX, HNX⟩ : ∃ X, w.alloc (.cells #[.int .u32 0, .int .u32 0, .slice none 0 0] 39) = X ∧ Hid (Kp (fun _ => False) w X) ∧ Hid (Blk X w.heap.size 39 #[.int .u32 0, .int .u32 0, .slice none 0 0]) :=
    ⟨_, rfl, Lib.hid ((Kp.refl _ w).alloc _), Lib.hid (Blk.at_top rfl)⟩
  have HC := Lib.hid (HL X HKX.out)
  unfold zRec at HC ⊢
  have t1 : ((er : Int) != 11) = true ∨ (((er : Int) != 11) = false ∧ cr = false) := by
    by_cases h : er = 11
    · exact .inr ⟨by rw [h]; rfl, hcase.resolve_left (fun x => x h)⟩
    · exact .inl (by rw [bne_iff_ne]; omega)
  clear HL hcase
  rcases t1 with t1 | ⟨t1, rfl⟩
  all_goals
    go_enter Tryz.func57, Tryz.ntmps57
    go_wp2_with fail
    clear hX
    refine HC.out.mono ?_
    rintro e w1 ⟨rfl, hb1⟩
    have HK1 := Lib.hid (HKX.out.below_trans hb1)
    have HN1 := Lib.hid (HNX.out.kp (Kp.of_below hb1 (fun _ => False)) (fun x => x))
    obtain ⟨⟨z0, z1, z2⟩, f0, f1, f2⟩ := zero3 HN1.out
    have hlN := HN1.out.lt
    clear hb1
    go_wp2_with fail
    obtain ⟨W5, hW5, hK5, _, u0, u1, u2⟩ := fin3a HN1.out HK1.out (Nat.le_refl _) (.int .u32 0) (.int .u32 0) (.slice none 0 0) (.cells #[.int .u32 0, .int .u32 0, .slice none 0 0] 39)
    rw [hW5]
    exact bodyPost_ret (v := .tuple #[.agg #[.int .u32 0, .int .u32 0, .slice none 0 0], .int .i64 er]) (by simp [results, Tryz.results57, go_sem, u0, u1, u2]) rfl ⟨rfl, hK5.below⟩

set_option maxRecDepth 100000 in
set_option maxHeartbeats 800000 in
theorem Open_ok (w : World) (s p pb pw g m : Nat) (B : BS) (h : StoreAt w s p pb pw g m B) (suite name : ByteArray) (h1 : nameB suite = true) (h2 : nameB name = true) (r : Rc) (hr : RcOk r) (a b : Nat) (hm : idxFind B.idx (keyS suite name) = some (placeV a b ⟨(rcB r).toArray⟩)) (cr : Bool) :
    Calls Tryz.prog 57 #[.pointer (some ⟨s, 0, none⟩), .string suite, .string name, .bool cr] w fun e w' => ∃ A c, e = .returned (.tuple #[recT r.next r.ver A r.list.length c, .int .i64 0]) ∧ EntsO (fun b => w.heap.size ≤ b) w.heap.size w' (.slice A r.list.length c) r.list ∧ Below w.heap.size w w' := by
  obtain ⟨X, hX, HKX, HNX⟩ : ∃ X, w.alloc (.cells #[.int .u32 0, .int .u32 0, .slice none 0 0] 39) = X ∧ Hid (Kp (fun _ => False) w X) ∧ Hid (Blk X w.heap.size 39 #[.int .u32 0, .int .u32 0, .slice none 0 0]) :=
    ⟨_, rfl, Lib.hid ((Kp.refl _ w).alloc _), Lib.hid (Blk.at_top rfl)⟩
  have HC := Lib.hid (load_ok X s p pb pw g m B (h.below HKX.out.below) suite name h1 h2 r hr a b hm)
  have hzX : w.heap.size < X.heap.size := HNX.out.lt
  clear h h1 h2 hr hm
  go_enter Tryz.func57, Tryz.ntmps57
  go_wp2_with fail
  clear hX
  refine HC.out.mono ?_
  rintro e w1 ⟨lv, rfl, he1, hb1⟩
  unfold rcV
  have HK1 := Lib.hid (HKX.out.below_trans hb1)
  have HN1 := Lib.hid (HNX.out.kp (Kp.of_below hb1 (fun _ => False)) (fun x => x))
  have HE1 := Lib.hid he1
  obtain ⟨LA, Lc, rfl, _⟩ := (he1.reads (ok' := fun _ => True) (fun _ _ _ => trivial) (fun _ _ _ => trivial)).form
  obtain ⟨⟨z0, z1, z2⟩, f0, f1, f2⟩ := zero3 HN1.out
  have hlN := HN1.out.lt
  clear hb1 he1
  go_wp2_with fail
  obtain ⟨W5, hW5, hK5, hk5, u0, u1, u2⟩ := fin3a HN1.out HK1.out (Nat.le_refl _) (.int .u32 r.next) (.int .u32 r.ver) (.slice LA r.list.length Lc) (.cells #[.int .u32 r.next, .int .u32 r.ver, .slice LA r.list.length Lc] 39)
  rw [hW5]
  exact bodyPost_ret (v := .tuple #[.agg #[.int .u32 r.next, .int .u32 r.ver, .slice LA r.list.length Lc], .int .i64 0]) (by simp [results, Tryz.results57, go_sem, u0, u1, u2]) rfl ⟨_, _, rfl, (HE1.out.kp hk5 (fun b hb _ => by omega) (fun b hb _ => by omega)).mono (by omega) (fun b hb _ => by omega), hK5.below⟩

def rc0 : Rc := ⟨1, 0, []⟩
theorem rc0_ok : RcOk rc0 := ⟨⟨by decide, by decide⟩, by decide, trivial, by decide⟩
/-- How many names there are. -/
def NamesC (s p pb pw g m : Nat) (B : BS) (suite : ByteArray) (n : Nat) : Prop :=
  ∀ W, StoreAt W s p pb pw g m B → Calls Tryz.prog 85 #[.pointer (some ⟨s, 0, none⟩), .string suite] W fun e w' => (∃ A c, e = .returned (.slice A n c)) ∧ Below W.heap.size W w'

set_option maxRecDepth 100000 in
set_option maxHeartbeats 800000 in
theorem Open_new (w : World) (s p pb pw g m : Nat) (B B1 : BS) (h : StoreAt w s p pb pw g m B) (suite name : ByteArray) (h1 : nameB suite = true) (h2 : nameB name = true) (hm : idxFind B.idx (keyS suite name) = none) (n : Nat) (hn : n < 8) (hN : NamesC s p pb pw g m B suite n)
    (hc : CommitC s p pb pw g m B B1 (keyS suite name) (rcB rc0) 0) :
    Calls Tryz.prog 57 #[.pointer (some ⟨s, 0, none⟩), .string suite, .string name, .bool true] w fun e w' => e = .returned (.tuple #[recT 1 0 none 0 0, .int .i64 0]) ∧ StoreAt w' s p pb pw g m B1 ∧ Kp (fun b => b = pb ∨ b = s ∨ b = g ∨ b = m) w w' := by
  obtain ⟨l1, l2, l3, l4, l5, l6⟩ := h.lts
  obtain ⟨X, hX, HKX, HNX⟩ : ∃ X, w.alloc (.cells #[.int .u32 0, .int .u32 0, .slice none 0 0] 39) = X ∧ Hid (Kp (fun _ => False) w X) ∧ Hid (Blk X w.heap.size 39 #[.int .u32 0, .int .u32 0, .slice none 0 0]) :=
    ⟨_, rfl, Lib.hid ((Kp.refl _ w).alloc _), Lib.hid (Blk.at_top rfl)⟩
  have HST := Lib.hid h
  have HC := Lib.hid (load_missing X s p pb pw g m B (h.below HKX.out.below) suite name h1 h2 hm)
  have HNM := Lib.hid hN
  have z1 := nameB_size h1
  have z2 := nameB_size h2
  have HKE : Hid (∀ W, StoreAt W s p pb pw g m B → _) := Lib.hid fun W hW => keep_ok W s p pb pw g m B B1 hW suite name (by omega) (by omega) rc0 rc0_ok (fun _ => True) (.slice none 0 0) (EntsR.nil _ _) (by decide) 0 hc
  have t1 : decide ((8 : Int) ≤ (n : Int)) = false := decide_eq_false (by omega)
  clear h h1 h2 hm hN hc
  unfold zRec at HC
  go_enter Tryz.func57, Tryz.ntmps57
  go_wp2_with fail
  clear hX
  refine HC.out.mono ?_
  rintro e w1 ⟨rfl, hb1⟩
  have kx : Kp (fun _ => False) w1 (w1.alloc (.cells #[.int .u32 0, .int .u32 0, .slice none 0 0] 39)) := (Kp.refl _ w1).alloc _
  have HK1 := Lib.hid ((HKX.out.below_trans hb1).trans kx (fun _ x _ => x))
  have HN1 := Lib.hid ((HNX.out.kp (Kp.of_below hb1 (fun _ => False)) (fun x => x)).kp kx (fun x => x))
  have hz1 : w.heap.size < w1.heap.size := (HNX.out.kp (Kp.of_below hb1 (fun _ => False)) (fun x => x)).lt
  clear hb1 kx
  go_wp2_with fail
  refine (HNM.out _ (HST.out.below HK1.out.below)).mono ?_
  rintro e w2 ⟨⟨A, c, rfl⟩, hb2⟩
  have HK2 := Lib.hid (HK1.out.below_trans hb2)
  have HN2 := Lib.hid (HN1.out.kp (Kp.of_below hb2 (fun _ => False)) (fun x => x))
  have HM2 := Lib.hid ((Blk.new w1 39 #[.int .u32 0, .int .u32 0, .slice none 0 0]).kp (Kp.of_below hb2 (fun _ => False)) (fun x => x))
  obtain ⟨⟨y0, y1, y2⟩, g0, g1, g2⟩ := zero3 HM2.out
  have hlM := HM2.out.lt
  clear hb2
  obtain ⟨Y, hY, HKY, hkY, HMY, v0, v1, v2⟩ := fin3 HM2.out HK2.out (by omega) (.int .u32 1) (.int .u32 0) (.slice none 0 0)
  have HNY := Lib.hid (HN2.out.kp hkY (by omega))
  have hke := HKE.out Y (HST.out.below HKY.below)
  unfold rcV at hke
  have HKK := Lib.hid hke
  have HMYh := Lib.hid HMY
  have HKYh := Lib.hid HKY
  clear hke HKY hkY HMY
  go_wp2_with fail
  clear hY
  refine HKK.out.mono ?_
  rintro e w3 ⟨rfl, hst, hk3⟩
  have HS3 := Lib.hid hst
  have HK3 : Hid (Kp (fun b => b = pb ∨ b = s ∨ b = g ∨ b = m) w w3) := Lib.hid ((HKYh.out.mono (fun _ x => x.elim)).trans hk3 (fun _ x _ => x))
  have HN3 := Lib.hid (HNY.out.kp hk3 (by omega))
  have HM3 := Lib.hid (HMYh.out.kp hk3 (by omega))
  obtain ⟨⟨q0, q1, q2⟩, f0, f1, f2⟩ := zero3 HN3.out
  obtain ⟨p0, p1, p2⟩ := recs3 HM3.out
  have hlN := HN3.out.lt
  clear hst hk3 v0 v1 v2 y0 y1 y2 g0 g1 g2
  go_wp2_with fail
  obtain ⟨W5, hW5, hb5, hk5⟩ : ∃ W5, (((w3.setCell ⟨w.heap.size, 0, none⟩ (.int .u32 1)).setCell ⟨w.heap.size, 1, none⟩ (.int .u32 0)).setCell ⟨w.heap.size, 2, none⟩ (.slice none 0 0)) = W5 ∧ _ ∧ _ := ⟨_, rfl, set3 HN3.out (.int .u32 1) (.int .u32 0) (.slice none 0 0)⟩
  rw [hW5] at hb5 ⊢
  obtain ⟨u0, u1, u2⟩ := recs3 hb5
  exact bodyPost_ret (v := .tuple #[.agg #[.int .u32 1, .int .u32 0, .slice none 0 0], .int .i64 0]) (by simp [results, Tryz.results57, go_sem, u0, u1, u2]) rfl ⟨rfl, HS3.out.kp hk5 (by omega) (by omega) (by omega) (by omega) (by omega) (by omega), HK3.out.trans hk5 (fun b hb hlt => by omega)⟩
end Go.Proofs.YtnaphhfmccbamaaGreatDoor

namespace Go.Proofs
open Go.Shelf
def Tryz.keys142_ren : Go.Shelf.Ren := ⟨fun | 7 => 142 | 10 => 164 | n => n, fun | 23 => 95 | 26 => 9 | 3 => 190 | 28 => 224 | 0 => 0 | 27 => 223 | 33 => 60 | 4 => 4 | n => n, fun | n => n⟩
theorem Tryz.keys142 : Go.Proofs.SlLaysZ.n7 Tryz.prog Tryz.keys142_ren := {
  mixed := by kernel_rfl
  f7 := ⟨Tryz.f142.name, by decide, Tryz.func142.trans (congrArg some (by kernel_rfl))⟩
  f10 := ⟨Tryz.f164.name, by decide, Tryz.func164.trans (congrArg some (by kernel_rfl))⟩
  t0 := Tryz.underlying0
  a0 := Tryz.isAgg0
  z0 := Tryz.sizeOf0
  v0 := Tryz.zeroValue0
  t4 := Tryz.underlying4
  a4 := Tryz.isAgg4
  z4 := Tryz.sizeOf4
  v4 := Tryz.zeroValue4
  t23 := Tryz.underlying95
  a23 := Tryz.isAgg95
  z23 := Tryz.sizeOf95
  v23 := Tryz.zeroValue95
  t26 := Tryz.underlying9
  a26 := Tryz.isAgg9
  z26 := Tryz.sizeOf9
  v26 := Tryz.zeroValue9
  t27 := Tryz.underlying223
  a27 := Tryz.isAgg223
  z27 := Tryz.sizeOf223
  v27 := Tryz.zeroValue223
  t28 := Tryz.underlying224
  a28 := Tryz.isAgg224
  z28 := Tryz.sizeOf224
  v28 := Tryz.zeroValue224
  t33 := Tryz.underlying60
  a33 := Tryz.isAgg60
  z33 := Tryz.sizeOf60
  v33 := Tryz.zeroValue60 }
def Tryz.sorted141_ren : Go.Shelf.Ren := ⟨fun | 6 => 141 | 8 => 162 | 9 => 163 | 11 => 174 | 13 => 176 | 12 => 175 | 23 => 191 | 24 => 94 | 14 => 182 | 15 => 183 | 16 => 184 | 17 => 185 | 18 => 186 | 19 => 187 | 20 => 188 | 21 => 189 | 22 => 190 | 25 => 202 | 26 => 203 | 27 => 204 | 28 => 205 | 29 => 206 | 30 => 207 | 31 => 210 | n => n, fun | 26 => 9 | 28 => 224 | 24 => 27 | 0 => 0 | 3 => 3 | 37 => 132 | 48 => 36 | 50 => 127 | 4 => 4 | 40 => 266 | 39 => 265 | 45 => 122 | 5 => 5 | 9 => 9 | 51 => 279 | 55 => 283 | 57 => 286 | 58 => 287 | 33 => 60 | n => n, fun | n => n⟩
theorem Tryz.sorted141 : Go.Proofs.SlLaysZ.n6 Tryz.prog Tryz.sorted141_ren := {
  mixed := by kernel_rfl
  f6 := ⟨Tryz.f141.name, by decide, Tryz.func141.trans (congrArg some (by kernel_rfl))⟩
  f8 := ⟨Tryz.f162.name, by decide, Tryz.func162.trans (congrArg some (by kernel_rfl))⟩
  f11 := ⟨Tryz.f174.name, by decide, Tryz.func174.trans (congrArg some (by kernel_rfl))⟩
  t0 := Tryz.underlying0
  a0 := Tryz.isAgg0
  z0 := Tryz.sizeOf0
  v0 := Tryz.zeroValue0
  t24 := Tryz.underlying27
  a24 := Tryz.isAgg27
  z24 := Tryz.sizeOf27
  v24 := Tryz.zeroValue27
  t26 := Tryz.underlying9
  a26 := Tryz.isAgg9
  z26 := Tryz.sizeOf9
  v26 := Tryz.zeroValue9
  t28 := Tryz.underlying224
  a28 := Tryz.isAgg224
  z28 := Tryz.sizeOf224
  v28 := Tryz.zeroValue224
  i26 := by kernel_rfl }
def Tryz.sort163_ren : Go.Shelf.Ren := ⟨fun | 6 => 163 | 8 => 176 | 9 => 175 | 19 => 191 | 20 => 94 | 21 => 182 | 22 => 183 | 23 => 184 | 24 => 185 | 25 => 186 | 26 => 187 | 27 => 188 | 28 => 189 | 29 => 190 | 36 => 202 | 31 => 203 | 32 => 204 | 37 => 205 | 38 => 206 | 39 => 207 | 41 => 210 | n => n, fun | 27 => 27 | 29 => 9 | 3 => 3 | 32 => 132 | 26 => 27 | 0 => 0 | 44 => 36 | 46 => 127 | 4 => 4 | 36 => 266 | 35 => 265 | 41 => 122 | 5 => 5 | 9 => 9 | 53 => 279 | 57 => 283 | 63 => 286 | 64 => 287 | n => n, fun | n => n⟩
theorem Tryz.sort163 : Go.Proofs.SlLaysM.n6 Tryz.prog Tryz.sort163_ren := {
  mixed := by kernel_rfl
  f6 := ⟨Tryz.f163.name, by decide, Tryz.func163.trans (congrArg some (by kernel_rfl))⟩
  f8 := Tryz.func176.trans (congrArg some (by kernel_rfl))
  f9 := ⟨Tryz.f175.name, by decide, Tryz.func175.trans (congrArg some (by kernel_rfl))⟩
  f19 := Tryz.func191.trans (congrArg some (by kernel_rfl))
  f20 := Tryz.func94.trans (congrArg some (by kernel_rfl))
  f21 := ⟨Tryz.f182.name, by decide, Tryz.func182.trans (congrArg some (by kernel_rfl))⟩
  f22 := ⟨Tryz.f183.name, by decide, Tryz.func183.trans (congrArg some (by kernel_rfl))⟩
  f23 := ⟨Tryz.f184.name, by decide, Tryz.func184.trans (congrArg some (by kernel_rfl))⟩
  f24 := ⟨Tryz.f185.name, by decide, Tryz.func185.trans (congrArg some (by kernel_rfl))⟩
  f25 := ⟨Tryz.f186.name, by decide, Tryz.func186.trans (congrArg some (by kernel_rfl))⟩
  f26 := ⟨Tryz.f187.name, by decide, Tryz.func187.trans (congrArg some (by kernel_rfl))⟩
  f27 := ⟨Tryz.f188.name, by decide, Tryz.func188.trans (congrArg some (by kernel_rfl))⟩
  f28 := ⟨Tryz.f189.name, by decide, Tryz.func189.trans (congrArg some (by kernel_rfl))⟩
  f29 := ⟨Tryz.f190.name, by decide, Tryz.func190.trans (congrArg some (by kernel_rfl))⟩
  f31 := Tryz.func203.trans (congrArg some (by kernel_rfl))
  f32 := Tryz.func204.trans (congrArg some (by kernel_rfl))
  f36 := ⟨Tryz.f202.name, by decide, Tryz.func202.trans (congrArg some (by kernel_rfl))⟩
  f37 := ⟨Tryz.f205.name, by decide, Tryz.func205.trans (congrArg some (by kernel_rfl))⟩
  f38 := ⟨Tryz.f206.name, by decide, Tryz.func206.trans (congrArg some (by kernel_rfl))⟩
  f39 := ⟨Tryz.f207.name, by decide, Tryz.func207.trans (congrArg some (by kernel_rfl))⟩
  f41 := ⟨Tryz.f210.name, by decide, Tryz.func210.trans (congrArg some (by kernel_rfl))⟩
  t0 := Tryz.underlying0
  a0 := Tryz.isAgg0
  z0 := Tryz.sizeOf0
  v0 := Tryz.zeroValue0
  t3 := Tryz.underlying3
  a3 := Tryz.isAgg3
  z3 := Tryz.sizeOf3
  v3 := Tryz.zeroValue3
  t4 := Tryz.underlying4
  a4 := Tryz.isAgg4
  z4 := Tryz.sizeOf4
  v4 := Tryz.zeroValue4
  t5 := Tryz.underlying5
  a5 := Tryz.isAgg5
  z5 := Tryz.sizeOf5
  v5 := Tryz.zeroValue5
  t9 := Tryz.underlying9
  a9 := Tryz.isAgg9
  z9 := Tryz.sizeOf9
  v9 := Tryz.zeroValue9
  t26 := Tryz.underlying27
  a26 := Tryz.isAgg27
  z26 := Tryz.sizeOf27
  v26 := Tryz.zeroValue27
  t27 := Tryz.underlying27
  a27 := Tryz.isAgg27
  z27 := Tryz.sizeOf27
  v27 := Tryz.zeroValue27
  t29 := Tryz.underlying9
  a29 := Tryz.isAgg9
  z29 := Tryz.sizeOf9
  v29 := Tryz.zeroValue9
  t32 := Tryz.underlying132
  a32 := Tryz.isAgg132
  z32 := Tryz.sizeOf132
  v32 := Tryz.zeroValue132
  t35 := Tryz.underlying265
  a35 := Tryz.isAgg265
  z35 := Tryz.sizeOf265
  v35 := Tryz.zeroValue265
  t36 := Tryz.underlying266
  a36 := Tryz.isAgg266
  z36 := Tryz.sizeOf266
  v36 := Tryz.zeroValue266
  t41 := Tryz.underlying122
  a41 := Tryz.isAgg122
  z41 := Tryz.sizeOf122
  v41 := Tryz.zeroValue122
  t44 := Tryz.underlying36
  a44 := Tryz.isAgg36
  z44 := Tryz.sizeOf36
  v44 := Tryz.zeroValue36
  t46 := Tryz.underlying127
  a46 := Tryz.isAgg127
  z46 := Tryz.sizeOf127
  v46 := Tryz.zeroValue127
  t53 := Tryz.underlying279
  a53 := Tryz.isAgg279
  z53 := Tryz.sizeOf279
  v53 := Tryz.zeroValue279
  t57 := Tryz.underlying283
  a57 := Tryz.isAgg283
  z57 := Tryz.sizeOf283
  v57 := Tryz.zeroValue283
  t63 := Tryz.underlying286
  a63 := Tryz.isAgg286
  z63 := Tryz.sizeOf286
  v63 := Tryz.zeroValue286
  t64 := Tryz.underlying287
  a64 := Tryz.isAgg287
  z64 := Tryz.sizeOf287
  v64 := Tryz.zeroValue287 }
end Go.Proofs

namespace Go.Proofs.YtnaphhfmccbamaaGreatDoor
open Go.RowKit Go.Maps Go.Sort Go.Shelf Go.WideElems Go.MapKept

theorem sorts (m : Nat) : AnyZ.SortsIn Tryz.prog Tryz.sorted141_ren Fence.wide m :=
  ⟨fun blk off cap ss W hH hblk hsz => callsIn_wide.2 (AnyM.slices_Sort_string Tryz.sort163 blk off cap ss W hH hblk hsz),
   fun p cap W => callsIn_wide.2 (AnyM.slices_Sort_string_none Tryz.sort163 p cap W)⟩
theorem mapsKeys (mb : Option Nat) (W : World) : Calls Tryz.prog 142 #[.map mb] W fun e w' => e = .returned (.func (.func 164) #[] #[.pointer (some ⟨W.heap.size, 0, none⟩)]) ∧ w' = W.alloc (.cells #[.map mb] 95) :=
  callsIn_wide.1 (AnyZ.keys_in Tryz.keys142 Fence.wide 5 trivial rfl mb W)
set_option maxHeartbeats 1000000 in
theorem sortedKeys {H : Type} (b nn : Nat) (D0 : DataW H) (R : Value → Option (DataW H × List MemPlace)) (w : World) (hown : w.ownsMap Tryz.prog 9 R b nn D0) (hmax : Maps.size D0 ≤ maxLen) (hbytes : Maps.size D0 * 16 ≤ 140737488355328) :
    Calls Tryz.prog 141 #[.func (.func 164) #[] #[.pointer (some ⟨w.heap.size, 0, none⟩)]] (w.alloc (.cells #[.map (some b)] 95)) fun e w' => ∃ (v : Value) (ss : List (List UInt8)), e = .returned v ∧ ss.Perm (strKeys D0) ∧
      w'.ownsRow (w.alloc (.cells #[.map (some b)] 95)).heap.size 9 1 v ss.length ((ss.mergeSort (fun x y => decide (x ≤ y))).map encStr) ∧ (v = .slice none 0 0 ↔ ss = []) ∧ Below (w.alloc (.cells #[.map (some b)] 95)).heap.size (w.alloc (.cells #[.map (some b)] 95)) w' := by
  have hbl := hown.lt
  have hseq : SeqGives Fence.wide 2 Tryz.prog 164 #[.pointer (some ⟨w.heap.size, 0, none⟩)] encStr (fun ss => ss.Perm (strKeys D0)) (Maps.size D0) (w.alloc (.cells #[.map (some b)] 95)) :=
    AnyZ.keys_gives (ρ := Tryz.keys142_ren) { Tryz.keys142 with } Fence.wide _ trivial rfl (by omega) w.heap.size b nn D0 _ (by simp) (by simp) (by
      obtain ⟨es, clock, hb, Ft, hs, hD⟩ := hown
      exact ⟨es, clock, (Below.heap_alloc _ _ b hbl).trans hb, Ft, hs, hD⟩)
  exact callsIn_wide.1 (AnyZ.sorted_in Tryz.sorted141 Fence.wide 5 trivial trivial trivial trivial rfl (by omega) (sorts _) (enters_of Tryz.func163 (by kernel_rfl) rfl) 164 #[.pointer (some ⟨w.heap.size, 0, none⟩)] trivial (enters_of Tryz.func164 (by kernel_rfl) rfl) _ _ hmax hbytes _ hseq)

def noR : Value → Option (DataW Unit × List MemPlace) := fun _ => some (.nil, [])
theorem rd_no {P : Program} {kt : TypeId} (hkt : P.underlying kt = some .string) {e : MapEntry} {k : ByteArray} (he : e.key = .string k) (hk : k.size ≤ 1000000) : Go.WideElems.rd P kt noR e = some (.string k.data.toList, .nil) := by
  have hkey : keyOf P kt e.key = some (.string k.data.toList) := by
    have hk' : k.size ≤ maxLen := Nat.le_trans hk (by decide)
    rw [he]
    simp [keyOf, hkt, mapKey, hk']
  unfold Go.WideElems.rd
  rw [hkey]
  rfl
theorem MapIs.owns {P : Program} {kt : TypeId} (hkt : P.underlying kt = some .string) {w : World} {m : Nat} {l : List (ByteArray × Value)} (h : MapIs w m l) (hl : l.length ≤ 1000000) (hk : ∀ x ∈ l, x.1.size ≤ 1000000) :
    ∃ D : DataW Unit, w.ownsMap P kt noR m l.length D ∧ (strKeys D).Perm (l.map (fun x => x.1.data.toList)) ∧ Maps.size D = l.length := by
  obtain ⟨es, clock, hb, hs, he⟩ := h
  have hlen : es.size = l.length := by
    have := congrArg List.length he
    simpa using this
  have hread : ∀ x ∈ es.toList, ∃ k, x.key = .string k ∧ k.size ≤ 1000000 := fun x hx => by
    have : (x.key, x.val) ∈ l.map (fun x => (Value.string x.1, x.2)) := by rw [← he]; exact List.mem_map.2 ⟨x, hx, rfl⟩
    obtain ⟨y, hy, hyx⟩ := List.mem_map.1 this
    injection hyx with h1 h2
    exact ⟨y.1, h1.symm, hk y hy⟩
  refine ⟨_, ⟨es, clock, hb, ⟨by unfold maxLen; omega, hs, fun x hx => ?_⟩, by omega, rfl⟩, ?_, ?_⟩
  · obtain ⟨k, h1, h2⟩ := hread x hx
    exact ⟨_, rd_no hkt h1 h2⟩
  · have e1 : ∀ (L : List (Lit × DataW Unit)), strKeys (.map L) = L.map fun p => strOf p.1 := fun L => rfl
    rw [e1]
    refine ((Go.WideShapes.sorted_perm _).map _).trans ?_
    have e2 : (es.toList.map (rg P kt noR)).map (fun p => strOf p.1) = l.map (fun x => x.1.data.toList) := by
      have h3 : es.toList.map (fun e => (match e.key with | .string k => k.data.toList | _ => [])) = l.map (fun x => x.1.data.toList) := by
        have := congrArg (List.map (fun q : Value × Value => (match q.1 with | .string k => k.data.toList | _ => ([] : List UInt8)))) he
        simpa [List.map_map, Function.comp_def] using this
      rw [← h3, List.map_map]
      refine List.map_congr_left fun x hx => ?_
      obtain ⟨k, h1, h2⟩ := hread x hx
      have e3 := rg_of (rd_no hkt h1 h2)
      refine Eq.trans (congrArg (fun z : Lit × DataW Unit => strOf z.1) e3) ?_
      rw [h1]
      rfl
    rw [e2]
  · show (List.foldr DataW.insert [] (es.toList.map (rg P kt noR))).length = _
    rw [length_sorted]
    simpa using hlen

theorem index_none (w : World) (fn : Value) (c : Nat) : Calls Tryz.prog 165 #[.slice none 0 c, fn] w fun e w' => e = .returned (.int .i64 (-1)) ∧ w = w' := by
  go_enter Tryz.func165, Tryz.ntmps165
  go_wp2_with fail
  go_loop [8] (fun i => i = .int .i64 0) (fun i => 0)
  case atStart => exact rfl
  case round =>
    obtain rfl := hrel
    go_wp2
    go_ret
    exact ⟨rfl, rfl⟩
theorem delete_none (w : World) (fn : Value) (c : Nat) : Calls Tryz.prog 143 #[.slice none 0 c, fn] w fun e w' => e = .returned (.slice none 0 c) ∧ w = w' := by
  go_enter Tryz.func143, Tryz.ntmps143
  go_wp2_with fail
  refine (index_none w fn c).mono ?_
  rintro e w' ⟨rfl, rfl⟩
  go_wp2
  go_ret
  exact ⟨rfl, rfl⟩

set_option maxRecDepth 100000 in
theorem Keys_none (w : World) (s p pb pw g m : Nat) (B : BS) (h : StoreAt w s p pb pw g m B) (hi : B.idx = []) (pre : ByteArray) :
    Calls Tryz.prog 118 #[.pointer (some ⟨s, 0, none⟩), .string pre] w fun e w' => e = .returned (.slice none 0 0) ∧ Below w.heap.size w w' := by
  have hm := (h.alloc (.cells #[.string pre] 9)).map
  rw [hi] at hm
  obtain ⟨D, hD, hP, hsz⟩ := hm.owns Tryz.underlying9 (by simp) (by simp)
  have hC := sortedKeys m _ D noR _ hD (by rw [hsz]; simp [maxLen]) (by rw [hsz]; simp)
  have ez : (w.alloc (.cells #[.string pre] 9)).heap.size = w.heap.size + 1 := by simp
  rw [ez] at hC
  have HC := Lib.hid hC
  clear hC ez
  have HP := Lib.hid hP
  obtain ⟨c, hc, hb, hs, c0, c1, c2, c3, c4, c5, c6, c7, c8, c9, c10⟩ := (h.alloc (.cells #[.string pre] 9)).cells
  have c5' : w.cell? ⟨s, 5, none⟩ = some (.map (some m)) := by
    obtain ⟨_, _, _, _, _, _, _, _, _, c5, _⟩ := h.cells
    exact c5
  have hs' := h.lts.1
  have HK0 : Hid (Kp (fun _ => False) w (w.alloc (.cells #[.string pre] 9))) := Lib.hid ((Kp.refl _ w).alloc _)
  clear h hm hD hP hsz hb c0 c1 c2 c3 c4 c6 c7 c8 c9 c10 c5 hs hi hc
  go_enter Tryz.func118, Tryz.ntmps118
  go_wp2_with fail
  have hmk := mapsKeys (some m) (w.alloc (.cells #[.string pre] 9))
  refine hmk.mono ?_
  rintro e w1 ⟨rfl, rfl⟩
  go_wp2_with fail
  refine HC.out.mono ?_
  rintro e w2 ⟨v, ss, rfl, hperm, _, hv, hb2⟩
  have hss : ss = [] := by
    have := hperm.trans HP.out
    simpa using this
  obtain rfl := hv.2 hss
  have HK2 := Lib.hid ((HK0.out.alloc _).below_trans hb2).below
  clear hperm hv hb2 hss
  go_wp2_with fail
  refine (delete_none _ _ _).mono ?_
  rintro e w3 ⟨rfl, hw3⟩
  obtain rfl : w2 = w3 := hw3
  go_wp2
  go_ret
  exact ⟨rfl, HK2.out⟩

set_option maxRecDepth 100000 in
theorem Names_none (s p pb pw g m : Nat) (B : BS) (hi : B.idx = []) (suite : ByteArray) (h1 : nameB suite = true) : NamesC s p pb pw g m B suite 0 := by
  intro W hW
  have HST := Lib.hid hW
  have hn := IsName_any suite W
  rw [h1] at hn
  have HN := Lib.hid hn
  have z1 := nameB_size h1
  clear hW hn h1
  go_enter Tryz.func85, Tryz.ntmps85
  go_wp2_with fail
  refine HN.out.mono ?_
  rintro e w1 ⟨rfl, hb1⟩
  have HK1 := Lib.hid (Kp.of_below hb1 (fun _ => False))
  clear hb1
  go_wp2_with fail
  refine (prefix_any suite (by omega) w1).mono ?_
  rintro e w2 ⟨rfl, hw2⟩
  obtain rfl : w1 = w2 := hw2
  go_wp2_with fail
  refine (Keys_none w1 s p pb pw g m B (HST.out.below HK1.out.below) hi _).mono ?_
  rintro e w3 ⟨rfl, hb3⟩
  have HK3 := Lib.hid (HK1.out.below_trans hb3)
  clear hb3
  go_wp2_with fail
  go_loop [5, 17] (fun u i => u = .slice none 0 0 ∧ i = .int .i64 0) (fun _ i => 0)
  case atStart => exact ⟨rfl, rfl⟩
  case round =>
    obtain ⟨rfl, rfl⟩ := hrel
    go_wp2
    go_ret
    exact ⟨⟨none, 0, rfl⟩, HK3.out.below⟩
end Go.Proofs.YtnaphhfmccbamaaGreatDoor

namespace Go.Proofs.YtnaphhfmccbamaaGreatDoor
open Go.RowKit

/-- What open tells, for its callers: an error, and how many entries there are. -/
def OpenC (w : World) (v : Value) (cr : Bool) (er : Nat) (P : Nat → World → Prop) : Prop :=
  Calls Tryz.prog 32 #[v, .bool cr] w fun e w' => ∃ n ver A k c, e = .returned (.tuple #[recT n ver A k c, .int .i64 er]) ∧ P k w'
theorem ne0 {er : Nat} (h : er ≠ 0) : ((er : Int) != 0) = true := by rw [bne_iff_ne]; omega
theorem ne11 {er : Nat} (h : er ≠ 11) : ((er : Int) != 11) = true := by rw [bne_iff_ne]; omega

set_option maxRecDepth 100000 in
theorem Count_bad (w : World) (v : Value) (er : Nat) (h0 : er ≠ 0) (h11 : er ≠ 11) (P : Nat → World → Prop) (HO : OpenC w v false er P) :
    Calls Tryz.prog 15 #[v] w fun e w' => e = .returned (.tuple #[.int .i32 0, .int .i64 er]) ∧ ∃ k w1, P k w1 ∧ Kp (fun _ => False) w1 w' := by
  have t1 := ne0 h0
  have t2 := ne11 h11
  have HH := Lib.hid HO
  clear HO h0 h11
  go_enter Tryz.func15, Tryz.ntmps15
  go_wp2_with fail
  refine HH.out.mono ?_
  rintro e w1 ⟨n, ver, A, k, c, rfl, hp⟩
  unfold recT
  have HP := Lib.hid hp
  clear hp
  go_wp2_with fail
  go_ret2
  exact ⟨rfl, k, w1, HP.out, (Kp.refl _ w1).alloc _⟩
set_option maxRecDepth 100000 in
theorem Count_good (w : World) (v : Value) (er : Nat) (her : er = 0 ∨ er = 11) (P : Nat → World → Prop) (hk : ∀ k w', P k w' → k ≤ 64) (HO : OpenC w v false er P) :
    Calls Tryz.prog 15 #[v] w fun e w' => ∃ k w1, e = .returned (.tuple #[.int .i32 (k : Nat), .int .i64 0]) ∧ P k w1 ∧ Kp (fun _ => False) w1 w' := by
  have HH := Lib.hid HO
  have HK := Lib.hid hk
  clear HO hk
  rcases her with rfl | rfl
  all_goals
    go_enter Tryz.func15, Tryz.ntmps15
    go_wp2_with fail
    refine HH.out.mono ?_
    rintro e w1 ⟨n, ver, A, k, c, rfl, hp⟩
    unfold recT
    have h64 := HK.out k w1 hp
    have tw : IntKind.i32.wrap (k : Int) = k := by rw [IntKind.wrap_i32]; omega
    have HP := Lib.hid hp
    clear hp
    go_wp2_with fail
    go_ret2
    exact ⟨k, w1, rfl, HP.out, (Kp.refl _ w1).alloc _⟩
set_option maxRecDepth 100000 in
theorem Get_bad (w : World) (v : Value) (id : Int) (er : Nat) (h0 : er ≠ 0) (h11 : er ≠ 11) (P : Nat → World → Prop) (HO : OpenC w v false er P) :
    Calls Tryz.prog 18 #[v, .int .i32 id] w fun e w' => e = .returned (.tuple #[.slice none 0 0, .bool false, .int .i64 er]) ∧ ∃ k w1, P k w1 ∧ Kp (fun _ => False) w1 w' := by
  have t1 := ne0 h0
  have t2 := ne11 h11
  have HH := Lib.hid HO
  clear HO h0 h11
  go_enter Tryz.func18, Tryz.ntmps18
  go_wp2_with fail
  refine HH.out.mono ?_
  rintro e w1 ⟨n, ver, A, k, c, rfl, hp⟩
  unfold recT
  have HP := Lib.hid hp
  clear hp
  go_wp2_with fail
  go_ret3
  exact ⟨rfl, k, w1, HP.out, (Kp.refl _ w1).alloc _⟩
set_option maxRecDepth 100000 in
theorem Add_bad (w : World) (v : Value) (A0 : Option Addr) (n0 c0 : Nat) (er : Nat) (h0 : er ≠ 0) (P : Nat → World → Prop) (HO : OpenC w v true er P) :
    Calls Tryz.prog 17 #[v, .slice A0 n0 c0] w fun e w' => e = .returned (.tuple #[.int .i32 0, .int .i64 er]) ∧ ∃ k w1, P k w1 ∧ Kp (fun _ => False) w1 w' := by
  have t1 := ne0 h0
  have HH := Lib.hid HO
  clear HO h0
  go_enter Tryz.func17, Tryz.ntmps17
  go_wp2_with fail
  refine HH.out.mono ?_
  rintro e w1 ⟨n, ver, A, k, c, rfl, hp⟩
  unfold recT
  have HP := Lib.hid hp
  clear hp
  go_wp2_with fail
  go_ret2
  exact ⟨rfl, k, w1, HP.out, (Kp.refl _ w1).alloc _⟩
set_option maxRecDepth 100000 in
theorem changes_bad (w : World) (v : Value) (id : Int) (fn : Value) (er : Nat) (h0 : er ≠ 0) (P : Nat → World → Prop) (HO : OpenC w v false er P) :
    Calls Tryz.prog 35 #[v, .int .i32 id, fn] w fun e w' => e = .returned (.int .i64 er) ∧ ∃ k w1, P k w1 ∧ Kp (fun _ => False) w1 w' := by
  have t1 := ne0 h0
  have HH := Lib.hid HO
  clear HO h0
  go_enter Tryz.func35, Tryz.ntmps35
  go_wp2_with fail
  refine HH.out.mono ?_
  rintro e w1 ⟨n, ver, A, k, c, rfl, hp⟩
  unfold recT
  have HP := Lib.hid hp
  clear hp
  go_wp2_with fail
  go_ret
  exact ⟨rfl, k, w1, HP.out, (Kp.refl _ w1).alloc _⟩
set_option maxRecDepth 100000 in
theorem Set_bad (w : World) (vp : Option Addr) (id : Int) (A0 : Option Addr) (n0 c0 : Nat) (er : Nat) (h0 : er ≠ 0) (P : Nat → World → Prop) (HO : ∀ W, Kp (fun _ => False) w W → OpenC W (.pointer vp) false er P) :
    Calls Tryz.prog 19 #[.pointer vp, .int .i32 id, .slice A0 n0 c0] w fun e w' => e = .returned (.int .i64 er) ∧ ∃ k w1, P k w1 ∧ Kp (fun _ => False) w1 w' := by
  have HC := Lib.hid (changes_bad _ (.pointer vp) id (.func (.func 36) #[] #[.pointer (some ⟨w.heap.size, 0, none⟩), .pointer (some ⟨w.heap.size + 1, 0, none⟩)]) er h0 P (HO ((w.alloc (.cells #[.pointer vp] 24)).alloc (.cells #[.slice A0 n0 c0] 31)) (((Kp.refl _ w).alloc _).alloc _)))
  clear HO h0
  go_enter Tryz.func19, Tryz.ntmps19
  go_wp2_with fail
  refine HC.out.mono ?_
  rintro e w1 ⟨rfl, k, w2, hp, hk⟩
  have HP := Lib.hid hp
  have HK := Lib.hid hk
  clear hp hk
  go_wp2
  go_ret
  exact ⟨rfl, k, w2, HP.out, HK.out⟩
set_option maxRecDepth 100000 in
theorem Del_bad (w : World) (vp : Option Addr) (id : Int) (er : Nat) (h0 : er ≠ 0) (P : Nat → World → Prop) (HO : ∀ W, Kp (fun _ => False) w W → OpenC W (.pointer vp) false er P) :
    Calls Tryz.prog 20 #[.pointer vp, .int .i32 id] w fun e w' => e = .returned (.int .i64 er) ∧ ∃ k w1, P k w1 ∧ Kp (fun _ => False) w1 w' := by
  have HC := Lib.hid (changes_bad _ (.pointer vp) id (.func (.func 38) #[] #[.pointer (some ⟨w.heap.size, 0, none⟩)]) er h0 P (HO (w.alloc (.cells #[.pointer vp] 24)) ((Kp.refl _ w).alloc _)))
  clear HO h0
  go_enter Tryz.func20, Tryz.ntmps20
  go_wp2_with fail
  refine HC.out.mono ?_
  rintro e w1 ⟨rfl, k, w2, hp, hk⟩
  have HP := Lib.hid hp
  have HK := Lib.hid hk
  clear hp hk
  go_wp2
  go_ret
  exact ⟨rfl, k, w2, HP.out, HK.out⟩
end Go.Proofs.YtnaphhfmccbamaaGreatDoor

namespace Go.Proofs.YtnaphhfmccbamaaGreatDoor
open Go.RowKit

theorem isNaN_u32 (n : Nat) (w : World) : Calls Tryz.prog 77 #[.int .u32 n] w fun e w' => e = .returned (.bool false) ∧ w = w' := by
  have t1 : ((n : Int) != n) = false := by simp
  go_enter Tryz.func77, Tryz.ntmps77
  go_wp2
  go_ret
  exact ⟨rfl, rfl⟩
def cmpN (a b : Nat) : Int := if a < b then -1 else if b < a then 1 else 0
theorem cmp_u32 (a b : Nat) (w : World) : Calls Tryz.prog 47 #[.int .u32 a, .int .u32 b] w fun e w' => e = .returned (.int .i64 (cmpN a b)) ∧ w = w' := by
  have h : (cmpN a b = -1 ∧ a < b) ∨ (cmpN a b = 1 ∧ ¬ a < b ∧ b < a) ∨ (cmpN a b = 0 ∧ ¬ a < b ∧ ¬ b < a) := by
    unfold cmpN
    by_cases h1 : a < b
    · exact .inl ⟨by rw [if_pos h1], h1⟩
    · by_cases h2 : b < a
      · exact .inr (.inl ⟨by rw [if_neg h1, if_pos h2], h1, h2⟩)
      · exact .inr (.inr ⟨by rw [if_neg h1, if_neg h2], h1, h2⟩)
  rcases h with ⟨e, h1⟩ | ⟨e, h1, h2⟩ | ⟨e, h1, h2⟩
  · rw [e]
    clear e
    have t1 : decide (a < b) = true := decide_eq_true h1
    go_enter Tryz.func47, Tryz.ntmps47
    go_wp2_with (refine (isNaN_u32 _ _).mono ?_; rintro e w' ⟨rfl, rfl⟩)
    go_ret
    exact ⟨rfl, rfl⟩
  · rw [e]
    clear e
    have t1 : decide (a < b) = false := decide_eq_false h1
    have t2 : decide (b < a) = true := decide_eq_true h2
    go_enter Tryz.func47, Tryz.ntmps47
    go_wp2_with (refine (isNaN_u32 _ _).mono ?_; rintro e w' ⟨rfl, rfl⟩)
    go_ret
    exact ⟨rfl, rfl⟩
  · rw [e]
    clear e
    have t1 : decide (a < b) = false := decide_eq_false h1
    have t2 : decide (b < a) = false := decide_eq_false h2
    go_enter Tryz.func47, Tryz.ntmps47
    go_wp2_with (refine (isNaN_u32 _ _).mono ?_; rintro e w' ⟨rfl, rfl⟩)
    go_ret
    exact ⟨rfl, rfl⟩
theorem find1_any (a b : Nat) (A : Option Addr) (n c : Nat) (w : World) : Calls Tryz.prog 92 #[.agg #[.int .u32 a, .slice A n c], .int .u32 b] w fun e w' => e = .returned (.int .i64 (cmpN a b)) ∧ Below w.heap.size w w' := by
  go_enter Tryz.func92, Tryz.ntmps92
  go_wp2_with fail
  refine (cmp_u32 a b _).mono ?_
  rintro e w' ⟨rfl, rfl⟩
  go_wp2
  go_ret
  exact ⟨rfl, (Below.refl _ _).alloc (Nat.le_refl _) _⟩

/-- k parts the IDs below id from the others. -/
def Low (l : List (Nat × List UInt8)) (id k : Nat) : Prop := k ≤ l.length ∧ (∀ i (h : i < l.length), i < k → l[i].1 < id) ∧ (∀ i (h : i < l.length), k ≤ i → id ≤ l[i].1)
structure BsPost (l : List (Nat × List UInt8)) (id : Nat) (e : Ending) : Prop where
  out : ∃ (k : Nat) (f : Bool), e = .returned (.tuple #[.int .i64 k, .bool f]) ∧ Low l id k ∧ (f = true ↔ ∃ h : k < l.length, l[k].1 = id)

set_option maxRecDepth 100000 in
set_option maxHeartbeats 1000000 in
theorem bsearch_any (l : List (Nat × List UInt8)) (hlen : l.length ≤ 64) (hs : ∀ i j (hi : i < l.length) (hj : j < l.length), i ≤ j → l[i].1 ≤ l[j].1) (id : Nat) (w : World) (ok : Nat → Prop) (lv : Value) (hl : EntsR ok w lv l) :
    Calls Tryz.prog 91 #[lv, .int .u32 id, .func (.func 92) #[] #[]] w fun e w' => BsPost l id e ∧ Below w.heap.size w w' := by
  obtain ⟨A, c, rfl, hc, hx⟩ := hl.out
  have HX := Lib.hid hx
  have HS := Lib.hid hs
  have hent := enters_of Tryz.func92 (by kernel_rfl) rfl
  clear hl hx hs
  go_enter Tryz.func91, Tryz.ntmps91
  go_wp2_with fail
  go_loopw [9, 10] (fun i j wr => ∃ a b : Nat, a ≤ b ∧ b ≤ l.length ∧ i = .int .i64 a ∧ j = .int .i64 b ∧ Hid (∀ i (h : i < l.length), i < a → l[i].1 < id) ∧ Hid (∀ i (h : i < l.length), b ≤ i → id ≤ l[i].1) ∧ Hid (Below w.heap.size w wr)) (fun i j _ => ((intOf j) - (intOf i)).toNat)
  case atStart => exact ⟨0, l.length, Nat.zero_le _, Nat.le_refl _, rfl, rfl, Lib.hid (fun _ _ h => by omega), Lib.hid (fun _ _ h => by omega), Lib.hid (Below.refl _ _)⟩
  case round =>
    obtain ⟨a, b, hab, hbl, rfl, rfl, HLO, HHI, HB⟩ := hrel
    by_cases hlt : a < b
    · obtain ⟨h, hh, hh1, hh2⟩ : ∃ h, (a + b) / 2 = h ∧ a ≤ h ∧ h < b := ⟨_, rfl, by omega, by omega⟩
      obtain ⟨g, rfl, hg, hgl, hi⟩ := HX.out (by omega)
      obtain ⟨dv, d1, d2, d3⟩ := hi h (by omega)
      obtain ⟨dA, dc, rfl, _⟩ := d3.form
      have y1 : wr.cell? ⟨g, h * 2, none⟩ = some (.int .u32 (l[h]'(by omega)).1) := (HB.out.cell (p := ⟨g, h * 2, none⟩) hgl).trans d1
      have y2 : wr.cell? ⟨g, h * 2 + 1, none⟩ = _ := (HB.out.cell (p := ⟨g, h * 2 + 1, none⟩) hgl).trans d2
      have tw : ((a : Int) + (b : Int)) / 2 = (h : Int) := by omega
      have hhl : h < l.length := by omega
      obtain ⟨x, hx⟩ : ∃ x, (l[h]'hhl).1 = x := ⟨_, rfl⟩
      obtain ⟨dn, hdn⟩ : ∃ n, (bytesV (l[h]'hhl).2).length = n := ⟨_, rfl⟩
      rw [hx] at y1
      rw [hdn] at y2
      have HXE := Lib.hid hx
      clear hi d1 d2 d3 hh hx hdn
      by_cases hxi : x < id
      · have t1 : decide (cmpN x id < 0) = true := decide_eq_true (by unfold cmpN; rw [if_pos hxi]; omega)
        have HLO2 : Hid (∀ i (hi : i < l.length), i < h + 1 → l[i].1 < id) := Lib.hid fun i hi hih => by
          have := HS.out i h hi hhl (by omega)
          rw [HXE.out] at this
          omega
        clear hxi
        go_wp2_with fail
        refine (find1_any x id dA dn dc wr).mono ?_
        rintro e w2 ⟨rfl, hb2⟩
        have HB2 : Hid (Below w.heap.size w w2) := Lib.hid (HB.out.trans (hb2.mono HB.out.size))
        clear hb2
        go_wp2
        go_roundw
        case rel => exact ⟨h + 1, b, by omega, hbl, by go_num, rfl, HLO2, HHI, HB2⟩
        case measure => simp [intOf]; omega
      · have t1 : decide (cmpN x id < 0) = false := decide_eq_false (by unfold cmpN; rw [if_neg hxi]; split <;> omega)
        have HHI2 : Hid (∀ i (hi : i < l.length), h ≤ i → id ≤ l[i].1) := Lib.hid fun i hi hih => by
          have := HS.out h i hhl hi hih
          rw [HXE.out] at this
          omega
        clear hxi
        go_wp2_with fail
        refine (find1_any x id dA dn dc wr).mono ?_
        rintro e w2 ⟨rfl, hb2⟩
        have HB2 : Hid (Below w.heap.size w w2) := Lib.hid (HB.out.trans (hb2.mono HB.out.size))
        clear hb2
        go_wp2
        go_roundw
        case rel => exact ⟨a, h, by omega, by omega, rfl, rfl, HLO, HHI2, HB2⟩
        case measure => simp [intOf]; omega
    · obtain rfl : a = b := by omega
      by_cases hal : a < l.length
      · obtain ⟨g, rfl, hg, hgl, hi⟩ := HX.out (by omega)
        obtain ⟨dv, d1, d2, d3⟩ := hi a hal
        obtain ⟨dA, dc, rfl, _⟩ := d3.form
        have y1 : wr.cell? ⟨g, a * 2, none⟩ = some (.int .u32 l[a].1) := (HB.out.cell (p := ⟨g, a * 2, none⟩) hgl).trans d1
        have y2 : wr.cell? ⟨g, a * 2 + 1, none⟩ = _ := (HB.out.cell (p := ⟨g, a * 2 + 1, none⟩) hgl).trans d2
        obtain ⟨x, hx⟩ : ∃ x, l[a].1 = x := ⟨_, rfl⟩
        obtain ⟨dn, hdn⟩ : ∃ n, (bytesV l[a].2).length = n := ⟨_, rfl⟩
        rw [hx] at y1
        rw [hdn] at y2
        have HXE := Lib.hid hx
        obtain ⟨f, hf⟩ : ∃ f, (cmpN x id == 0) = f := ⟨_, rfl⟩
        have HPO : Hid (BsPost l id (.returned (.tuple #[.int .i64 a, .bool f]))) := Lib.hid ⟨a, f, rfl, ⟨hbl, HLO.out, HHI.out⟩, by
          rw [← hf]
          constructor
          · intro h0
            refine ⟨hal, ?_⟩
            rw [hx]
            have h0' : cmpN x id = 0 := by simpa using h0
            unfold cmpN at h0'
            split at h0'
            · omega
            · split at h0' <;> omega
          · rintro ⟨_, h0⟩
            rw [hx] at h0
            subst h0
            simp [cmpN]⟩
        clear hi d1 d2 d3 hx hdn
        go_wp2_with fail
        refine (find1_any x id dA dn dc wr).mono ?_
        rintro e w2 ⟨rfl, hb2⟩
        have HB2 : Hid (Below w.heap.size w w2) := Lib.hid (HB.out.trans (hb2.mono HB.out.size))
        clear hb2
        go_wp2
        go_ret2
        exact ⟨HPO.out, HB2.out⟩
      · have HPO : Hid (BsPost l id (.returned (.tuple #[.int .i64 a, .bool false]))) := Lib.hid ⟨a, false, rfl, ⟨hbl, HLO.out, HHI.out⟩, by
          constructor
          · intro h; cases h
          · rintro ⟨h, _⟩; exact absurd h hal⟩
        go_wp2
        go_ret2
        exact ⟨HPO.out, HB.out⟩
end Go.Proofs.YtnaphhfmccbamaaGreatDoor

namespace Go.Proofs.YtnaphhfmccbamaaGreatDoor
open Go.RowKit

theorem OkFrom.lt_all : ∀ {l : List (Nat × List UInt8)} {nx b : Nat} (_ : OkFrom nx b l) (i : Nat) (hi : i < l.length), b < l[i].1
  | y :: l, nx, b, h, 0, _ => h.1
  | y :: l, nx, b, h, i + 1, hi => by
    have := OkFrom.lt_all h.2.2.2 i (by simpa using hi)
    have := h.1
    simp only [List.getElem_cons_succ]
    omega
theorem OkFrom.sorted : ∀ {l : List (Nat × List UInt8)} {nx b : Nat} (_ : OkFrom nx b l) (i j : Nat) (hi : i < l.length) (hj : j < l.length), i ≤ j → l[i].1 ≤ l[j].1
  | y :: l, nx, b, h, 0, 0, _, _, _ => Nat.le_refl _
  | y :: l, nx, b, h, 0, j + 1, _, hj, _ => by
    have := OkFrom.lt_all h.2.2.2 j (by simpa using hj)
    simp only [List.getElem_cons_zero, List.getElem_cons_succ]
    omega
  | y :: l, nx, b, h, i + 1, j + 1, hi, hj, hij => by
    simp only [List.getElem_cons_succ]
    exact OkFrom.sorted h.2.2.2 i j (by simpa using hi) (by simpa using hj) (by omega)

set_option maxRecDepth 100000 in
theorem find_any (r : Rc) (hr : RcOk r) (id : Nat) (w : World) (ok : Nat → Prop) (lv : Value) (hl : EntsR ok w lv r.list) :
    Calls Tryz.prog 61 #[rcV r lv, .int .u32 id] w fun e w' => BsPost r.list id e ∧ Below w.heap.size w w' := by
  obtain ⟨A, c, rfl, _⟩ := hl.form
  have kx : Kp (fun _ => False) w (w.alloc (.cells #[.int .u32 r.next, .int .u32 r.ver, .slice A r.list.length c] 39)) := (Kp.refl _ w).alloc _
  have HC := Lib.hid (bsearch_any r.list hr.len (fun i j hi hj hij => hr.list.sorted i j hi hj hij) id _ ok _ (hl.kp kx (fun _ _ _ x => x)))
  have HK := Lib.hid kx
  unfold rcV
  clear hl hr kx
  go_enter Tryz.func61, Tryz.ntmps61
  go_wp2_with fail
  refine HC.out.mono ?_
  rintro e w' ⟨⟨k, f, rfl, hlow, hf⟩, hb⟩
  have HPO : Hid (BsPost r.list id (.returned (.tuple #[.int .i64 k, .bool f]))) := Lib.hid ⟨k, f, rfl, hlow, hf⟩
  have HB := Lib.hid (HK.out.below_trans hb).below
  clear hlow hf hb
  go_wp2
  go_ret2
  exact ⟨HPO.out, HB.out⟩

structure GetPost (base : Nat) (l : List (Nat × List UInt8)) (id : Nat) (e : Ending) (w' : World) : Prop where
  out : (∃ (k : Nat) (h : k < l.length) (dv : Value), l[k].1 = id ∧ e = .returned (.tuple #[dv, .int .i64 0]) ∧ Sl (fun b => base ≤ b) w' dv (bytesV l[k].2)) ∨ ((∀ i (h : i < l.length), l[i].1 ≠ id) ∧ e = .returned (.tuple #[.slice none 0 0, .int .i64 11]))

set_option maxRecDepth 100000 in
theorem rmsGet_ok (w : World) (s p pb pw g m : Nat) (B : BS) (h : StoreAt w s p pb pw g m B) (suite name : ByteArray) (h1 : nameB suite = true) (h2 : nameB name = true) (r : Rc) (hr : RcOk r) (a b : Nat) (hm : idxFind B.idx (keyS suite name) = some (placeV a b ⟨(rcB r).toArray⟩)) (id : Nat) :
    Calls Tryz.prog 34 #[.pointer (some ⟨s, 0, none⟩), .string suite, .string name, .int .u32 id] w fun e w' => GetPost w.heap.size r.list id e w' ∧ Below w.heap.size w w' := by
  have HLD := Lib.hid (load_ok w s p pb pw g m B h suite name h1 h2 r hr a b hm)
  have HSO := Lib.hid (fun i j hi hj hij => hr.list.sorted i j hi hj hij)
  have HFI : Hid (∀ W lv, EntsR (fun b => w.heap.size ≤ b) W lv r.list → Calls Tryz.prog 61 #[rcV r lv, .int .u32 id] W fun e w' => BsPost r.list id e ∧ Below W.heap.size W w') := Lib.hid fun W lv hl => find_any r hr id W _ lv hl
  clear h h1 h2 hm hr
  go_enter Tryz.func34, Tryz.ntmps34
  go_wp2_with fail
  refine HLD.out.mono ?_
  rintro e w1 ⟨lv, rfl, he1, hb1⟩
  unfold rcV
  have hER := he1.reads (ok' := fun b => w.heap.size ≤ b) (fun _ h _ => h) (fun _ h _ => h)
  obtain ⟨LA, Lc, rfl, _⟩ := hER.form
  have hz1 : w.heap.size ≤ w1.heap.size := hb1.size
  have kx : Kp (fun _ => False) w1 (w1.alloc (.cells #[.int .u32 r.next, .int .u32 r.ver, .slice LA r.list.length Lc] 39)) := (Kp.refl _ w1).alloc _
  have HER := Lib.hid (hER.kp kx (fun _ _ _ x => x))
  have HK1 := Lib.hid ((Kp.of_below hb1 (fun _ => False)).trans kx (fun _ x _ => x))
  have hcf := HFI.out _ _ HER.out
  unfold rcV at hcf
  have HCF := Lib.hid hcf
  clear he1 hb1 hER kx hcf
  go_wp2_with fail
  refine HCF.out.mono ?_
  rintro e w2 ⟨⟨k, f, rfl, hlow, hf⟩, hb2⟩
  have HLW := Lib.hid hlow
  have HF := Lib.hid hf
  have HK2 := Lib.hid (HK1.out.below_trans hb2)
  have HBN := Lib.hid ((Blk.new w1 39 #[.int .u32 r.next, .int .u32 r.ver, .slice LA r.list.length Lc]).kp (Kp.of_below hb2 (fun _ => False)) (fun x => x))
  have HER2 := Lib.hid (HER.out.kp (Kp.of_below hb2 (fun _ => False)) (fun _ _ _ x => x))
  obtain ⟨c0, c1, c2⟩ := recs3 HBN.out
  clear hlow hf hb2
  cases f with
  | false =>
    have HPO : Hid (∀ w', GetPost w.heap.size r.list id (.returned (.tuple #[.slice none 0 0, .int .i64 11])) w') := Lib.hid fun w' => ⟨.inr ⟨fun i hi he => by
      obtain ⟨hk, hlo, hhi⟩ := HLW.out
      have hnf : ¬ ∃ h : k < r.list.length, r.list[k].1 = id := fun hx => by have := HF.out.2 hx; cases this
      rcases Nat.lt_or_ge i k with h | h
      · have := hlo i hi h; omega
      · have hkl : k < r.list.length := by omega
        have h2 := hhi k hkl (Nat.le_refl _)
        apply hnf
        exact ⟨hkl, by have := HSO.out k i hkl hi h; omega⟩, rfl⟩⟩
    go_wp2_with fail
    go_ret2
    exact ⟨HPO.out _, HK2.out.below⟩
  | true =>
    obtain ⟨hkl, hid⟩ := HF.out.1 rfl
    have HID := Lib.hid hid
    clear hid
    obtain ⟨A', c', eA, _, hx⟩ := HER2.out.out
    injection eA with eA1 eA2 eA3
    subst eA1 eA3
    obtain ⟨gg, rfl, hg, hgl, hi⟩ := hx (by omega)
    obtain ⟨dv, d1, d2, d3⟩ := hi k hkl
    obtain ⟨dA, dc, rfl, _⟩ := d3.form
    rw [bytesV_length] at d2 d3
    have HD := Lib.hid d3
    clear hx hi d3 d1
    go_wp2_with fail
    go_ret2
    exact ⟨⟨.inl ⟨k, hkl, _, HID.out, rfl, HD.out⟩⟩, HK2.out.below⟩
end Go.Proofs.YtnaphhfmccbamaaGreatDoor
