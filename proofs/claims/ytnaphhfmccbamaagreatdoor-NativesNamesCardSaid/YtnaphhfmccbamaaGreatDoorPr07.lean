/- Contract of wear.Next: the place of the first sector that can be opened with the least erases. Contracts of package page (layer 4) at a sector that was erased: Look says that it is blank, Open lays a header. Contract of page.Open at a sector that was erased: a header is laid. -/
import Derived.Test.YtnaphhfmccbamaaGreatDoorPr06
import Derived.Test.YtnaphhfmccbamaaGreatDoorPr03
import Derived.Test.YtnaphhfmccbamaaGreatDoorPr04
namespace Go.Proofs.YtnaphhfmccbamaaGreatDoor
open Go.RowKit

def leastK (lim : Nat) (l : List Sec) : Nat → Nat × Bool
  | 0 => (0, false)
  | k + 1 =>
    let r := leastK lim l k
    if mayB lim (l.getD k ⟨0, 0, 0⟩) && (!r.2 || decide ((l.getD k ⟨0, 0, 0⟩).erases < (l.getD r.1 ⟨0, 0, 0⟩).erases)) then (k, true) else r
theorem leastK_le (lim : Nat) (l : List Sec) (k : Nat) : (leastK lim l k).1 ≤ k := by
  induction k with
  | zero => simp [leastK]
  | succ k ih =>
    simp only [leastK]
    split
    · simp
    · omega
theorem leastK_lt (lim : Nat) (l : List Sec) (k : Nat) (h : (leastK lim l k).2 = true) : (leastK lim l k).1 < k := by
  induction k with
  | zero => simp [leastK] at h
  | succ k ih =>
    simp only [leastK] at h ⊢
    split
    · simp
    · rename_i hn
      rw [if_neg hn] at h
      have := ih h
      omega
theorem opens1_blk (s : Sec) (lim pl : Nat) (w : World) (hB : Blk w pl 3 #[.int .i64 lim]) :
    Calls Tryz.prog 112 #[.agg #[.int .i64 s.state, .int .u32 s.seq, .int .i64 s.erases], .pointer (some ⟨pl, 0, none⟩)] w fun e w' => e = .returned (.bool (mayB lim s)) ∧ Below w.heap.size w w' := opens1_any s lim pl w (hB.cell 0) hB.lt
theorem secS {W : World} {n : Nat} {t : TypeId} {a b c : Value} {g : Nat} {t2 : TypeId} {cs : Array Value} {pl : Nat} {t3 : TypeId} {d : Value} (h : Blk W n t #[a, b, c]) (hg : Blk W g t2 cs) (hp : Blk W pl t3 #[d]) (i : Nat) :
    Blk W n t #[a, b, c] ∧ Blk W g t2 cs ∧ Blk W pl t3 #[d] ∧ W.cell? ⟨n, 0, none⟩ = some a ∧ W.cell? ⟨n, 1, none⟩ = some b ∧ W.cell? ⟨n, 2, none⟩ = some c ∧ W.cell? ⟨pl, 0, none⟩ = some d ∧ W.cell? ⟨g, i * 3, none⟩ = cs[i * 3]? ∧ W.cell? ⟨g, i * 3 + 1, none⟩ = cs[i * 3 + 1]? ∧ W.cell? ⟨g, i * 3 + 2, none⟩ = cs[i * 3 + 2]? :=
  ⟨h, hg, hp, h.cell 0, h.cell 1, h.cell 2, hp.cell 0, hg.cell _, hg.cell _, hg.cell _⟩

set_option maxRecDepth 100000 in
set_option maxHeartbeats 4000000 in
theorem least_any (l : List Sec) (hm : l.length ≤ 64) (lim pl : Nat) (w : World) (ok : Nat → Prop) (v : Value) (hv : SecAt ok w v l) (hpl : Blk w pl 3 #[.int .i64 lim]) :
    Calls Tryz.prog 199 #[v, .func (.func 112) #[] #[.pointer (some ⟨pl, 0, none⟩)], .func (.func 200) #[] #[]] w fun e w' =>
      e = .returned (.tuple #[.int .i64 ((leastK lim l l.length).1 : Nat), .bool (leastK lim l l.length).2]) ∧ Below w.heap.size w w' := by
  obtain ⟨g, c, cs, rfl, hc, _, hgb, hcell⟩ := hv
  have HG := Lib.hid hgb
  have HC := Lib.hid hcell
  have HP := Lib.hid hpl
  clear hcell hpl hgb
  go_enter Tryz.func199, Tryz.ntmps199
  go_wp2_with fail
  go_loopw [8, 9, 14] (fun at_ fd i wr => ∃ (k a : Nat) (f : Bool), k ≤ l.length ∧ i = .int .i64 k ∧ at_ = .int .i64 a ∧ fd = .bool f ∧ Hid (leastK lim l k = (a, f)) ∧ Below w.heap.size w wr) (fun _ _ i _ => l.length - (intOf i).toNat)
  case atStart => exact ⟨0, 0, false, Nat.zero_le _, rfl, rfl, rfl, Lib.hid rfl, Below.refl _ _⟩
  case round =>
    obtain ⟨k, a, f, hk, rfl, rfl, rfl, HK, hbl⟩ := hrel
    by_cases hlt : k < l.length
    · have hGr : Blk wr g 100 cs := HG.out.kp (Kp.of_below hbl (fun _ => False)) (fun x => x)
      have hPr : Blk wr pl 3 #[.int .i64 lim] := HP.out.kp (Kp.of_below hbl (fun _ => False)) (fun x => x)
      have hgr := hGr.lt
      have hplr := hPr.lt
      obtain ⟨x, hx, hx0, hx1, hx2⟩ : ∃ x : Sec, Hid (l[k] = x) ∧ wr.cell? ⟨g, k * 3, none⟩ = some (.int .i64 x.state) ∧ wr.cell? ⟨g, k * 3 + 1, none⟩ = some (.int .u32 x.seq) ∧ wr.cell? ⟨g, k * 3 + 2, none⟩ = some (.int .i64 x.erases) :=
        ⟨l[k], Lib.hid rfl, (hGr.cell _).trans (HC.out k hlt).1, (hGr.cell _).trans (HC.out k hlt).2.1, (hGr.cell _).trans (HC.out k hlt).2.2⟩
      have hxg : l.getD k ⟨0, 0, 0⟩ = x := by rw [List.getD_eq_getElem?_getD, List.getElem?_eq_getElem hlt, Option.getD_some, hx.out]
      have HXG := Lib.hid hxg
      clear hxg
      have hal : a ≤ k := by have := leastK_le lim l k; rw [HK.out] at this; exact this
      have ha2 : a < l.length := by omega
      obtain ⟨y, hy, hy0, hy1, hy2⟩ : ∃ y : Sec, Hid (l.getD a ⟨0, 0, 0⟩ = y) ∧ cs[a * 3]? = some (.int .i64 y.state) ∧ cs[a * 3 + 1]? = some (.int .u32 y.seq) ∧ cs[a * 3 + 2]? = some (.int .i64 y.erases) :=
        ⟨l[a], Lib.hid (by rw [List.getD_eq_getElem?_getD, List.getElem?_eq_getElem ha2, Option.getD_some]), (HC.out a ha2).1, (HC.out a ha2).2.1, (HC.out a ha2).2.2⟩
      cases hmb : mayB lim x with
      | false =>
        have HMB := Lib.hid hmb
        clear hmb
        have HN : Hid (leastK lim l (k + 1) = (a, f)) := Lib.hid (by simp only [leastK]; rw [HK.out, HXG.out, HMB.out]; rfl)
        go_wp2_with fail
        refine region_fixed_all (by kernel_rfl) (fun i => [Value.func (.func 112) #[] #[.pointer (some ⟨pl, 0, none⟩)], .agg #[.int .i64 x.state, .int .u32 x.seq, .int .i64 x.erases], .bool false, .bool false, undef, undef, undef, undef, undef, undef, undef, undef, undef, undef, undef, undef, undef, undef, .bool false].getD i undef) (fun W => Blk W wr.heap.size 100 #[.int .i64 x.state, .int .u32 x.seq, .int .i64 x.erases] ∧ Blk W g 100 cs ∧ Blk W pl 3 #[.int .i64 lim] ∧ Below w.heap.size w W) (by kernel_rfl) ?h0 ?hops ?hend
        case h0 => exact ⟨(Blk.at_top rfl).drew, (hGr.alloc _).drew, (hPr.alloc _).drew, (hbl.alloc (Below.size hbl) _).drew⟩
        case hops =>
          refine ⟨?_, ?_, ?_, ?_, ?_, ?_, ?_, ?_, ?_, ?_, ?_, ?_, ?_, ?_, ?_, ?_, ?_, ?_, ?_, trivial⟩
          all_goals intro L b W hL hS K hK
          · have q1 := hL.old_ 1 (by kernel_rfl)
            simp at q1
            go_simp
            exact hK _ hS
          · have q1 := hL.old_ 11 (by kernel_rfl)
            simp at q1
            obtain ⟨S1, S2, S3, z1, z2, z3, z4, z5, z6, z7⟩ := secS hS.1 hS.2.1 hS.2.2.1 a
            go_simp
            exact hK _ hS
          · have q1 := hL.dep 0 19 (by kernel_rfl)
            have q2 := hL.dep 1 20 (by kernel_rfl)
            simp at q1 q2
            go_simp
            have hb := hS.2.2.2.size
            have hc := (opens1_blk x lim pl W hS.2.2.1)
            rw [HMB.out] at hc
            refine hc.mono ?_
            rintro e w' ⟨rfl, hb'⟩
            exact hK _ ⟨hS.1.kp (Kp.of_below hb' (fun _ => False)) (fun x => x), hS.2.1.kp (Kp.of_below hb' (fun _ => False)) (fun x => x), hS.2.2.1.kp (Kp.of_below hb' (fun _ => False)) (fun x => x), (Kp.of_below hS.2.2.2 (fun _ => False)).below_trans hb' |>.below⟩
          · have q1 := hL.dep 2 21 (by kernel_rfl)
            simp at q1
            go_simp
            exact hK _ hS
          · have q1 := hL.dep 3 22 (by kernel_rfl)
            have q2 := hL.old_ 9 (by kernel_rfl)
            simp at q1 q2
            go_simp
            exact hK _ hS
          · have q1 := hL.dep 4 23 (by kernel_rfl)
            have q2 := hL.dep 3 22 (by kernel_rfl)
            simp at q1 q2
            go_simp
            exact hK _ hS
          · have q1 := hL.dep 5 24 (by kernel_rfl)
            have q2 := hL.dep 3 22 (by kernel_rfl)
            simp at q1 q2
            go_simp
            exact hK _ hS
          · have q1 := hL.dep 6 25 (by kernel_rfl)
            have q2 := hL.old_ 2 (by kernel_rfl)
            simp at q1 q2
            go_simp
            exact hK _ hS
          · have q1 := hL.dep 6 25 (by kernel_rfl)
            have q2 := hL.old_ 11 (by kernel_rfl)
            simp at q1 q2
            go_simp
            exact hK _ hS
          · have q1 := hL.dep 7 26 (by kernel_rfl)
            have q2 := hL.dep 8 27 (by kernel_rfl)
            have q3 := hL.dep 6 25 (by kernel_rfl)
            simp at q1 q2 q3
            go_simp
            exact hK _ hS
          · have q1 := hL.dep 6 25 (by kernel_rfl)
            have q2 := hL.old_ 2 (by kernel_rfl)
            simp at q1 q2
            go_simp
            exact hK _ hS
          · have q1 := hL.dep 6 25 (by kernel_rfl)
            have q2 := hL.old_ 0 (by kernel_rfl)
            simp at q1 q2
            go_simp
            exact hK _ hS
          · have q1 := hL.dep 6 25 (by kernel_rfl)
            have q2 := hL.old_ 8 (by kernel_rfl)
            simp at q1 q2
            go_simp
            exact hK _ hS
          · have q1 := hL.dep 11 30 (by kernel_rfl)
            have q2 := hL.dep 12 31 (by kernel_rfl)
            have q3 := hL.dep 6 25 (by kernel_rfl)
            simp at q1 q2 q3
            go_simp
            exact hK _ hS
          · have q1 := hL.dep 13 32 (by kernel_rfl)
            have q2 := hL.dep 6 25 (by kernel_rfl)
            simp at q1 q2
            go_simp
            exact hK _ hS
          · have q1 := hL.dep 10 29 (by kernel_rfl)
            have q2 := hL.dep 14 33 (by kernel_rfl)
            have q3 := hL.dep 6 25 (by kernel_rfl)
            simp at q1 q2 q3
            go_simp
            exact hK _ hS
          · have q1 := hL.dep 9 28 (by kernel_rfl)
            have q2 := hL.dep 15 34 (by kernel_rfl)
            have q3 := hL.dep 6 25 (by kernel_rfl)
            simp at q1 q2 q3
            go_simp
            exact hK _ hS
          · have q1 := hL.dep 6 25 (by kernel_rfl)
            have q2 := hL.dep 16 35 (by kernel_rfl)
            have q3 := hL.dep 3 22 (by kernel_rfl)
            simp at q1 q2 q3
            go_simp
            exact hK _ hS
          · have q1 := hL.dep 3 22 (by kernel_rfl)
            have q2 := hL.dep 17 36 (by kernel_rfl)
            simp at q1 q2
            go_simp
            exact hK _ hS
        case hend =>
          rintro W ⟨S1, S2, S3, S4⟩
          obtain ⟨_, _, _, z1, z2, z3, z4, _, _, _⟩ := secS S1 S2 S3 a
          have hs4 := S4.size
          clear S1 S2 S3
          simp only [putList_cons, putList_nil]
          go_simp
          go_wp2
          go_roundw
          case rel => exact ⟨k + 1, a, f, by omega, by go_num, rfl, rfl, HN, S4⟩
          case measure => simp [intOf]; omega
      | true =>
        have HMB := Lib.hid hmb
        clear hmb
        cases f with
        | false =>
          have HN : Hid (leastK lim l (k + 1) = (k, true)) := Lib.hid (by simp only [leastK]; rw [HK.out, HXG.out, HMB.out]; rfl)
          go_wp2_with fail
          refine region_fixed_all (by kernel_rfl) (fun i => [Value.func (.func 112) #[] #[.pointer (some ⟨pl, 0, none⟩)], .agg #[.int .i64 x.state, .int .u32 x.seq, .int .i64 x.erases], .bool true, .bool true, .bool false, .bool true, .bool true, undef, undef, undef, undef, undef, undef, undef, undef, undef, undef, .bool true, .bool true].getD i undef) (fun W => Blk W wr.heap.size 100 #[.int .i64 x.state, .int .u32 x.seq, .int .i64 x.erases] ∧ Blk W g 100 cs ∧ Blk W pl 3 #[.int .i64 lim] ∧ Below w.heap.size w W) (by kernel_rfl) ?h0 ?hops ?hend
          case h0 => exact ⟨(Blk.at_top rfl).drew, (hGr.alloc _).drew, (hPr.alloc _).drew, (hbl.alloc (Below.size hbl) _).drew⟩
          case hops =>
            refine ⟨?_, ?_, ?_, ?_, ?_, ?_, ?_, ?_, ?_, ?_, ?_, ?_, ?_, ?_, ?_, ?_, ?_, ?_, ?_, trivial⟩
            all_goals intro L b W hL hS K hK
            · have q1 := hL.old_ 1 (by kernel_rfl)
              simp at q1
              go_simp
              exact hK _ hS
            · have q1 := hL.old_ 11 (by kernel_rfl)
              simp at q1
              obtain ⟨S1, S2, S3, z1, z2, z3, z4, z5, z6, z7⟩ := secS hS.1 hS.2.1 hS.2.2.1 a
              go_simp
              exact hK _ hS
            · have q1 := hL.dep 0 19 (by kernel_rfl)
              have q2 := hL.dep 1 20 (by kernel_rfl)
              simp at q1 q2
              go_simp
              have hb := hS.2.2.2.size
              have hc := (opens1_blk x lim pl W hS.2.2.1)
              rw [HMB.out] at hc
              refine hc.mono ?_
              rintro e w' ⟨rfl, hb'⟩
              exact hK _ ⟨hS.1.kp (Kp.of_below hb' (fun _ => False)) (fun x => x), hS.2.1.kp (Kp.of_below hb' (fun _ => False)) (fun x => x), hS.2.2.1.kp (Kp.of_below hb' (fun _ => False)) (fun x => x), (Kp.of_below hS.2.2.2 (fun _ => False)).below_trans hb' |>.below⟩
            · have q1 := hL.dep 2 21 (by kernel_rfl)
              simp at q1
              go_simp
              exact hK _ hS
            · have q1 := hL.dep 3 22 (by kernel_rfl)
              have q2 := hL.old_ 9 (by kernel_rfl)
              simp at q1 q2
              go_simp
              exact hK _ hS
            · have q1 := hL.dep 4 23 (by kernel_rfl)
              have q2 := hL.dep 3 22 (by kernel_rfl)
              simp at q1 q2
              go_simp
              exact hK _ hS
            · have q1 := hL.dep 5 24 (by kernel_rfl)
              have q2 := hL.dep 3 22 (by kernel_rfl)
              simp at q1 q2
              go_simp
              exact hK _ hS
            · have q1 := hL.dep 6 25 (by kernel_rfl)
              have q2 := hL.old_ 2 (by kernel_rfl)
              simp at q1 q2
              go_simp
              exact hK _ hS
            · have q1 := hL.dep 6 25 (by kernel_rfl)
              have q2 := hL.old_ 11 (by kernel_rfl)
              simp at q1 q2
              go_simp
              exact hK _ hS
            · have q1 := hL.dep 7 26 (by kernel_rfl)
              have q2 := hL.dep 8 27 (by kernel_rfl)
              have q3 := hL.dep 6 25 (by kernel_rfl)
              simp at q1 q2 q3
              go_simp
              exact hK _ hS
            · have q1 := hL.dep 6 25 (by kernel_rfl)
              have q2 := hL.old_ 2 (by kernel_rfl)
              simp at q1 q2
              go_simp
              exact hK _ hS
            · have q1 := hL.dep 6 25 (by kernel_rfl)
              have q2 := hL.old_ 0 (by kernel_rfl)
              simp at q1 q2
              go_simp
              exact hK _ hS
            · have q1 := hL.dep 6 25 (by kernel_rfl)
              have q2 := hL.old_ 8 (by kernel_rfl)
              simp at q1 q2
              go_simp
              exact hK _ hS
            · have q1 := hL.dep 11 30 (by kernel_rfl)
              have q2 := hL.dep 12 31 (by kernel_rfl)
              have q3 := hL.dep 6 25 (by kernel_rfl)
              simp at q1 q2 q3
              go_simp
              exact hK _ hS
            · have q1 := hL.dep 13 32 (by kernel_rfl)
              have q2 := hL.dep 6 25 (by kernel_rfl)
              simp at q1 q2
              go_simp
              exact hK _ hS
            · have q1 := hL.dep 10 29 (by kernel_rfl)
              have q2 := hL.dep 14 33 (by kernel_rfl)
              have q3 := hL.dep 6 25 (by kernel_rfl)
              simp at q1 q2 q3
              go_simp
              exact hK _ hS
            · have q1 := hL.dep 9 28 (by kernel_rfl)
              have q2 := hL.dep 15 34 (by kernel_rfl)
              have q3 := hL.dep 6 25 (by kernel_rfl)
              simp at q1 q2 q3
              go_simp
              exact hK _ hS
            · have q1 := hL.dep 6 25 (by kernel_rfl)
              have q2 := hL.dep 16 35 (by kernel_rfl)
              have q3 := hL.dep 3 22 (by kernel_rfl)
              simp at q1 q2 q3
              go_simp
              exact hK _ hS
            · have q1 := hL.dep 3 22 (by kernel_rfl)
              have q2 := hL.dep 17 36 (by kernel_rfl)
              simp at q1 q2
              go_simp
              exact hK _ hS
          case hend =>
            rintro W ⟨S1, S2, S3, S4⟩
            obtain ⟨_, _, _, z1, z2, z3, z4, _, _, _⟩ := secS S1 S2 S3 a
            have hs4 := S4.size
            clear S1 S2 S3
            simp only [putList_cons, putList_nil]
            go_simp
            go_wp2
            go_roundw
            case rel => exact ⟨k + 1, k, true, by omega, by go_num, rfl, rfl, HN, S4⟩
            case measure => simp [intOf]; omega
        | true =>
          cases hd : decide (x.erases < y.erases) with
          | true =>
            have HD := Lib.hid hd
            have HN : Hid (leastK lim l (k + 1) = (k, true)) := Lib.hid (by simp only [leastK]; rw [HK.out, HXG.out, HMB.out]; show (if (true && (!true || decide (x.erases < (l.getD a ⟨0, 0, 0⟩).erases))) = true then (k, true) else (a, true)) = _; rw [hy.out, hd]; rfl)
            go_wp2_with fail
            refine region_fixed_all (by kernel_rfl) (fun i => [Value.func (.func 112) #[] #[.pointer (some ⟨pl, 0, none⟩)], .agg #[.int .i64 x.state, .int .u32 x.seq, .int .i64 x.erases], .bool true, .bool true, .bool true, .bool false, .bool false, Value.func (.func 200) #[] #[], .agg #[.int .i64 x.state, .int .u32 x.seq, .int .i64 x.erases], .int .i64 x.erases, Value.func (.func 200) #[] #[], .slice (some ⟨g, 0, none⟩) l.length c, .int .i64 a, .pointer (some ⟨g, a * 3, none⟩), .agg #[.int .i64 y.state, .int .u32 y.seq, .int .i64 y.erases], .int .i64 y.erases, .bool true, .bool true, .bool true].getD i undef) (fun W => Blk W wr.heap.size 100 #[.int .i64 x.state, .int .u32 x.seq, .int .i64 x.erases] ∧ Blk W g 100 cs ∧ Blk W pl 3 #[.int .i64 lim] ∧ Below w.heap.size w W) (by kernel_rfl) ?h0 ?hops ?hend
            case h0 => exact ⟨(Blk.at_top rfl).drew, (hGr.alloc _).drew, (hPr.alloc _).drew, (hbl.alloc (Below.size hbl) _).drew⟩
            case hops =>
              refine ⟨?_, ?_, ?_, ?_, ?_, ?_, ?_, ?_, ?_, ?_, ?_, ?_, ?_, ?_, ?_, ?_, ?_, ?_, ?_, trivial⟩
              all_goals intro L b W hL hS K hK
              · have q1 := hL.old_ 1 (by kernel_rfl)
                simp at q1
                go_simp
                exact hK _ hS
              · have q1 := hL.old_ 11 (by kernel_rfl)
                simp at q1
                obtain ⟨S1, S2, S3, z1, z2, z3, z4, z5, z6, z7⟩ := secS hS.1 hS.2.1 hS.2.2.1 a
                go_simp
                exact hK _ hS
              · have q1 := hL.dep 0 19 (by kernel_rfl)
                have q2 := hL.dep 1 20 (by kernel_rfl)
                simp at q1 q2
                go_simp
                have hb := hS.2.2.2.size
                have hc := (opens1_blk x lim pl W hS.2.2.1)
                rw [HMB.out] at hc
                refine hc.mono ?_
                rintro e w' ⟨rfl, hb'⟩
                exact hK _ ⟨hS.1.kp (Kp.of_below hb' (fun _ => False)) (fun x => x), hS.2.1.kp (Kp.of_below hb' (fun _ => False)) (fun x => x), hS.2.2.1.kp (Kp.of_below hb' (fun _ => False)) (fun x => x), (Kp.of_below hS.2.2.2 (fun _ => False)).below_trans hb' |>.below⟩
              · have q1 := hL.dep 2 21 (by kernel_rfl)
                simp at q1
                go_simp
                exact hK _ hS
              · have q1 := hL.dep 3 22 (by kernel_rfl)
                have q2 := hL.old_ 9 (by kernel_rfl)
                simp at q1 q2
                go_simp
                exact hK _ hS
              · have q1 := hL.dep 4 23 (by kernel_rfl)
                have q2 := hL.dep 3 22 (by kernel_rfl)
                simp at q1 q2
                go_simp
                exact hK _ hS
              · have q1 := hL.dep 5 24 (by kernel_rfl)
                have q2 := hL.dep 3 22 (by kernel_rfl)
                simp at q1 q2
                go_simp
                exact hK _ hS
              · have q1 := hL.dep 6 25 (by kernel_rfl)
                have q2 := hL.old_ 2 (by kernel_rfl)
                simp at q1 q2
                go_simp
                exact hK _ hS
              · have q1 := hL.dep 6 25 (by kernel_rfl)
                have q2 := hL.old_ 11 (by kernel_rfl)
                simp at q1 q2
                obtain ⟨S1, S2, S3, z1, z2, z3, z4, z5, z6, z7⟩ := secS hS.1 hS.2.1 hS.2.2.1 a
                go_simp
                exact hK _ hS
              · have q1 := hL.dep 7 26 (by kernel_rfl)
                have q2 := hL.dep 8 27 (by kernel_rfl)
                have q3 := hL.dep 6 25 (by kernel_rfl)
                simp at q1 q2 q3
                go_simp
                have hb := hS.2.2.2.size
                have hc := (erases_any x.state x.seq x.erases W)
                refine hc.mono ?_
                rintro e w' ⟨rfl, hb'⟩
                exact hK _ ⟨hS.1.kp (Kp.of_below hb' (fun _ => False)) (fun x => x), hS.2.1.kp (Kp.of_below hb' (fun _ => False)) (fun x => x), hS.2.2.1.kp (Kp.of_below hb' (fun _ => False)) (fun x => x), (Kp.of_below hS.2.2.2 (fun _ => False)).below_trans hb' |>.below⟩
              · have q1 := hL.dep 6 25 (by kernel_rfl)
                have q2 := hL.old_ 2 (by kernel_rfl)
                simp at q1 q2
                go_simp
                exact hK _ hS
              · have q1 := hL.dep 6 25 (by kernel_rfl)
                have q2 := hL.old_ 0 (by kernel_rfl)
                simp at q1 q2
                go_simp
                exact hK _ hS
              · have q1 := hL.dep 6 25 (by kernel_rfl)
                have q2 := hL.old_ 8 (by kernel_rfl)
                simp at q1 q2
                go_simp
                exact hK _ hS
              · have q1 := hL.dep 11 30 (by kernel_rfl)
                have q2 := hL.dep 12 31 (by kernel_rfl)
                have q3 := hL.dep 6 25 (by kernel_rfl)
                simp at q1 q2 q3
                go_simp
                exact hK _ hS
              · have q1 := hL.dep 13 32 (by kernel_rfl)
                have q2 := hL.dep 6 25 (by kernel_rfl)
                simp at q1 q2
                obtain ⟨S1, S2, S3, z1, z2, z3, z4, z5, z6, z7⟩ := secS hS.1 hS.2.1 hS.2.2.1 a
                rw [hy0] at z5
                rw [hy1] at z6
                rw [hy2] at z7
                go_simp
                exact hK _ hS
              · have q1 := hL.dep 10 29 (by kernel_rfl)
                have q2 := hL.dep 14 33 (by kernel_rfl)
                have q3 := hL.dep 6 25 (by kernel_rfl)
                simp at q1 q2 q3
                go_simp
                have hb := hS.2.2.2.size
                have hc := (erases_any y.state y.seq y.erases W)
                refine hc.mono ?_
                rintro e w' ⟨rfl, hb'⟩
                exact hK _ ⟨hS.1.kp (Kp.of_below hb' (fun _ => False)) (fun x => x), hS.2.1.kp (Kp.of_below hb' (fun _ => False)) (fun x => x), hS.2.2.1.kp (Kp.of_below hb' (fun _ => False)) (fun x => x), (Kp.of_below hS.2.2.2 (fun _ => False)).below_trans hb' |>.below⟩
              · have q1 := hL.dep 9 28 (by kernel_rfl)
                have q2 := hL.dep 15 34 (by kernel_rfl)
                have q3 := hL.dep 6 25 (by kernel_rfl)
                simp at q1 q2 q3
                go_simp
                exact hK _ hS
              · have q1 := hL.dep 6 25 (by kernel_rfl)
                have q2 := hL.dep 16 35 (by kernel_rfl)
                have q3 := hL.dep 3 22 (by kernel_rfl)
                simp at q1 q2 q3
                go_simp
                exact hK _ hS
              · have q1 := hL.dep 3 22 (by kernel_rfl)
                have q2 := hL.dep 17 36 (by kernel_rfl)
                simp at q1 q2
                go_simp
                exact hK _ hS
            case hend =>
              rintro W ⟨S1, S2, S3, S4⟩
              obtain ⟨_, _, _, z1, z2, z3, z4, _, _, _⟩ := secS S1 S2 S3 a
              have hs4 := S4.size
              clear S1 S2 S3
              simp only [putList_cons, putList_nil]
              go_simp
              go_wp2
              go_roundw
              case rel => exact ⟨k + 1, k, true, by omega, by go_num, rfl, rfl, HN, S4⟩
              case measure => simp [intOf]; omega
          | false =>
            have HD := Lib.hid hd
            have HN : Hid (leastK lim l (k + 1) = (a, true)) := Lib.hid (by simp only [leastK]; rw [HK.out, HXG.out, HMB.out]; show (if (true && (!true || decide (x.erases < (l.getD a ⟨0, 0, 0⟩).erases))) = true then (k, true) else (a, true)) = _; rw [hy.out, hd]; rfl)
            go_wp2_with fail
            refine region_fixed_all (by kernel_rfl) (fun i => [Value.func (.func 112) #[] #[.pointer (some ⟨pl, 0, none⟩)], .agg #[.int .i64 x.state, .int .u32 x.seq, .int .i64 x.erases], .bool true, .bool true, .bool true, .bool false, .bool false, Value.func (.func 200) #[] #[], .agg #[.int .i64 x.state, .int .u32 x.seq, .int .i64 x.erases], .int .i64 x.erases, Value.func (.func 200) #[] #[], .slice (some ⟨g, 0, none⟩) l.length c, .int .i64 a, .pointer (some ⟨g, a * 3, none⟩), .agg #[.int .i64 y.state, .int .u32 y.seq, .int .i64 y.erases], .int .i64 y.erases, .bool false, .bool false, .bool false].getD i undef) (fun W => Blk W wr.heap.size 100 #[.int .i64 x.state, .int .u32 x.seq, .int .i64 x.erases] ∧ Blk W g 100 cs ∧ Blk W pl 3 #[.int .i64 lim] ∧ Below w.heap.size w W) (by kernel_rfl) ?h0 ?hops ?hend
            case h0 => exact ⟨(Blk.at_top rfl).drew, (hGr.alloc _).drew, (hPr.alloc _).drew, (hbl.alloc (Below.size hbl) _).drew⟩
            case hops =>
              refine ⟨?_, ?_, ?_, ?_, ?_, ?_, ?_, ?_, ?_, ?_, ?_, ?_, ?_, ?_, ?_, ?_, ?_, ?_, ?_, trivial⟩
              all_goals intro L b W hL hS K hK
              · have q1 := hL.old_ 1 (by kernel_rfl)
                simp at q1
                go_simp
                exact hK _ hS
              · have q1 := hL.old_ 11 (by kernel_rfl)
                simp at q1
                obtain ⟨S1, S2, S3, z1, z2, z3, z4, z5, z6, z7⟩ := secS hS.1 hS.2.1 hS.2.2.1 a
                go_simp
                exact hK _ hS
              · have q1 := hL.dep 0 19 (by kernel_rfl)
                have q2 := hL.dep 1 20 (by kernel_rfl)
                simp at q1 q2
                go_simp
                have hb := hS.2.2.2.size
                have hc := (opens1_blk x lim pl W hS.2.2.1)
                rw [HMB.out] at hc
                refine hc.mono ?_
                rintro e w' ⟨rfl, hb'⟩
                exact hK _ ⟨hS.1.kp (Kp.of_below hb' (fun _ => False)) (fun x => x), hS.2.1.kp (Kp.of_below hb' (fun _ => False)) (fun x => x), hS.2.2.1.kp (Kp.of_below hb' (fun _ => False)) (fun x => x), (Kp.of_below hS.2.2.2 (fun _ => False)).below_trans hb' |>.below⟩
              · have q1 := hL.dep 2 21 (by kernel_rfl)
                simp at q1
                go_simp
                exact hK _ hS
              · have q1 := hL.dep 3 22 (by kernel_rfl)
                have q2 := hL.old_ 9 (by kernel_rfl)
                simp at q1 q2
                go_simp
                exact hK _ hS
              · have q1 := hL.dep 4 23 (by kernel_rfl)
                have q2 := hL.dep 3 22 (by kernel_rfl)
                simp at q1 q2
                go_simp
                exact hK _ hS
              · have q1 := hL.dep 5 24 (by kernel_rfl)
                have q2 := hL.dep 3 22 (by kernel_rfl)
                simp at q1 q2
                go_simp
                exact hK _ hS
              · have q1 := hL.dep 6 25 (by kernel_rfl)
                have q2 := hL.old_ 2 (by kernel_rfl)
                simp at q1 q2
                go_simp
                exact hK _ hS
              · have q1 := hL.dep 6 25 (by kernel_rfl)
                have q2 := hL.old_ 11 (by kernel_rfl)
                simp at q1 q2
                obtain ⟨S1, S2, S3, z1, z2, z3, z4, z5, z6, z7⟩ := secS hS.1 hS.2.1 hS.2.2.1 a
                go_simp
                exact hK _ hS
              · have q1 := hL.dep 7 26 (by kernel_rfl)
                have q2 := hL.dep 8 27 (by kernel_rfl)
                have q3 := hL.dep 6 25 (by kernel_rfl)
                simp at q1 q2 q3
                go_simp
                have hb := hS.2.2.2.size
                have hc := (erases_any x.state x.seq x.erases W)
                refine hc.mono ?_
                rintro e w' ⟨rfl, hb'⟩
                exact hK _ ⟨hS.1.kp (Kp.of_below hb' (fun _ => False)) (fun x => x), hS.2.1.kp (Kp.of_below hb' (fun _ => False)) (fun x => x), hS.2.2.1.kp (Kp.of_below hb' (fun _ => False)) (fun x => x), (Kp.of_below hS.2.2.2 (fun _ => False)).below_trans hb' |>.below⟩
              · have q1 := hL.dep 6 25 (by kernel_rfl)
                have q2 := hL.old_ 2 (by kernel_rfl)
                simp at q1 q2
                go_simp
                exact hK _ hS
              · have q1 := hL.dep 6 25 (by kernel_rfl)
                have q2 := hL.old_ 0 (by kernel_rfl)
                simp at q1 q2
                go_simp
                exact hK _ hS
              · have q1 := hL.dep 6 25 (by kernel_rfl)
                have q2 := hL.old_ 8 (by kernel_rfl)
                simp at q1 q2
                go_simp
                exact hK _ hS
              · have q1 := hL.dep 11 30 (by kernel_rfl)
                have q2 := hL.dep 12 31 (by kernel_rfl)
                have q3 := hL.dep 6 25 (by kernel_rfl)
                simp at q1 q2 q3
                go_simp
                exact hK _ hS
              · have q1 := hL.dep 13 32 (by kernel_rfl)
                have q2 := hL.dep 6 25 (by kernel_rfl)
                simp at q1 q2
                obtain ⟨S1, S2, S3, z1, z2, z3, z4, z5, z6, z7⟩ := secS hS.1 hS.2.1 hS.2.2.1 a
                rw [hy0] at z5
                rw [hy1] at z6
                rw [hy2] at z7
                go_simp
                exact hK _ hS
              · have q1 := hL.dep 10 29 (by kernel_rfl)
                have q2 := hL.dep 14 33 (by kernel_rfl)
                have q3 := hL.dep 6 25 (by kernel_rfl)
                simp at q1 q2 q3
                go_simp
                have hb := hS.2.2.2.size
                have hc := (erases_any y.state y.seq y.erases W)
                refine hc.mono ?_
                rintro e w' ⟨rfl, hb'⟩
                exact hK _ ⟨hS.1.kp (Kp.of_below hb' (fun _ => False)) (fun x => x), hS.2.1.kp (Kp.of_below hb' (fun _ => False)) (fun x => x), hS.2.2.1.kp (Kp.of_below hb' (fun _ => False)) (fun x => x), (Kp.of_below hS.2.2.2 (fun _ => False)).below_trans hb' |>.below⟩
              · have q1 := hL.dep 9 28 (by kernel_rfl)
                have q2 := hL.dep 15 34 (by kernel_rfl)
                have q3 := hL.dep 6 25 (by kernel_rfl)
                simp at q1 q2 q3
                go_simp
                exact hK _ hS
              · have q1 := hL.dep 6 25 (by kernel_rfl)
                have q2 := hL.dep 16 35 (by kernel_rfl)
                have q3 := hL.dep 3 22 (by kernel_rfl)
                simp at q1 q2 q3
                go_simp
                exact hK _ hS
              · have q1 := hL.dep 3 22 (by kernel_rfl)
                have q2 := hL.dep 17 36 (by kernel_rfl)
                simp at q1 q2
                go_simp
                exact hK _ hS
            case hend =>
              rintro W ⟨S1, S2, S3, S4⟩
              obtain ⟨_, _, _, z1, z2, z3, z4, _, _, _⟩ := secS S1 S2 S3 a
              have hs4 := S4.size
              clear S1 S2 S3
              simp only [putList_cons, putList_nil]
              go_simp
              go_wp2
              go_roundw
              case rel => exact ⟨k + 1, a, true, by omega, by go_num, rfl, rfl, HN, S4⟩
              case measure => simp [intOf]; omega
    · obtain rfl : k = l.length := by omega
      go_wp2
      go_ret2
      exact ⟨by simp [HK.out], hbl⟩

theorem Next_any (l : List Sec) (hm : l.length ≤ 64) (lim : Nat) (w : World) (ok : Nat → Prop) (v : Value) (hv : SecAt ok w v l) :
    Calls Tryz.prog 180 #[v, .int .i64 lim] w fun e w' => e = .returned (.tuple #[.int .i64 ((leastK lim l l.length).1 : Nat), .bool (leastK lim l l.length).2]) ∧ Below w.heap.size w w' := by
  have HV := Lib.hid hv
  clear hv
  go_enter Tryz.func180, Tryz.ntmps180
  go_wp2_with fail
  refine (opens_any lim w).mono ?_
  rintro e w1 ⟨pl, rfl, hpl0, hplB, hb1⟩
  have HP := Lib.hid hplB
  clear hplB
  go_wp2_with fail
  refine (least_any l hm lim pl w1 ok v (HV.out.kp (Kp.of_below hb1 (fun _ => False)) (fun _ _ _ x => x)) HP.out).mono ?_
  rintro e w2 ⟨rfl, hb2⟩
  go_wp2
  go_ret2
  exact ⟨rfl, (Kp.of_below hb1 (fun _ => False)).below_trans hb2 |>.below⟩
end Go.Proofs.YtnaphhfmccbamaaGreatDoor

namespace Go.Proofs.YtnaphhfmccbamaaGreatDoor
open Go.RowKit

theorem mark_any (w : World) : Calls Tryz.prog 102 #[] w fun e w' => e = .returned (.agg #[.int .u8 67, .int .u8 66]) ∧ Below w.heap.size w w' := by
  go_enter Tryz.func102, Tryz.ntmps102
  go_wp2
  refine bodyPost_ret (v := .agg #[.int .u8 67, .int .u8 66]) (by simp [results, Tryz.results102, go_sem]) rfl ⟨rfl, ?_⟩
  exact (Below.refl w.heap.size w).alloc (Nat.le_refl _) _

/-- What a header begins with. -/
def headL (seq : Nat) : List UInt8 := ([67, 66] ++ putL seq 4 4) ++ putL (sum16N ([67, 66] ++ putL seq 4 4)) 2 2

set_option maxRecDepth 100000 in
theorem pageBytes_any (seq : Nat) (h : seq < 4294967296) (w : World) :
    Calls Tryz.prog 201 #[.int .u32 seq] w fun e w' => ∃ r, e = .returned r ∧ Sl (fun b => w.heap.size ≤ b) w' r (bytesV (headL seq)) ∧ Below w.heap.size w w' := by
  have hm := Lib.hid (mark_any w)
  go_enter Tryz.func201, Tryz.ntmps201
  go_wp2_with fail
  refine hm.out.mono ?_
  rintro e w1 ⟨rfl, hb1⟩
  have hz1 := hb1.size
  go_wp2_with fail
  have hs1 : Sl (fun _ => True) (w1.alloc (.cells #[.int .u8 67, .int .u8 66] 169)) (.slice (some ⟨w1.heap.size, 0, none⟩) 2 2) (bytesV [67, 66]) := by
    refine ⟨some ⟨w1.heap.size, 0, none⟩, 2, rfl, by simp, fun _ => ⟨w1.heap.size, 0, rfl, trivial, by simp, fun i u hu => ?_⟩⟩
    have := (Blk.new w1 169 #[.int .u8 67, .int .u8 66]).cell (0 + i)
    rw [this, Nat.zero_add, ← hu]
    simp [bytesV, byteV]
  refine (Put_any seq 4 (by omega) (by omega) _ _ _ _ hs1 (by simp)).mono ?_
  rintro e w2 ⟨r2, rfl, ho2, hb2⟩
  have hs2 := Sl.of_own ho2
  rw [← bytesV_append] at hs2
  have hz2 := hb2.size
  have Hb2 := Lib.hid hb2
  clear ho2 hb2 hs1
  have hsum := Lib.hid (Sum16_any ([67, 66] ++ putL seq 4 4) (by simp) w2 _ _ hs2)
  go_wp2_with fail
  refine hsum.out.mono ?_
  rintro e w3 ⟨rfl, hb3⟩
  have hs3 := hs2.kp (Kp.of_below hb3 (fun _ => False)) (fun _ _ _ => id)
  have Hb3 := Lib.hid hb3
  clear hb3 hs2 hsum
  rw [sum16N_eq]
  have hlt := sum16N_lt ([67, 66] ++ putL seq 4 4)
  generalize hq : sum16N ([67, 66] ++ putL seq 4 4) = q at hlt ⊢
  have Hq := Lib.hid hq
  clear hq
  go_wp2_with fail
  refine (Put_any q 2 (by omega) (by omega) _ _ _ _ hs3 (by simp)).mono ?_
  rintro e w4 ⟨r4, rfl, ho4, hb4⟩
  have hs4 := Sl.of_own ho4
  rw [← bytesV_append] at hs4
  have hz3 := Hb3.out.size
  have hbel : Below w.heap.size w w4 := ((((Kp.of_below hb1 (fun _ => False)).alloc _).trans (Kp.of_below Hb2.out (fun _ => False)) (fun _ h _ => h)).trans (Kp.of_below Hb3.out (fun _ => False)) (fun _ h _ => h)).trans (Kp.of_below hb4 (fun _ => False)) (fun _ h _ => h) |>.below
  have Hs4 := Lib.hid hs4
  clear ho4 hs4 hs3
  simp at hz2
  go_wp2
  go_ret
  refine ⟨r4, rfl, ?_, hbel⟩
  have := Hs4.out
  rw [← Hq.out] at this
  exact this.mono (fun b hb _ => by omega)

theorem noMark (l : List UInt8) (h0 : l[0]? = some 255) : Lib.hasPrefix (Lib.bytesOf (l.map fun c => (c.toNat : Int))) (Lib.bytesOf [67, 66]) = false := by
  cases l with
  | nil => simp at h0
  | cons c r =>
    simp at h0
    subst h0
    simp [Lib.hasPrefix, Lib.bytesOf, List.isPrefixOf]
/-- Parse at bytes that do not begin with the mark. -/
theorem Parse_ff (l : List UInt8) (h12 : 12 ≤ l.length) (h0 : l[0]? = some 255) (w : World) (ok : Nat → Prop) (v : Value) (hv : Sl ok w v (bytesV l)) :
    Calls Tryz.prog 73 #[v] w fun e w' => e = .returned (.tuple #[.agg #[.int .u32 0, .bool false, .bool false], .int .i64 8]) ∧ Below w.heap.size w w' := by
  have hm := Lib.hid (fun W => mark_any W)
  obtain ⟨b, o, c, rfl, hc, _, hlt, hcell⟩ := hv.form_pos (by rw [bytesV_length]; omega)
  rw [bytesV_length] at hc
  rw [bytesV_length]
  have t1 : decide ((l.length : Int) < 12) = false := decide_eq_false (by omega)
  go_enter Tryz.func73, Tryz.ntmps73
  go_wp2_with fail
  refine (hm.out _).mono ?_
  rintro e w1 ⟨rfl, hb1⟩
  go_wp2_with fail
  have hc1 : ∀ i, i < l.length → (w1.alloc (.cells #[.int .u8 67, .int .u8 66] 169)).cell? ⟨b, o + i, none⟩ = some (.int .u8 ((l.map fun c => (c.toNat : Int)).getD i 0)) := fun i hi => by
    have h1 : w.cell? ⟨b, o + i, none⟩ = some (.int .u8 (l[i]).toNat) := hcell i _ (by simp [bytesV, byteV, hi])
    have hb1' := hb1.size
    rw [World.cell?_alloc_lt _ _ _ (by show b < _; simp at hb1' ⊢; omega), hb1.cell (by show b < _; simp; omega), World.cell?_alloc_lt _ _ _ hlt, h1]
    simp [hi]
  have hc2 : ∀ i, i < 2 → (w1.alloc (.cells #[.int .u8 67, .int .u8 66] 169)).cell? ⟨w1.heap.size, 0 + i, none⟩ = some (.int .u8 (([67, 66] : List Int).getD i 0)) := fun i hi => by
    rw [(Blk.new w1 169 #[.int .u8 67, .int .u8 66]).cell, Nat.zero_add]
    match i, hi with
    | 0, _ => rfl
    | 1, _ => rfl
  have hp := Tryz.bytes_HasPrefix b o l.length c w1.heap.size 0 2 2 (l.map fun c => (c.toNat : Int)) [67, 66] (w1.alloc (.cells #[.int .u8 67, .int .u8 66] 169)) (by simp) rfl (by omega) hc1 hc2
  rw [noMark l h0] at hp
  refine hp.mono ?_
  rintro e w2 ⟨rfl, hw2⟩
  obtain rfl := hw2.symm
  clear hc1 hc2
  have hz1 := hb1.size
  simp at hz1
  have hblk : Blk w1 w.heap.size 138 #[.int .u32 0, .bool false, .bool false] := (Blk.at_top rfl).kp (Kp.of_below hb1 (fun _ => False)) (fun x => x)
  have q0 : w1.cell? ⟨w.heap.size, 0, none⟩ = some (.int .u32 0) := hblk.cell 0
  have q1 : w1.cell? ⟨w.heap.size, 1, none⟩ = some (.bool false) := hblk.cell 1
  have q2 : w1.cell? ⟨w.heap.size, 2, none⟩ = some (.bool false) := hblk.cell 2
  have f0 := hblk.frozen 0
  have f1 := hblk.frozen 1
  have f2 := hblk.frozen 2
  have hz1' : w.heap.size < w1.heap.size := by omega
  have Hb1 := Lib.hid hb1
  clear hb1 hblk
  go_wp2_with fail
  have hk1 : Kp (fun _ => False) w w1 := ((Kp.refl (fun _ => False) w).alloc _).trans (Kp.of_below Hb1.out (fun _ => False)) (fun _ h _ => h)
  refine bodyPost_ret (v := .tuple #[.agg #[.int .u32 0, .bool false, .bool false], .int .i64 8]) ?res rfl ⟨rfl, ?bel⟩
  case res => simp [results, Tryz.results73, go_sem, q0, q1, q2, hz1']
  case bel =>
    refine Kp.below ?_
    repeat (first | (with_reducible exact hk1) | (with_reducible refine Kp.alloc ?_ _) | (with_reducible refine Kp.set_ ?_ (Or.inr (Nat.le_refl _)) _))

theorem look1_any (x : Int) (w : World) : Calls Tryz.prog 75 #[.int .u8 x] w fun e w' => e = .returned (.bool (x != 255)) ∧ w = w' := by
  go_enter Tryz.func75, Tryz.ntmps75
  go_wp2
  go_ret
  exact ⟨rfl, rfl⟩

/-- No byte but 255: none is found. -/
theorem IndexFunc_ff (l : List UInt8) (hall : ∀ c ∈ l, c = 255) (hm : l.length ≤ 16777216) (w : World) (ok : Nat → Prop) (v : Value) (hv : Sl ok w v (bytesV l)) :
    Calls Tryz.prog 106 #[v, .func (.func 75) #[] #[]] w fun e w' => e = .returned (.int .i64 (-1)) ∧ w = w' := by
  obtain ⟨A, c, rfl, hc⟩ := hv.form
  have HC : Hid (∀ k, k < l.length → ∃ b o, A = some ⟨b, o, none⟩ ∧ w.cell? ⟨b, o + k, none⟩ = some (.int .u8 255)) := Lib.hid fun k hk => by
    obtain ⟨b, o, c', e, _, _, hlt3, hcell⟩ := hv.form_pos (by rw [bytesV_length]; omega)
    injection e with e1 _ _
    refine ⟨b, o, e1, hcell k _ ?_⟩
    have := hall l[k] (List.getElem_mem hk)
    simp [bytesV, byteV, hk, this]
  have hl : (bytesV l).length = l.length := bytesV_length l
  rw [hl]
  rw [hl] at hc
  clear hv hall hl
  have HL := Lib.hid (look1_any 255 w)
  go_enter Tryz.func106, Tryz.ntmps106
  go_wp2_with fail
  go_loop [8] (fun i => ∃ k : Nat, k ≤ l.length ∧ i = .int .i64 k) (fun i => l.length - (intOf i).toNat)
  case atStart => exact ⟨0, Nat.zero_le _, rfl⟩
  case round =>
    obtain ⟨k, hk, rfl⟩ := hrel
    by_cases hlt : k < l.length
    · obtain ⟨b, o, rfl, hc1⟩ := HC.out k hlt
      go_wp2_with fail
      refine HL.out.mono ?_
      rintro e w' ⟨rfl, rfl⟩
      go_wp2
      go_round
      case rel => exact ⟨k + 1, by omega, by go_num⟩
      case measure => simp [intOf]; omega
    · go_wp2
      go_ret
      exact ⟨rfl, rfl⟩

theorem ContainsFunc_ff (l : List UInt8) (hall : ∀ c ∈ l, c = 255) (hm : l.length ≤ 16777216) (w : World) (ok : Nat → Prop) (v : Value) (hv : Sl ok w v (bytesV l)) :
    Calls Tryz.prog 74 #[v, .func (.func 75) #[] #[]] w fun e w' => e = .returned (.bool false) ∧ w = w' := by
  have H := Lib.hid (IndexFunc_ff l hall hm w ok v hv)
  clear hv hall
  go_enter Tryz.func74, Tryz.ntmps74
  go_wp2_with fail
  refine H.out.mono ?_
  rintro e w' ⟨rfl, rfl⟩
  go_wp2
  go_ret
  exact ⟨rfl, rfl⟩

set_option maxRecDepth 100000 in
/-- Look at a sector whose bytes are all 255. -/
theorem Look_blank (w : World) (p pb pw : Nat) (F : FL) (h : FlashAt w p pb pw F) (hd : F.down = false) (i : Nat) (hi : i < F.worn.length) (hs : F.worn.length = F.sectors) (hm : F.worn.length ≤ 64)
    (h12 : 64 ≤ F.size) (hsz : F.size ≤ 65536) (hlen : F.b.length = F.sectors * F.size) (hall : ∀ c ∈ (F.b.drop (i * F.size)).take F.size, c = 255) :
    Calls Tryz.prog 44 #[.pointer (some ⟨p, 0, none⟩), .int .i64 i] w fun e w' => e = .returned (.tuple #[.agg #[.int .i64 0, .int .u32 0, .int .i64 F.worn[i]], .int .i64 0]) ∧ Below w.heap.size w w' := by
  have hmul : i * F.size + F.size ≤ F.b.length := by rw [hlen, ← hs]; calc i * F.size + F.size = (i + 1) * F.size := by rw [Nat.add_mul, Nat.one_mul]
    _ ≤ F.worn.length * F.size := Nat.mul_le_mul_right _ hi
  have hbig : F.b.length ≤ 4194304 := by
    rw [hlen, ← hs]
    exact Nat.le_trans (Nat.mul_le_mul hm hsz) (by omega)
  obtain ⟨at_, hat, hat2⟩ : ∃ at_ : Nat, i * F.size = at_ ∧ IntKind.i64.wrap ((i : Int) * (F.size : Int)) = (at_ : Int) := by
    refine ⟨i * F.size, rfl, ?_⟩
    rw [← Int.natCast_mul, IntKind.wrap_i64]
    omega
  rw [hat] at hmul hall
  have HAT := Lib.hid hat
  clear hat
  have t1 : decide (F.sectors ≤ i) = false := decide_eq_false (by omega)
  have t0 : decide ((i : Int) < 0) = false := decide_eq_false (by omega)
  go_enter Tryz.func44, Tryz.ntmps44
  go_wp2_with fail
  refine (Geometry_any _ p pb pw F (h.kp ((Kp.refl (fun _ => False) w).alloc _) (fun x => x) (fun x => x) (fun x => x))).mono ?_
  rintro e w1 ⟨rfl, hb1⟩
  obtain ⟨c1, f1⟩ := bcell hb1
  have z1 := hb1.size
  simp at z1
  have hk1 : Kp (fun _ => False) w w1 := ((Kp.refl (fun _ => False) w).alloc _).below_trans hb1
  go_wp2_with fail
  have hkA := hk1.alloc (.cells #[.int .i64 F.sectors, .int .i64 F.size, .int .i64 F.limit] 70)
  refine (Read_ok _ p pb pw F (h.kp hkA (fun x => x) (fun x => x) (fun x => x)) hd at_ F.size (by omega) hmul hbig).mono ?_
  rintro e w2 ⟨r, rfl, hr, hb2⟩
  obtain ⟨c2, f2⟩ := bcell hb2
  have z2 := hb2.size
  simp at z2
  have hk2 := hkA.below_trans hb2
  obtain ⟨Ls, hLs⟩ : ∃ Ls, (F.b.drop at_).take F.size = Ls := ⟨_, rfl⟩
  have hLl : Ls.length = F.size := by rw [← hLs]; simp; omega
  have hL0 : Ls[0]? = some 255 := by
    rw [List.getElem?_eq_getElem (by omega)]
    exact congrArg some (hall _ (by rw [hLs]; exact List.getElem_mem _))
  rw [hLs] at hr hall
  have HR := Lib.hid hr
  have HLL := Lib.hid hLl
  have HL0 := Lib.hid hL0
  have HALL := Lib.hid hall
  clear hr hLl hL0 hall hLs
  go_wp2_with fail
  refine (Erases_any _ p pb pw F (h.kp hk2 (fun x => x) (fun x => x) (fun x => x)) i hi hs hm).mono ?_
  rintro e w' ⟨rfl, rfl⟩
  go_wp2_with fail
  have hkB := hk2.alloc (.cells #[.int .i64 1, .int .u32 0, .int .i64 F.worn[i]] 100)
  refine (Parse_ff Ls (by rw [HLL.out]; omega) HL0.out _ _ _ (HR.out.kp (((Kp.refl (fun _ => False) w2)).alloc _) (fun _ _ _ => id))).mono ?_
  rintro e w3 ⟨rfl, hb3⟩
  obtain ⟨c3, f3⟩ := bcell hb3
  have z3 := hb3.size
  simp at z3
  have z01 : w.heap.size < w1.heap.size := by omega
  have z02 : w.heap.size < w2.heap.size := by omega
  have z03 : w.heap.size < w3.heap.size := by omega
  have z12 : w1.heap.size < w2.heap.size := by omega
  have z13 : w1.heap.size < w3.heap.size := by omega
  have z23 : w2.heap.size < w3.heap.size := by omega
  have hk3 := hkB.below_trans hb3
  have HR3 := Lib.hid (HR.out.kp (((Kp.refl (fun _ => False) w2).alloc _).below_trans hb3) (fun _ _ _ => id))
  go_wp2_with fail
  refine (ContainsFunc_ff Ls HALL.out (by rw [HLL.out]; omega) _ _ _ (HR3.out.kp ((Kp.refl (fun _ => False) w3).alloc _) (fun _ _ _ => id))).mono ?_
  rintro e w' ⟨rfl, rfl⟩
  go_wp2_with fail
  have B3 : Blk w3 w.heap.size 100 #[.int .i64 0, .int .u32 0, .int .i64 0] :=
    (((((((Blk.at_top rfl).kp (Kp.of_below hb1 (fun _ => False)) (fun x => x)).alloc _).kp (Kp.of_below hb2 (fun _ => False)) (fun x => x)).alloc _).kp (Kp.of_below hb3 (fun _ => False)) (fun x => x)))
  have B4 := (((B3.far (p := ⟨w2.heap.size, 0, none⟩) (by show w.heap.size ≠ w2.heap.size; omega) (.int .i64 0)).set_ 0 (.int .i64 0)).set_ 1 (.int .u32 0)).set_ 2 (.int .i64 F.worn[i])
  have q0 := B4.cell 0
  have q1 := B4.cell 1
  have q2 := B4.cell 2
  simp at q0 q1 q2
  refine bodyPost_ret (v := .tuple #[.agg #[.int .i64 0, .int .u32 0, .int .i64 F.worn[i]], .int .i64 0]) ?res rfl ⟨rfl, ?bel⟩
  case res => simp [results, Tryz.results44, go_sem, z03, q0, q1, q2]
  case bel =>
    refine Kp.below ?_
    repeat (first | (with_reducible exact hk3) | (with_reducible refine Kp.alloc ?_ _) | (with_reducible refine Kp.set_ ?_ (Or.inr ?_) _))
    all_goals (dsimp only; omega)
end Go.Proofs.YtnaphhfmccbamaaGreatDoor

namespace Go.Proofs.YtnaphhfmccbamaaGreatDoor
open Go.RowKit

/-- All bytes from a on, up to b, are 255. -/
def Ff (L : List UInt8) (a b : Nat) : Prop := ∀ j, a ≤ j → j < b → L[j]? = some 255
theorem Ff.all {L : List UInt8} {a n : Nat} (h : Ff L a (a + n)) : ∀ c ∈ (L.drop a).take n, c = 255 := by
  intro c hc
  obtain ⟨i, hi, rfl⟩ := List.getElem_of_mem hc
  simp only [List.length_take, List.length_drop] at hi
  have := h (a + i) (by omega) (by omega)
  rw [List.getElem?_eq_getElem (by omega)] at this
  injection this with this
  simpa using this
theorem Ff.fits {L : List UInt8} {a b : Nat} (h : Ff L a b) (d : List UInt8) (at_ : Nat) (h1 : a ≤ at_) (h2 : at_ + d.length ≤ b) : FitsBits L at_ d := by
  intro i hi hi'
  have := h (at_ + i) (by omega) (by omega)
  rw [List.getElem?_eq_getElem hi'] at this
  injection this with this
  rw [this, show ((255 : UInt8).toNat : Int) = ((255 : Nat) : Int) from rfl, u8_andNot_nat _ _ (UInt8.toNat_lt _) (by omega)]
  simp
theorem Ff.put {F : FL} {a b : Nat} (h : Ff F.b a b) (at_ : Nat) (d : List UInt8) (hfit : at_ + d.length ≤ F.b.length) (hout : b ≤ at_ ∨ at_ + d.length ≤ a) : Ff (F.put at_ d).b a b := by
  intro j h1 h2
  show (splice F.b at_ d)[j]? = some 255
  rw [splice_get _ _ _ hfit]
  split
  · exact h j h1 h2
  · rw [if_neg (by omega)]; exact h j h1 h2
theorem Ff.mono {L : List UInt8} {a b a' b' : Nat} (h : Ff L a b) (h1 : a ≤ a') (h2 : b' ≤ b) : Ff L a' b' := fun j q1 q2 => h j (by omega) (by omega)
theorem put_length (F : FL) (at_ : Nat) (d : List UInt8) (hfit : at_ + d.length ≤ F.b.length) : (F.put at_ d).b.length = F.b.length := length_splice _ _ _ hfit
@[simp] theorem headL_length (seq : Nat) : (headL seq).length = 8 := by simp [headL]

/-- What the flash is when a header has been laid. -/
def FL.opened (F : FL) (i seq : Nat) : FL := (F.put (i * F.size) (headL seq)).put (i * F.size + 8) [0]

theorem geo_size (a b c : Value) (W : World) : (Instr.field 70 (.agg #[a, b, c]) 1).run Tryz.prog W = .ok b W := by kernel_rfl
set_option maxRecDepth 100000 in
theorem Open_blank (w : World) (p pb pw : Nat) (F : FL) (h : FlashAt w p pb pw F) (hd : F.down = false) (hf : F.fuse < 0) (i : Nat) (hi : i < F.worn.length) (hs : F.worn.length = F.sectors) (hm : F.worn.length ≤ 64)
    (h12 : 64 ≤ F.size) (hsz : F.size ≤ 65536) (hlen : F.b.length = F.sectors * F.size) (hff : Ff F.b (i * F.size) (i * F.size + F.size)) (seq : Nat) (hseq : seq < 4294967296) :
    Calls Tryz.prog 181 #[.pointer (some ⟨p, 0, none⟩), .int .i64 i, .int .u32 seq] w fun e w' => e = .returned (.int .i64 0) ∧ FlashAt w' p pb pw (F.opened i seq) ∧ Kp (fun k => k = pb) w w' := by
  have hmul : i * F.size + F.size ≤ F.b.length := by rw [hlen, ← hs]; calc i * F.size + F.size = (i + 1) * F.size := by rw [Nat.add_mul, Nat.one_mul]
    _ ≤ F.worn.length * F.size := Nat.mul_le_mul_right _ hi
  have hbig : F.b.length ≤ 4194304 := by
    rw [hlen, ← hs]
    exact Nat.le_trans (Nat.mul_le_mul hm hsz) (by omega)
  have hlook := Lib.hid (Look_blank w p pb pw F h hd i hi hs hm h12 hsz hlen hff.all)
  unfold FL.opened
  obtain ⟨at_, hat, hat2⟩ : ∃ at_ : Nat, i * F.size = at_ ∧ IntKind.i64.wrap ((i : Int) * (F.size : Int)) = (at_ : Int) := by
    refine ⟨i * F.size, rfl, ?_⟩
    rw [← Int.natCast_mul, IntKind.wrap_i64]
    omega
  rw [hat] at hmul hff ⊢
  clear hat
  have hfld := geo_size
  go_enter Tryz.func181, Tryz.ntmps181
  go_wp2_with fail
  refine hlook.out.mono ?_
  rintro e w1 ⟨rfl, hb1⟩
  have hk1 : Kp (fun _ => False) w w1 := (Kp.of_below hb1 _)
  go_wp2_with fail
  have hkA := hk1.alloc (.cells #[.int .i64 0, .int .u32 0, .int .i64 F.worn[i]] 100)
  refine (Geometry_any _ p pb pw F (h.kp hkA (fun x => x) (fun x => x) (fun x => x))).mono ?_
  rintro e w2 ⟨rfl, hb2⟩
  have hk2 := hkA.below_trans hb2
  go_wp2_with fail
  refine (pageBytes_any seq hseq _).mono ?_
  rintro e w3 ⟨r, rfl, hr, hb3⟩
  have hk3 := hk2.below_trans hb3
  have hF3 := h.kp hk3 (fun x => x) (fun x => x) (fun x => x)
  go_wp2_with fail
  refine (Program_ok w3 p pb pw F hF3 hd hf at_ (headL seq) (by simp) (by simp; omega) hbig r _ hr (hff.fits _ _ (Nat.le_refl _) (by simp; omega))).mono ?_
  rintro e w4 ⟨rfl, hF4, hk4⟩
  go_wp2_with fail
  have hl1 := put_length F at_ (headL seq) (by simp; omega)
  have hs1 : Sl (fun _ => True) (w4.alloc (.cells #[.int .u8 0] 5)) (.slice (some ⟨w4.heap.size, 0, none⟩) 1 1) (bytesV [0]) := by
    refine ⟨some ⟨w4.heap.size, 0, none⟩, 1, rfl, by simp, fun _ => ⟨w4.heap.size, 0, rfl, trivial, by simp, fun i u hu => ?_⟩⟩
    have := (Blk.new w4 5 #[.int .u8 0]).cell (0 + i)
    rw [this, Nat.zero_add, ← hu]
    simp [bytesV, byteV]
  rw [show ((at_ : Int) + 8) = ((at_ + 8 : Nat) : Int) from rfl]
  refine (Program_ok _ p pb pw _ (hF4.kp ((Kp.refl (fun _ => False) w4).alloc _) (fun x => x) (fun x => x) (fun x => x)) hd hf (at_ + 8) [0] (by simp) (by rw [hl1]; simp; omega) (by rw [hl1]; exact hbig) _ _ hs1
    ((hff.mono (a' := at_ + 8) (b' := at_ + F.size) (by omega) (by omega)).put at_ (headL seq) (by simp; omega) (.inr (by simp)) |>.fits _ _ (Nat.le_refl _) (by simp; omega))).mono ?_
  rintro e w5 ⟨rfl, hF5, hk5⟩
  have hkE : Kp (fun k => k = pb) w w5 := (((hk3.mono (S' := fun k => k = pb) (fun _ h => h.elim)).trans hk4 (fun _ h _ => h)).alloc _).trans hk5 (fun _ h _ => h)
  go_wp2
  go_ret
  exact ⟨rfl, hF5, hkE⟩
end Go.Proofs.YtnaphhfmccbamaaGreatDoor
