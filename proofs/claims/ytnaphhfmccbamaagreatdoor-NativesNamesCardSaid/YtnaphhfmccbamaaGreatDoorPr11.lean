/- Contract of blob.Mount on a flash that was erased. Contracts of package natives (layer 28): New, Print, Text, Lines. -/
import Derived.Test.YtnaphhfmccbamaaGreatDoorPr10
import Derived.Test.YtnaphhfmccbamaaGreatDoorPr03
import Derived.Test.YtnaphhfmccbamaaGreatDoorPr08
import Derived.Test.YtnaphhfmccbamaaGreatDoorPr02
import Derived.Lib.AppendIntMem
import Derived.Lib.SmallJoins
namespace Go.Proofs.YtnaphhfmccbamaaGreatDoor
open Go.RowKit

structure AppS (X : World) (base N0 sb xb : Nat) (st : Value → Array Value) (v : Value) (k : Nat) (xs : List Value) (x0 x1 x2 : Value) (L : Nat → Prop) (V : Nat → Value) (W : World) : Prop where
  kp : Kp (fun b => b = sb ∨ v.ownBlock = some b) X W
  tb : Blk W N0 32 #[.pointer (some ⟨sb, 0, none⟩)]
  xb_ : Blk W xb 100 #[x0, x1, x2]
  v0 : L 0 → V 0 = .pointer (some ⟨sb, 0, none⟩)
  v1 : L 1 → V 1 = .pointer (some ⟨sb, 0, none⟩)
  v2 : L 2 → V 2 = .pointer (some ⟨sb, 0, none⟩)
  v3 : L 3 → V 3 = .pointer (some ⟨sb, 4, none⟩)
  v4 : L 4 → V 4 = v
  v5 : L 5 → V 5 = .agg #[x0, x1, x2]
  v8 : L 8 → V 8 = .pointer (some ⟨sb, 0, none⟩)
  v9 : L 9 → V 9 = .pointer (some ⟨sb, 4, none⟩)
  v6 : L 6 → ∃ n6, V 6 = .slice (some ⟨n6, 0, none⟩) 1 1 ∧ X.heap.size ≤ n6 ∧ (¬ L 7 → Blk W n6 100 #[x0, x1, x2])
  own : ¬ L 7 → W.ownsRow base 100 3 v k xs
  v7 : L 7 → ∃ g cap, V 7 = .slice (some ⟨g, 0, none⟩) (k + 1) cap ∧ W.ownsRow base 100 3 (V 7) (k + 1) (xs ++ [x0, x1, x2])
  st1 : ¬ L 10 → Blk W sb 98 (st v)
  st2 : L 10 → Blk W sb 98 (st (V 7))

section
variable {X W : World} {base N0 sb xb : Nat} {st : Value → Array Value} {v : Value} {k : Nat} {xs : List Value} {x0 x1 x2 : Value} {L : Nat → Prop} {V : Nat → Value}
theorem AppS.s0 (h : AppS X base N0 sb xb st v k xs x0 x1 x2 L V W) : AppS X base N0 sb xb st v k xs x0 x1 x2 (fun j => L j ∨ j = 0) (upd V 0 (.pointer (some ⟨sb, 0, none⟩))) W := by
  refine ⟨h.kp, h.tb, h.xb_, ?_, ?_, ?_, ?_, ?_, ?_, ?_, ?_, ?_, ?_, ?_, ?_, ?_⟩
  · intro _; simp [upd]
  · simpa [upd] using h.v1
  · simpa [upd] using h.v2
  · simpa [upd] using h.v3
  · simpa [upd] using h.v4
  · simpa [upd] using h.v5
  · simpa [upd] using h.v8
  · simpa [upd] using h.v9
  · simpa [upd] using h.v6
  · simpa [upd] using h.own
  · simpa [upd] using h.v7
  · simpa [upd] using h.st1
  · simpa [upd] using h.st2
theorem AppS.s1 (h : AppS X base N0 sb xb st v k xs x0 x1 x2 L V W) : AppS X base N0 sb xb st v k xs x0 x1 x2 (fun j => L j ∨ j = 1) (upd V 1 (.pointer (some ⟨sb, 0, none⟩))) W := by
  refine ⟨h.kp, h.tb, h.xb_, ?_, ?_, ?_, ?_, ?_, ?_, ?_, ?_, ?_, ?_, ?_, ?_, ?_⟩
  · simpa [upd] using h.v0
  · intro _; simp [upd]
  · simpa [upd] using h.v2
  · simpa [upd] using h.v3
  · simpa [upd] using h.v4
  · simpa [upd] using h.v5
  · simpa [upd] using h.v8
  · simpa [upd] using h.v9
  · simpa [upd] using h.v6
  · simpa [upd] using h.own
  · simpa [upd] using h.v7
  · simpa [upd] using h.st1
  · simpa [upd] using h.st2
theorem AppS.s2 (h : AppS X base N0 sb xb st v k xs x0 x1 x2 L V W) : AppS X base N0 sb xb st v k xs x0 x1 x2 (fun j => L j ∨ j = 2) (upd V 2 (.pointer (some ⟨sb, 0, none⟩))) W := by
  refine ⟨h.kp, h.tb, h.xb_, ?_, ?_, ?_, ?_, ?_, ?_, ?_, ?_, ?_, ?_, ?_, ?_, ?_⟩
  · simpa [upd] using h.v0
  · simpa [upd] using h.v1
  · intro _; simp [upd]
  · simpa [upd] using h.v3
  · simpa [upd] using h.v4
  · simpa [upd] using h.v5
  · simpa [upd] using h.v8
  · simpa [upd] using h.v9
  · simpa [upd] using h.v6
  · simpa [upd] using h.own
  · simpa [upd] using h.v7
  · simpa [upd] using h.st1
  · simpa [upd] using h.st2
theorem AppS.s3 (h : AppS X base N0 sb xb st v k xs x0 x1 x2 L V W) : AppS X base N0 sb xb st v k xs x0 x1 x2 (fun j => L j ∨ j = 3) (upd V 3 (.pointer (some ⟨sb, 4, none⟩))) W := by
  refine ⟨h.kp, h.tb, h.xb_, ?_, ?_, ?_, ?_, ?_, ?_, ?_, ?_, ?_, ?_, ?_, ?_, ?_⟩
  · simpa [upd] using h.v0
  · simpa [upd] using h.v1
  · simpa [upd] using h.v2
  · intro _; simp [upd]
  · simpa [upd] using h.v4
  · simpa [upd] using h.v5
  · simpa [upd] using h.v8
  · simpa [upd] using h.v9
  · simpa [upd] using h.v6
  · simpa [upd] using h.own
  · simpa [upd] using h.v7
  · simpa [upd] using h.st1
  · simpa [upd] using h.st2
theorem AppS.s4 (h : AppS X base N0 sb xb st v k xs x0 x1 x2 L V W) : AppS X base N0 sb xb st v k xs x0 x1 x2 (fun j => L j ∨ j = 4) (upd V 4 (v)) W := by
  refine ⟨h.kp, h.tb, h.xb_, ?_, ?_, ?_, ?_, ?_, ?_, ?_, ?_, ?_, ?_, ?_, ?_, ?_⟩
  · simpa [upd] using h.v0
  · simpa [upd] using h.v1
  · simpa [upd] using h.v2
  · simpa [upd] using h.v3
  · intro _; simp [upd]
  · simpa [upd] using h.v5
  · simpa [upd] using h.v8
  · simpa [upd] using h.v9
  · simpa [upd] using h.v6
  · simpa [upd] using h.own
  · simpa [upd] using h.v7
  · simpa [upd] using h.st1
  · simpa [upd] using h.st2
theorem AppS.s5 (h : AppS X base N0 sb xb st v k xs x0 x1 x2 L V W) : AppS X base N0 sb xb st v k xs x0 x1 x2 (fun j => L j ∨ j = 5) (upd V 5 (.agg #[x0, x1, x2])) W := by
  refine ⟨h.kp, h.tb, h.xb_, ?_, ?_, ?_, ?_, ?_, ?_, ?_, ?_, ?_, ?_, ?_, ?_, ?_⟩
  · simpa [upd] using h.v0
  · simpa [upd] using h.v1
  · simpa [upd] using h.v2
  · simpa [upd] using h.v3
  · simpa [upd] using h.v4
  · intro _; simp [upd]
  · simpa [upd] using h.v8
  · simpa [upd] using h.v9
  · simpa [upd] using h.v6
  · simpa [upd] using h.own
  · simpa [upd] using h.v7
  · simpa [upd] using h.st1
  · simpa [upd] using h.st2
theorem AppS.s8 (h : AppS X base N0 sb xb st v k xs x0 x1 x2 L V W) : AppS X base N0 sb xb st v k xs x0 x1 x2 (fun j => L j ∨ j = 8) (upd V 8 (.pointer (some ⟨sb, 0, none⟩))) W := by
  refine ⟨h.kp, h.tb, h.xb_, ?_, ?_, ?_, ?_, ?_, ?_, ?_, ?_, ?_, ?_, ?_, ?_, ?_⟩
  · simpa [upd] using h.v0
  · simpa [upd] using h.v1
  · simpa [upd] using h.v2
  · simpa [upd] using h.v3
  · simpa [upd] using h.v4
  · simpa [upd] using h.v5
  · intro _; simp [upd]
  · simpa [upd] using h.v9
  · simpa [upd] using h.v6
  · simpa [upd] using h.own
  · simpa [upd] using h.v7
  · simpa [upd] using h.st1
  · simpa [upd] using h.st2
theorem AppS.s9 (h : AppS X base N0 sb xb st v k xs x0 x1 x2 L V W) : AppS X base N0 sb xb st v k xs x0 x1 x2 (fun j => L j ∨ j = 9) (upd V 9 (.pointer (some ⟨sb, 4, none⟩))) W := by
  refine ⟨h.kp, h.tb, h.xb_, ?_, ?_, ?_, ?_, ?_, ?_, ?_, ?_, ?_, ?_, ?_, ?_, ?_⟩
  · simpa [upd] using h.v0
  · simpa [upd] using h.v1
  · simpa [upd] using h.v2
  · simpa [upd] using h.v3
  · simpa [upd] using h.v4
  · simpa [upd] using h.v5
  · simpa [upd] using h.v8
  · intro _; simp [upd]
  · simpa [upd] using h.v6
  · simpa [upd] using h.own
  · simpa [upd] using h.v7
  · simpa [upd] using h.st1
  · simpa [upd] using h.st2
theorem AppS.s6 (h : AppS X base N0 sb xb st v k xs x0 x1 x2 L V W) (h7 : ¬ L 7) (h10 : ¬ L 10) :
    AppS X base N0 sb xb st v k xs x0 x1 x2 (fun j => L j ∨ j = 6) (upd V 6 (.slice (some ⟨W.heap.size, 0, none⟩) 1 1)) (W.alloc (.cells #[x0, x1, x2] 100)) := by
  have hX := h.kp.size
  refine ⟨h.kp.alloc _, h.tb.alloc _, h.xb_.alloc _, ?_, ?_, ?_, ?_, ?_, ?_, ?_, ?_, ?_, ?_, ?_, ?_, ?_⟩
  · simpa [upd] using h.v0
  · simpa [upd] using h.v1
  · simpa [upd] using h.v2
  · simpa [upd] using h.v3
  · simpa [upd] using h.v4
  · simpa [upd] using h.v5
  · simpa [upd] using h.v8
  · simpa [upd] using h.v9
  · intro _
    exact ⟨W.heap.size, by simp [upd], hX, fun _ => Blk.at_top rfl⟩
  · intro _
    exact (h.own h7).alloc _
  · intro h'
    exact absurd (by simpa using h') h7
  · intro _
    exact (h.st1 h10).alloc _
  · intro h'
    exact absurd (by simpa using h') h10
theorem AppS.s7 {W' : World} (h : AppS X base N0 sb xb st v k xs x0 x1 x2 L V W) (_h7 : ¬ L 7) (h10 : ¬ L 10) (hne : ∀ b, v.ownBlock = some b → b ≠ N0 ∧ b ≠ sb ∧ b ≠ xb) (u : Value) (hg : W.grownBy W' v.ownBlock) (hown : W'.ownsRow base 100 3 u (k + 1) (xs ++ [x0, x1, x2])) :
    AppS X base N0 sb xb st v k xs x0 x1 x2 (fun j => L j ∨ j = 7) (upd V 7 u) W' := by
  have kk := kp_of_grown hg
  refine ⟨h.kp.trans kk (fun b hb _ => .inr hb.symm), h.tb.kp kk (fun e => (hne _ e.symm).1 rfl), h.xb_.kp kk (fun e => (hne _ e.symm).2.2 rfl), ?_, ?_, ?_, ?_, ?_, ?_, ?_, ?_, ?_, ?_, ?_, ?_, ?_⟩
  · simpa [upd] using h.v0
  · simpa [upd] using h.v1
  · simpa [upd] using h.v2
  · simpa [upd] using h.v3
  · simpa [upd] using h.v4
  · simpa [upd] using h.v5
  · simpa [upd] using h.v8
  · simpa [upd] using h.v9
  · intro h6
    obtain ⟨n6, e, h1, _⟩ := h.v6 (by simpa using h6)
    exact ⟨n6, by simpa [upd] using e, h1, fun h' => absurd (Or.inr rfl) h'⟩
  · intro h'
    exact absurd (Or.inr rfl) h'
  · intro _
    obtain ⟨g, cap, e, _, _⟩ := hown.form (by omega)
    refine ⟨g, cap, by rw [upd_same, e], by rw [upd_same]; exact hown⟩
  · intro _
    exact (h.st1 h10).kp kk (fun e => (hne _ e.symm).2.1 rfl)
  · intro h'
    exact absurd (by simpa using h') h10
theorem AppS.s10 (h : AppS X base N0 sb xb st v k xs x0 x1 x2 L V W) (h7 : L 7) (h10 : ¬ L 10) (hN : N0 ≠ sb) (hx : xb ≠ sb) (hb : sb < base) (hst : ∀ u, (st v).setIfInBounds 4 u = st u) (q : Value) :
    AppS X base N0 sb xb st v k xs x0 x1 x2 (fun j => L j ∨ j = 10) (upd V 10 q) (W.setCell ⟨sb, 4, none⟩ (V 7)) := by
  refine ⟨Kp.set_ h.kp (.inl (.inl rfl)) _, h.tb.far hN _, h.xb_.far hx _, ?_, ?_, ?_, ?_, ?_, ?_, ?_, ?_, ?_, ?_, ?_, ?_, ?_⟩
  · simpa [upd] using h.v0
  · simpa [upd] using h.v1
  · simpa [upd] using h.v2
  · simpa [upd] using h.v3
  · simpa [upd] using h.v4
  · simpa [upd] using h.v5
  · simpa [upd] using h.v8
  · simpa [upd] using h.v9
  · intro h6
    obtain ⟨n6, e, h1, _⟩ := h.v6 (by simpa using h6)
    exact ⟨n6, by simpa [upd] using e, h1, fun h' => absurd (Or.inl h7) h'⟩
  · intro h'
    exact absurd (Or.inl h7) h'
  · intro _
    obtain ⟨g, cap, e, ho⟩ := h.v7 h7
    refine ⟨g, cap, by rw [upd_ne _ _ (by decide)]; exact e, ?_⟩
    rw [upd_ne _ _ (by decide)]
    refine ⟨ho.1, ?_⟩
    rcases ho.2 with h2 | ⟨g', cap', cur, a1, a2, a3, a4⟩
    · exact .inl h2
    · exact .inr ⟨g', cap', cur, a1, a2, (Below.heap_setCell W _ _ g' (by show g' ≠ sb; omega)).trans a3, a4⟩
  · intro h'
    exact absurd (Or.inr rfl) h'
  · intro _
    rw [upd_ne _ _ (by decide)]
    have := (h.st1 h10).set_ 4 (V 7)
    rw [hst] at this
    exact this
end

theorem info_sector : (Tryz.prog.info? 100).map (fun i => (i.zero, i.size, i.bytes)) = some (some (.agg #[.int .i64 0, .int .u32 0, .int .i64 0]), 3, 24) := by kernel_rfl

def stM (F : FL) (p m : Nat) (v : Value) : Array Value := #[.pointer (some ⟨p, 0, none⟩), .int .i64 F.sectors, .int .i64 F.size, .int .i64 F.limit, v, .map (some m), .int .i64 (-1), .int .i64 0, .int .u32 0, .int .u32 0, .bool false]
def frS (F : FL) (k : Nat) : List Sec := (F.worn.take k).map fun e => ⟨0, 0, e⟩
theorem secsV_get : ∀ (l : List Sec) (i : Nat) (h : i < l.length), (secsV l)[i * 3]? = some (.int .i64 l[i].state) ∧ (secsV l)[i * 3 + 1]? = some (.int .u32 l[i].seq) ∧ (secsV l)[i * 3 + 2]? = some (.int .i64 l[i].erases)
  | x :: l, 0, _ => by simp [secsV, secV]
  | x :: l, i + 1, h => by
    have ih := secsV_get l i (by simpa using h)
    have e : ∀ j, (secsV (x :: l))[(i + 1) * 3 + j]? = (secsV l)[i * 3 + j]? := fun j => by
      show (Value.int .i64 x.state :: .int .u32 x.seq :: .int .i64 x.erases :: secsV l)[(i + 1) * 3 + j]? = _
      rw [show (i + 1) * 3 + j = (i * 3 + j) + 3 by omega]
      rfl
    have e0 := e 0
    simp only [Nat.add_zero] at e0
    rw [e0, e 1, e 2]
    exact ih
theorem store_mk {w : World} {s p pb pw m base : Nat} {F : FL} {l : List Sec} {v : Value} (hl : 0 < l.length) (hf : FlashAt w p pb pw F) (hm : MapIs w m []) (hr : w.ownsRow base 100 3 v l.length (secsV l)) (hb : Blk w s 98 (stM F p m v)) :
    ∃ g, base ≤ g ∧ StoreAt w s p pb pw g m ⟨F, l, [], -1, 0, 0, 0, false⟩ := by
  rcases hr.2 with ⟨_, h2⟩ | ⟨g, cap, cur, rfl, hbg, hh, hnc, _, _, ht⟩
  · have := hr.1
    rw [h2] at this
    simp at this
    omega
  · refine ⟨g, hbg, hf, ⟨cap, hnc, hb⟩, ⟨cur, hh, fun i (hi : i < l.length) => ?_⟩, hm⟩
    have q := secsV_get l i hi
    rw [← ht] at q
    have hi3 : i * 3 + 2 < l.length * 3 := by omega
    rw [List.getElem?_take_of_lt (by omega), List.getElem?_take_of_lt (by omega), List.getElem?_take_of_lt (by omega)] at q
    simpa using q
structure MntR (w : World) (N0 sb m p pb pw : Nat) (F : FL) (base k : Nat) (v : Value) (wr : World) : Prop where
  kp : Kp (fun _ => False) w wr
  tb : Blk wr N0 32 #[.pointer (some ⟨sb, 0, none⟩)]
  fl : FlashAt wr p pb pw F
  mp : MapIs wr m []
  hbase : base ≤ wr.heap.size
  row : wr.ownsRow base 100 3 v k (secsV (frS F k))
  st : Blk wr sb 98 (stM F p m v)
theorem frS_snoc (F : FL) (k : Nat) (h : k < F.worn.length) : secsV (frS F k) ++ [.int .i64 0, .int .u32 0, .int .i64 F.worn[k]] = secsV (frS F (k + 1)) := by
  unfold frS secsV
  rw [List.take_succ_eq_append_getElem h, List.map_append, List.flatMap_append]
  rfl
theorem sec3 {W : World} {n : Nat} {t : TypeId} {a b c : Value} (h : Blk W n t #[a, b, c]) : W.cell? ⟨n, 0, none⟩ = some a ∧ W.cell? ⟨n, 1, none⟩ = some b ∧ W.cell? ⟨n, 2, none⟩ = some c := ⟨h.cell 0, h.cell 1, h.cell 2⟩
theorem reads3 {W : World} {n : Nat} {t : TypeId} {a b c : Value} (h : Blk W n t #[a, b, c]) : Reads W W.heap.size 3 (some ⟨n, 0, none⟩) 1 [a, b, c] := by
  refine ⟨rfl, fun _ => ⟨_, rfl, h.lt, fun j u hj => ?_⟩⟩
  rw [addr_add0, h.cell j, ← hj]
  simp

set_option maxRecDepth 100000 in
set_option maxHeartbeats 4000000 in
theorem Mount_fresh (w : World) (p pb pw : Nat) (F : FL) (h : FlashAt w p pb pw F) (hd : F.down = false) (hworn : F.worn.length = F.sectors) (h8 : 1 ≤ F.sectors) (hsec : F.worn.length ≤ 64) (h64 : 64 ≤ F.size) (hsz : F.size ≤ 65536)
    (hlen : F.b.length = F.sectors * F.size) (hall : ∀ c ∈ F.b, c = 255) (hfree : ((F.worn.map (fun e => (⟨0, 0, e⟩ : Sec))).filter (mayB F.limit)).length ≠ 0) :
    Calls Tryz.prog 25 #[.pointer (some ⟨p, 0, none⟩)] w fun e w' => ∃ s g m, e = .returned (.tuple #[.pointer (some ⟨s, 0, none⟩), .int .i64 0]) ∧ w.heap.size ≤ s ∧ w.heap.size ≤ g ∧ w.heap.size ≤ m ∧
      StoreAt w' s p pb pw g m ⟨F, F.worn.map (fun e => ⟨0, 0, e⟩), [], -1, 0, 0, 0, false⟩ ∧ Below w.heap.size w w' := by
  have HF := Lib.hid h
  have hmk := fun W : World => run_makeMap (P := Tryz.prog) 95 W
  clear h
  go_enter Tryz.func25, Tryz.ntmps25
  go_wp2_with fail
  refine (Geometry_any _ p pb pw F (HF.out.kp ((Kp.refl (fun _ => False) w).alloc _) (fun x => x) (fun x => x) (fun x => x))).mono ?_
  rintro e w1 ⟨rfl, hb1⟩
  have HF1 := Lib.hid (HF.out.kp ((Kp.refl (fun _ => False) w).alloc _ |>.below_trans hb1) (fun x => x) (fun x => x) (fun x => x))
  have HB0 : Hid (Blk w1 w.heap.size 32 #[.pointer none]) := Lib.hid (Blk.kp (Blk.at_top rfl) (Kp.of_below hb1 (fun _ => False)) (fun x => x))
  have HK1 := Lib.hid ((Kp.refl (fun _ => False) w).alloc _ |>.below_trans hb1)
  have hz1 : w.heap.size + 1 ≤ w1.heap.size := by have := hb1.size; simpa using this
  have c0 : w1.cell? ⟨w.heap.size, 0, none⟩ = some (.pointer none) := HB0.out.cell 0
  have f0 := HB0.out.frozen 0
  have hlt0 : w.heap.size < w1.heap.size := by omega
  obtain ⟨W, hW, HKW, HBT, HBS, HMW, HFW⟩ : ∃ W, ((w1.setCell ⟨w.heap.size, 0, none⟩ (.pointer (some ⟨w1.heap.size + 1, 0, none⟩))).alloc (.map #[] 0)).alloc (.cells #[.pointer (some ⟨p, 0, none⟩), .int .i64 F.sectors, .int .i64 F.size, .int .i64 F.limit, .slice none 0 0, .map (some w1.heap.size), .int .i64 (-1), .int .i64 0, .int .u32 0, .int .u32 0, .bool false] 98) = W ∧ Hid (Kp (fun _ => False) w W) ∧ Hid (Blk W w.heap.size 32 #[.pointer (some ⟨w1.heap.size + 1, 0, none⟩)]) ∧
      Hid (Blk W (w1.heap.size + 1) 98 #[.pointer (some ⟨p, 0, none⟩), .int .i64 F.sectors, .int .i64 F.size, .int .i64 F.limit, .slice none 0 0, .map (some w1.heap.size), .int .i64 (-1), .int .i64 0, .int .u32 0, .int .u32 0, .bool false]) ∧ Hid (MapIs W w1.heap.size []) ∧ Hid (FlashAt W p pb pw F) := by
    have k0 : Kp (fun _ => False) w (w1.setCell ⟨w.heap.size, 0, none⟩ (.pointer (some ⟨w1.heap.size + 1, 0, none⟩))) := Kp.set_ HK1.out (.inr (Nat.le_refl _)) _
    refine ⟨_, rfl, Lib.hid ((k0.alloc _).alloc _), Lib.hid (((HB0.out.set_ 0 _).alloc _).alloc _), Lib.hid (Blk.at_top (by simp)), Lib.hid ?_, Lib.hid (HF.out.kp ((k0.alloc _).alloc _) (fun x => x) (fun x => x) (fun x => x))⟩
    have := (MapIs.made (w1.setCell ⟨w.heap.size, 0, none⟩ (.pointer (some ⟨w1.heap.size + 1, 0, none⟩)))).alloc (.cells #[.pointer (some ⟨p, 0, none⟩), .int .i64 F.sectors, .int .i64 F.size, .int .i64 F.limit, .slice none 0 0, .map (some w1.heap.size), .int .i64 (-1), .int .i64 0, .int .u32 0, .int .u32 0, .bool false] 98)
    simpa using this
  have y0 : W.cell? ⟨w.heap.size, 0, none⟩ = some (.pointer (some ⟨w1.heap.size + 1, 0, none⟩)) := HBT.out.cell 0
  obtain ⟨c0', c1, c2, c3, c4, c5, c6, c7, c8, c9, c10⟩ := st11 HBS.out
  clear hb1 HF1 HB0 HK1
  have HW1 := Lib.hid HMW.out.lt
  have HFR := Lib.hid hfree
  have HWN := Lib.hid hworn
  have HLEN := Lib.hid hlen
  obtain ⟨i0, hi, hy0, hy1, hy2⟩ := info_parts info_sector
  have hbW := HBS.out.lt
  have hw1W : w1.heap.size ≤ W.heap.size := by omega
  have hsec' : F.sectors ≤ 64 := by rw [← hworn]; exact hsec
  clear hfree hworn hlen
  go_wp2_with fail
  clear hW
  have HR0 : Hid (MntR w w.heap.size (w1.heap.size + 1) w1.heap.size p pb pw F W.heap.size 0 (.slice none 0 0) W) := Lib.hid ⟨HKW.out, HBT.out, HFW.out, HMW.out, Nat.le_refl _, World.ownsRow_nil W _ _ 3, HBS.out⟩
  clear HKW HBT HBS HMW HFW y0 c0' c1 c2 c3 c4 c5 c6 c7 c8 c9 c10 c0 f0
  obtain ⟨BS0, hBS0⟩ : ∃ b, w1.heap.size + 1 = b := ⟨_, rfl⟩
  obtain ⟨MM, hMM⟩ : ∃ b, w1.heap.size = b := ⟨_, rfl⟩
  rw [hBS0, hMM] at HR0
  rw [hBS0, hMM]
  have hq1 : W.heap.size ≤ W.heap.size := Nat.le_refl _
  have hq2 : w.heap.size < BS0 := by omega
  have hq3 : BS0 < W.heap.size := by omega
  have hq4 : w.heap.size ≤ MM := by omega
  have hq5 : MM < BS0 := by omega
  clear hBS0 hMM HW1 hbW hw1W hz1 hlt0
  go_loopw [4, 23] (fun u i wr => u = .slice none 0 0 ∧ ∃ k : Nat, k ≤ F.sectors ∧ i = .int .i64 k ∧ ∃ v, Hid (MntR w w.heap.size BS0 MM p pb pw F W.heap.size k v wr)) (fun _ i _ => F.sectors - (intOf i).toNat)
  case atStart => exact ⟨rfl, 0, Nat.zero_le _, rfl, _, HR0⟩
  case round =>
    obtain ⟨rfl, k, hk, rfl, v, HR⟩ := hrel
    by_cases hlt : k < F.sectors
    · have hkw : k < F.worn.length := by rw [HWN.out]; exact hlt
      have y0 : wr.cell? ⟨w.heap.size, 0, none⟩ = some (.pointer (some ⟨BS0, 0, none⟩)) := HR.out.tb.cell 0
      go_wp2_with fail
      refine (Look_blank wr p pb pw F HR.out.fl hd k hkw HWN.out hsec h64 hsz HLEN.out (fun c hc => hall c (List.mem_of_mem_drop (List.mem_of_mem_take hc)))).mono ?_
      rintro e w2 ⟨rfl, hb2⟩
      have k2 := Kp.of_below hb2 (fun _ => False)
      clear y0
      go_wp2_with fail
      obtain ⟨X, hX, HKX, HTX, HXX, HRX, HSX⟩ : ∃ X, w2.alloc (.cells #[.int .i64 0, .int .u32 0, .int .i64 F.worn[k]] 100) = X ∧ Hid (Kp (fun _ => False) wr X) ∧ Hid (Blk X w.heap.size 32 #[.pointer (some ⟨BS0, 0, none⟩)]) ∧ Hid (Blk X w2.heap.size 100 #[.int .i64 0, .int .u32 0, .int .i64 F.worn[k]]) ∧
          Hid (X.ownsRow W.heap.size 100 3 v k (secsV (frS F k))) ∧ Hid (Blk X BS0 98 (stM F p MM v)) := by
        have kx : Kp (fun _ => False) wr (w2.alloc (.cells #[.int .i64 0, .int .u32 0, .int .i64 F.worn[k]] 100)) := k2.alloc _
        exact ⟨_, rfl, Lib.hid kx, Lib.hid (HR.out.tb.kp kx (fun x => x)), Lib.hid (Blk.new _ _ _), Lib.hid (ownsRow_kp HR.out.row kx (fun _ _ x => x)), Lib.hid (HR.out.st.kp kx (fun x => x))⟩
      rw [hX]
      clear hX
      have hbX : W.heap.size ≤ w2.heap.size := Nat.le_trans HR.out.hbase hb2.size
      have hne : ∀ b, v.ownBlock = some b → W.heap.size ≤ b ∧ b ≠ w2.heap.size := by
        intro b hb
        rcases HR.out.row.2 with ⟨rfl, _⟩ | ⟨g, cap, cur, rfl, a2, a3, _⟩
        · cases hb
        · have hb' : some g = some b := hb
          injection hb' with hb'
          have := Blk.lt (t := 100) a3
          have := hb2.size
          omega
      clear hb2 k2
      refine region_free_all (by kernel_rfl) (AppS X W.heap.size w.heap.size BS0 w2.heap.size (stM F p MM) v k (secsV (frS F k)) (.int .i64 0) (.int .u32 0) (.int .i64 F.worn[k])) (by kernel_rfl) ?h0 ?hops ?hend
      case h0 =>
        refine ⟨(Kp.refl _ X).drew, HTX.out.drew, HXX.out.drew, ?_, ?_, ?_, ?_, ?_, ?_, ?_, ?_, ?_, ?_, ?_, ?_, ?_⟩
        all_goals first | (intro h; exact h.elim) | (intro _; exact HSX.out.drew) | (intro _; exact ownsRow_kp (S := fun _ => False) HRX.out ((Kp.refl _ X).drew) (fun _ _ x => x))
      case hops =>
        refine ⟨?_, ?_, ?_, ?_, ?_, ?_, ?_, ?_, ?_, ?_, ?_, trivial⟩
        all_goals intro L V b W1 hL hS K hK
        · have q1 := hL.old_ 2 (by kernel_rfl)
          have z1 : W1.cell? ⟨w.heap.size, 0, none⟩ = some (.pointer (some ⟨BS0, 0, none⟩)) := hS.tb.cell 0
          simp at q1
          go_simp
          exact hK _ _ hS.s0
        · have q1 := hL.old_ 2 (by kernel_rfl)
          have z1 : W1.cell? ⟨w.heap.size, 0, none⟩ = some (.pointer (some ⟨BS0, 0, none⟩)) := hS.tb.cell 0
          simp at q1
          go_simp
          exact hK _ _ hS.s1
        · have q1 := hL.dep 1 36 (by kernel_rfl)
          rw [hS.v1 (hL.is_ 1 (by kernel_rfl))] at q1
          go_simp
          exact hK _ _ hS.s2
        · have q1 := hL.dep 2 37 (by kernel_rfl)
          rw [hS.v2 (hL.is_ 2 (by kernel_rfl))] at q1
          go_simp
          exact hK _ _ hS.s3
        · have q1 := hL.dep 3 38 (by kernel_rfl)
          rw [hS.v3 (hL.is_ 3 (by kernel_rfl))] at q1
          have z1 : W1.cell? ⟨BS0, 4, none⟩ = some v := (hS.st1 (hL.not_ 10 (by kernel_rfl))).cell 4
          go_simp
          exact hK _ _ hS.s4
        · have q1 := hL.old_ 6 (by kernel_rfl)
          obtain ⟨z1, z2, z3⟩ := sec3 hS.xb_
          simp at q1
          go_simp
          exact hK _ _ hS.s5
        · have q1 := hL.dep 5 40 (by kernel_rfl)
          rw [hS.v5 (hL.is_ 5 (by kernel_rfl))] at q1
          go_simp
          exact hK _ _ (hS.s6 (hL.not_ 7 (by kernel_rfl)) (hL.not_ 10 (by kernel_rfl)))
        · have q1 := hL.dep 4 39 (by kernel_rfl)
          have q2 := hL.dep 6 41 (by kernel_rfl)
          rw [hS.v4 (hL.is_ 4 (by kernel_rfl))] at q1
          obtain ⟨n6, e6, hn6, hb6⟩ := hS.v6 (hL.is_ 6 (by kernel_rfl))
          rw [e6] at q2
          have ho := hS.own hL.fresh
          have hr := reads3 (hb6 hL.fresh)
          have hXs := hS.kp.size
          have hXl := HXX.out.lt
          refine step_append_any _ rfl (.tmp 39) (.tmp 41) 96 rfl W.heap.size 100 i0 _ 3 24 Tryz.underlying96 hi hy0 hy1 hy2 rfl (by omega) v k (secsV (frS F k)) (by simp [Act.eval, q1]) ho W1.heap.size (some ⟨n6, 0, none⟩) 1 1 _ (by simp [Act.eval, q2]) hr (by intro u hu; simp at hu; rcases hu with rfl | rfl | rfl <;> rfl) (by unfold maxLen; omega) (by omega) (by omega) ?_
          intro v' w' hown hg _
          exact hK _ _ (hS.s7 hL.fresh (hL.not_ 10 (by kernel_rfl)) (fun b hb => by have := hne b hb; omega) v' hg hown)
        · have q1 := hL.dep 0 35 (by kernel_rfl)
          rw [hS.v0 (hL.is_ 0 (by kernel_rfl))] at q1
          go_simp
          exact hK _ _ hS.s8
        · have q1 := hL.dep 8 43 (by kernel_rfl)
          rw [hS.v8 (hL.is_ 8 (by kernel_rfl))] at q1
          go_simp
          exact hK _ _ hS.s9
        · have q1 := hL.dep 9 44 (by kernel_rfl)
          have q2 := hL.dep 7 42 (by kernel_rfl)
          rw [hS.v9 (hL.is_ 9 (by kernel_rfl))] at q1
          have st := hS.st1 hL.fresh
          have z1 : W1.cell? ⟨BS0, 4, none⟩ = some v := st.cell 4
          have f1 := st.frozen 4
          have h7 := hS.s10 (hL.is_ 7 (by kernel_rfl)) hL.fresh (by omega) (by omega) hq3 (fun u => rfl) undef
          obtain ⟨g7, cap7, e7, _⟩ := hS.v7 (hL.is_ 7 (by kernel_rfl))
          rw [e7] at q2 h7
          go_simp
          exact hK _ _ h7
      case hend =>
        intro L V W1 hall' hS
        have e0 := hS.v0 (hall' 0 (by decide))
        have e1 := hS.v1 (hall' 1 (by decide))
        have e2 := hS.v2 (hall' 2 (by decide))
        have e3 := hS.v3 (hall' 3 (by decide))
        have e4 := hS.v4 (hall' 4 (by decide))
        have e5 := hS.v5 (hall' 5 (by decide))
        obtain ⟨n6, e6, _, _⟩ := hS.v6 (hall' 6 (by decide))
        obtain ⟨g7, cap7, e7, hrow⟩ := hS.v7 (hall' 7 (by decide))
        have e8 := hS.v8 (hall' 8 (by decide))
        have e9 := hS.v9 (hall' 9 (by decide))
        have hst := hS.st2 (hall' 10 (by decide))
        rw [e7] at hst hrow
        have HXB := Lib.hid hS.xb_
        have hsz1 := hS.kp.size
        rw [frS_snoc F k hkw] at hrow
        have HNX : Hid (MntR w w.heap.size BS0 MM p pb pw F W.heap.size (k + 1) (.slice (some ⟨g7, 0, none⟩) (k + 1) cap7) W1) := Lib.hid (by
          have k3 : Kp (fun b => b = BS0 ∨ v.ownBlock = some b) wr W1 := (HKX.out.mono (fun _ x => x.elim)).trans hS.kp (fun _ x _ => x)
          have hlo : ∀ b, (b = BS0 ∨ v.ownBlock = some b) → BS0 ≤ b := fun b hb => by
            rcases hb with rfl | hb
            · exact Nat.le_refl _
            · have := (hne b hb).1; omega
          obtain ⟨⟨_, _, _, _, ba⟩, ⟨_, bb, _⟩, ⟨_, bc, _⟩⟩ := HF.out
          have la := ba.lt
          have lb := bb.lt
          have lc := bc.lt
          have hmml : ¬ (MM = BS0 ∨ v.ownBlock = some MM) := fun hb => by have := hlo _ hb; omega
          refine ⟨HR.out.kp.trans (S' := fun b => BS0 ≤ b) (k3.mono (fun b hb => hlo b hb)) (fun b (hb : BS0 ≤ b) hlt => by omega), hS.tb, HR.out.fl.kp k3 (fun hb => by have := hlo _ hb; omega) (fun hb => by have := hlo _ hb; omega) (fun hb => by have := hlo _ hb; omega), HR.out.mp.kp k3 hmml, by have := HXX.out.lt; omega, hrow, hst⟩)
        clear hS hrow hst hne
        simp only [putList_cons, putList_nil, e0, e1, e2, e3, e4, e5, e6, e7, e8, e9]
        go_simp
        clear e0 e1 e2 e3 e4 e5 e6 e7 e8 e9 hall'
        have z0 : W1.cell? ⟨w2.heap.size, 0, none⟩ = some (.int .i64 0) := HXB.out.cell 0
        go_wp2_with fail
        go_roundw
        case rel => exact ⟨rfl, k + 1, by omega, by go_num, _, HNX⟩
        case measure => simp [intOf]; omega
    · have hke : k = F.sectors := by omega
      have hfr : frS F k = F.worn.map (fun e => (⟨0, 0, e⟩ : Sec)) := by
        unfold frS
        rw [hke, ← HWN.out, List.take_length]
      have hlen' : (F.worn.map (fun e => (⟨0, 0, e⟩ : Sec))).length = k := by rw [List.length_map, HWN.out, hke]
      obtain ⟨g, hg, hst⟩ := store_mk (by rw [hlen']; omega) HR.out.fl HR.out.mp (by have := HR.out.row; rw [hfr] at this; rw [hlen']; exact this) HR.out.st
      have HST := Lib.hid hst
      have HT := Lib.hid HR.out.tb
      have HK := Lib.hid HR.out.kp
      have y0 : wr.cell? ⟨w.heap.size, 0, none⟩ = some (.pointer (some ⟨BS0, 0, none⟩)) := HR.out.tb.cell 0
      have hgw := hst.lts.2.2.2.2.1
      clear hst hlen' hfr HR
      go_wp2_with fail
      refine (sortStable_none _ _ _).mono ?_
      rintro e w' ⟨rfl, hw'⟩
      obtain rfl : wr = w' := hw'.symm
      go_wp2_with fail
      refine (replay_none wr BS0 p pb pw g MM _ HST.out 0).mono ?_
      rintro e w2 ⟨m', hm', rfl, hst2, hk2⟩
      have HST2 := Lib.hid hst2
      have HT2 := Lib.hid (HT.out.kp hk2 (by omega))
      have HK2 : Hid (Kp (fun _ => False) w w2) := Lib.hid (HK.out.trans hk2 (fun b hb hlt => by omega))
      have y1 : w2.cell? ⟨w.heap.size, 0, none⟩ = some (.pointer (some ⟨BS0, 0, none⟩)) := HT2.out.cell 0
      clear hst2 hk2 y0
      go_wp2_with fail
      obtain ⟨cc, hcc, hbb, _⟩ := HST2.out.cells
      have hlenS : (F.worn.map (fun e => (⟨0, 0, e⟩ : Sec))).length ≤ 64 := by rw [List.length_map]; exact hsec
      have HSB : Hid (Blk w2 BS0 98 #[.pointer (some ⟨p, 0, none⟩), .int .i64 F.sectors, .int .i64 F.size, .int .i64 F.limit, .slice (some ⟨g, 0, none⟩) (F.worn.map (fun e => (⟨0, 0, e⟩ : Sec))).length cc, .map (some m'), .int .i64 (-1), .int .i64 0, .int .u32 0, .int .u32 0, .bool false]) := Lib.hid hbb
      have hcc' : (F.worn.map (fun e => (⟨0, 0, e⟩ : Sec))).length ≤ cc := hcc
      obtain ⟨fr, hfr⟩ : ∃ n, ((F.worn.map (fun e => (⟨0, 0, e⟩ : Sec))).filter (mayB F.limit)).length = n := ⟨_, rfl⟩
      obtain ⟨sl, hsl⟩ : ∃ n, (F.worn.map (fun e => (⟨0, 0, e⟩ : Sec))).length = n := ⟨_, rfl⟩
      have t1 : ((fr : Int) == 0) = false := beq_eq_false_iff_ne.2 (by have := HFR.out; rw [hfr] at this; omega)
      rw [hsl] at HSB
      have HFRE : Hid (∀ W, StoreAt W BS0 p pb pw g m' ⟨F, F.worn.map (fun e => (⟨0, 0, e⟩ : Sec)), [], -1, 0, 0, 0, false⟩ → Calls Tryz.prog 49 #[.slice (some ⟨g, 0, none⟩) sl cc, .int .i64 F.limit] W fun e w' => e = .returned (.int .i64 fr) ∧ Below W.heap.size W w') := Lib.hid fun W' hW => by
        have := Free_any (F.worn.map (fun e => (⟨0, 0, e⟩ : Sec))) hlenS F.limit W' _ _ (hW.sec hcc')
        rw [hfr] at this
        rw [← hsl]
        exact this
      clear hbb hcc hlenS hcc' hfr hsl y1
      refine region_fixed_all (by kernel_rfl) (fun j => [Value.pointer (some ⟨BS0, 0, none⟩), .pointer (some ⟨BS0, 0, none⟩), .pointer (some ⟨BS0, 4, none⟩), .slice (some ⟨g, 0, none⟩) sl cc, .pointer (some ⟨BS0, 0, none⟩), .pointer (some ⟨BS0, 0, none⟩), .pointer (some ⟨BS0, 1, none⟩), .pointer (some ⟨BS0, 3, none⟩), .int .i64 F.limit, .int .i64 fr, .bool false, .bool false, undef, undef, undef, .bool false].getD j undef)
        (fun W => StoreAt W BS0 p pb pw g m' ⟨F, F.worn.map (fun e => (⟨0, 0, e⟩ : Sec)), [], -1, 0, 0, 0, false⟩ ∧ Kp (fun _ => False) w2 W) (by kernel_rfl) ?h0 ?hops ?hend
      case h0 => exact ⟨HST2.out.drew, (Kp.refl _ w2).drew⟩
      case hops =>
        refine ⟨?_, ?_, ?_, ?_, ?_, ?_, ?_, ?_, ?_, ?_, ?_, ?_, ?_, ?_, ?_, ?_, trivial⟩
        all_goals intro L b W1 hL hS K hK
        · have q1 := hL.old_ 2 (by kernel_rfl)
          have z1 : W1.cell? ⟨w.heap.size, 0, none⟩ = some (.pointer (some ⟨BS0, 0, none⟩)) := (HT2.out.kp hS.2 (fun x => x)).cell 0
          simp at q1
          go_simp
          exact hK _ hS
        · have q1 := hL.dep 0 62 (by kernel_rfl)
          simp at q1
          go_simp
          exact hK _ hS
        · have q1 := hL.dep 1 63 (by kernel_rfl)
          simp at q1
          go_simp
          exact hK _ hS
        · have q1 := hL.dep 2 64 (by kernel_rfl)
          have z1 : W1.cell? ⟨BS0, 4, none⟩ = some (.slice (some ⟨g, 0, none⟩) sl cc) := (HSB.out.kp hS.2 (fun x => x)).cell 4
          simp at q1
          go_simp
          exact hK _ hS
        · have q1 := hL.old_ 2 (by kernel_rfl)
          have z1 : W1.cell? ⟨w.heap.size, 0, none⟩ = some (.pointer (some ⟨BS0, 0, none⟩)) := (HT2.out.kp hS.2 (fun x => x)).cell 0
          simp at q1
          go_simp
          exact hK _ hS
        · have q1 := hL.dep 4 66 (by kernel_rfl)
          simp at q1
          go_simp
          exact hK _ hS
        · have q1 := hL.dep 5 67 (by kernel_rfl)
          simp at q1
          go_simp
          exact hK _ hS
        · have q1 := hL.dep 6 68 (by kernel_rfl)
          simp at q1
          go_simp
          exact hK _ hS
        · have q1 := hL.dep 7 69 (by kernel_rfl)
          have z1 : W1.cell? ⟨BS0, 3, none⟩ = some (.int .i64 F.limit) := (HSB.out.kp hS.2 (fun x => x)).cell 3
          simp at q1
          go_simp
          exact hK _ hS
        · have q1 := hL.dep 3 65 (by kernel_rfl)
          have q2 := hL.dep 8 70 (by kernel_rfl)
          simp at q1 q2
          have hc := HFRE.out W1 hS.1
          go_simp
          refine hc.mono ?_
          rintro e w' ⟨rfl, hb'⟩
          exact hK _ ⟨hS.1.below hb', hS.2.below_trans hb'⟩
        · have q1 := hL.dep 9 71 (by kernel_rfl)
          simp at q1
          go_simp
          exact hK _ hS
        · have q1 := hL.dep 10 72 (by kernel_rfl)
          simp at q1
          go_simp
          exact hK _ hS
        · have q1 := hL.dep 11 73 (by kernel_rfl)
          simp at q1
          go_simp
          exact hK _ hS
        · have q1 := hL.dep 11 73 (by kernel_rfl)
          simp at q1
          go_simp
          exact hK _ hS
        · have q1 := hL.dep 11 73 (by kernel_rfl)
          simp at q1
          go_simp
          exact hK _ hS
        · have q1 := hL.dep 11 73 (by kernel_rfl)
          simp at q1
          go_simp
          exact hK _ hS
      case hend =>
        intro W1 hS
        simp only [putList_cons, putList_nil]
        go_simp
        have hTB1 := HT2.out.kp hS.2 (fun x => x)
        have z1 : W1.cell? ⟨w.heap.size, 0, none⟩ = some (.pointer (some ⟨BS0, 0, none⟩)) := hTB1.cell 0
        have f1 := hTB1.frozen 0
        have hlt1 : w.heap.size < W1.heap.size := hTB1.lt
        obtain ⟨W2, hW2, HS1, HK1, z2, hlt2⟩ : ∃ W2, W1.setCell ⟨w.heap.size, 0, none⟩ (.pointer (some ⟨BS0, 0, none⟩)) = W2 ∧ Hid (StoreAt W2 BS0 p pb pw g m' ⟨F, F.worn.map (fun e => (⟨0, 0, e⟩ : Sec)), [], -1, 0, 0, 0, false⟩) ∧ Hid (Kp (fun _ => False) w W2) ∧ W2.cell? ⟨w.heap.size, 0, none⟩ = some (.pointer (some ⟨BS0, 0, none⟩)) ∧ w.heap.size < W2.heap.size := by
          have k : Kp (fun b => b = w.heap.size) W1 (W1.setCell ⟨w.heap.size, 0, none⟩ (.pointer (some ⟨BS0, 0, none⟩))) := Kp.set_ (S := fun b => b = w.heap.size) (Kp.refl _ _) (.inl rfl) _
          obtain ⟨⟨_, _, _, _, ba⟩, ⟨_, bb, _⟩, ⟨_, bc, _⟩⟩ := HF.out
          have la := ba.lt
          have lb := bb.lt
          have lc := bc.lt
          have b2 := hTB1.set_ 0 (.pointer (some ⟨BS0, 0, none⟩))
          exact ⟨_, rfl, Lib.hid (hS.1.kp k (by omega) (by omega) (by omega) (by omega) (by omega) (by omega)), Lib.hid ((HK2.out.trans hS.2 (fun _ x _ => x)).trans k (fun b hb hlt => by omega)), b2.cell 0, b2.lt⟩
        clear hS hTB1
        go_wp2
        refine bodyPost_ret (v := .tuple #[.pointer (some ⟨BS0, 0, none⟩), .int .i64 0]) (by simp [results, Tryz.results25, go_sem, z2]) rfl ⟨BS0, rfl, by omega, g, by omega, m', by omega, HS1.out, HK1.out.below⟩
end Go.Proofs.YtnaphhfmccbamaaGreatDoor

namespace Go.Proofs.YtnaphhfmccbamaaGreatDoor
open Go.RowKit

/-- An environment behind a pointer to block v: its store's pointer, its suite, its lines, which lie from block base on. -/
structure EnvAt (w : World) (base v : Nat) (sv : Value) (suite : ByteArray) (lv : Value) (ls : List ByteArray) : Prop where
  blk : Blk w v 63 #[sv, .string suite, lv]
  row : w.ownsRow base 9 1 lv ls.length (ls.map Value.string)
  lt : v < base
  le : base ≤ w.heap.size
section
variable {w w' : World} {base v : Nat} {sv : Value} {suite : ByteArray} {lv : Value} {ls : List ByteArray} {S : Nat → Prop}
theorem EnvAt.own_le (h : EnvAt w base v sv suite lv ls) {b : Nat} (hb : lv.ownBlock = some b) : base ≤ b := by
  rcases h.row.2 with ⟨rfl, _⟩ | ⟨g, cap, cur, rfl, a2, _⟩
  · cases hb
  · have hb' : some g = some b := hb
    injection hb' with hb'
    omega
theorem EnvAt.kp (h : EnvAt w base v sv suite lv ls) (k : Kp S w w') (h1 : ¬ S v) (h2 : ∀ b, base ≤ b → ¬ S b) : EnvAt w' base v sv suite lv ls :=
  ⟨h.blk.kp k h1, ownsRow_kp h.row k (fun b hb => h2 b (h.own_le hb)), h.lt, Nat.le_trans h.le k.size⟩
end
theorem New_any (w : World) (sp : Option Addr) (suite : ByteArray) : Calls Tryz.prog 7 #[.pointer sp, .string suite] w fun e w' => e = .returned (.pointer (some ⟨w.heap.size, 0, none⟩)) ∧ EnvAt w' (w.heap.size + 1) w.heap.size (.pointer sp) suite (.slice none 0 0) [] ∧ Below w.heap.size w w' := by
  go_enter Tryz.func7, Tryz.ntmps7
  go_wp2
  go_ret
  exact ⟨rfl, ⟨Blk.new _ _ _, World.ownsRow_nil _ _ _ 1, by omega, by simp⟩, (Below.refl _ _).alloc (Nat.le_refl _) _⟩
theorem Print_nil (w : World) (n : Int) : Calls Tryz.prog 8 #[.pointer none, .int .i64 n] w fun e w' => e = .returned (.tuple #[]) ∧ w = w' := by
  go_enter Tryz.func8, Tryz.ntmps8
  go_wp2
  exact bodyPost_end (results_none rfl _ _ _) rfl ⟨rfl, rfl⟩
theorem Text_nil (w : World) (b : Value) : Calls Tryz.prog 14 #[.pointer none, b] w fun e w' => e = .returned (.tuple #[]) ∧ w = w' := by
  go_enter Tryz.func14, Tryz.ntmps14
  go_wp2
  exact bodyPost_end (results_none rfl _ _ _) rfl ⟨rfl, rfl⟩
theorem Lines_nil (w : World) : Calls Tryz.prog 9 #[.pointer none] w fun e w' => e = .returned (.slice none 0 0) ∧ w = w' := by
  go_enter Tryz.func9, Tryz.ntmps9
  go_wp2
  go_ret
  exact ⟨rfl, rfl⟩

theorem reads1 {W : World} {n : Nat} {t : TypeId} {a : Value} (h : Blk W n t #[a]) : Reads W W.heap.size 1 (some ⟨n, 0, none⟩) 1 [a] := by
  refine ⟨rfl, fun _ => ⟨_, rfl, h.lt, fun j u hj => ?_⟩⟩
  rw [addr_add0, h.cell j, ← hj]
  simp
def envC (sv : Value) (suite : ByteArray) (lv : Value) : Array Value := #[sv, .string suite, lv]
set_option maxRecDepth 100000 in
set_option maxHeartbeats 4000000 in
theorem Print_any (w : World) (base v : Nat) (sv : Value) (suite : ByteArray) (lv : Value) (ls : List ByteArray) (h : EnvAt w base v sv suite lv ls) (hls : ls.length ≤ 1000000) (n : Int) (h0 : -9223372036854775808 ≤ n) (h1 : n ≤ 9223372036854775807)
    (htab : ∀ W, Kp (fun b => base ≤ b ∨ b = v) w W → Lib.TabIs Tryz.prog W "internal/strconv.uint64pow10" .u64 Lib.pow10Tab) :
    Calls Tryz.prog 8 #[.pointer (some ⟨v, 0, none⟩), .int .i64 n] w fun e w' => e = .returned (.tuple #[]) ∧ ∃ lv', EnvAt w' base v sv suite lv' (ls ++ [⟨(Lib.itoa n).toArray⟩]) ∧ Kp (fun b => b = v ∨ base ≤ b) w w' := by
  have HE := Lib.hid h
  have HT := Lib.hid htab
  obtain ⟨i0, hi, hy0, hy1, hy2⟩ := info_parts info_string
  have hvb := h.lt
  have hbw := h.le
  have HNE : Hid (∀ b, lv.ownBlock = some b → b ≠ v) := Lib.hid fun b hb => by have := h.own_le hb; omega
  clear h htab
  go_enter Tryz.func8, Tryz.ntmps8
  go_wp2_with fail
  obtain ⟨st, hst⟩ : ∃ s : ByteArray, (⟨(Lib.itoa n).toArray⟩ : ByteArray) = s := ⟨_, rfl⟩
  refine region_parts_all (by kernel_rfl) (fun j => [some (Value.pointer (some ⟨v, 0, none⟩)), some (.pointer (some ⟨v, 0, none⟩)), some (.pointer (some ⟨v, 0, none⟩)), some (.pointer (some ⟨v, 2, none⟩)), some lv, some (.int .i64 n), some (.string st), none, none, some (.pointer (some ⟨v, 0, none⟩)), some (.pointer (some ⟨v, 2, none⟩)), none].getD j none)
    (AppR w base v 63 9 1 (envC sv suite) lv ls.length (ls.map Value.string) (fun _ => [.string st]) 12 7 8 11) (by kernel_rfl) ?h0 ?hops ?hend
  case h0 => exact AppR.start HE.out.row HE.out.blk
  case hops =>
    refine ⟨?_, ?_, ?_, ?_, ?_, ?_, ?_, ?_, ?_, ?_, ?_, ?_, trivial⟩
    all_goals intro L V b W hL hF hR K hK
    · have q1 := hL.old_ 0 (by kernel_rfl)
      simp at q1
      go_simp
      exact hK _ hR
    · have q1 := hL.old_ 0 (by kernel_rfl)
      simp at q1
      go_simp
      exact hK _ hR
    · have q1 := hL.depv hF 1 7 _ rfl (by kernel_rfl)
      go_simp
      exact hK _ hR
    · have q1 := hL.depv hF 2 8 _ rfl (by kernel_rfl)
      go_simp
      exact hK _ hR
    · have q1 := hL.depv hF 3 9 _ rfl (by kernel_rfl)
      have z1 : W.cell? ⟨v, 2, none⟩ = some lv := (hR.st1 (hL.notn 11 (by kernel_rfl))).cell 2
      go_simp
      exact hK _ hR
    · have q1 := hL.old_ 1 (by kernel_rfl)
      simp at q1
      go_simp
      exact hK _ hR
    · have q1 := hL.depv hF 5 11 _ rfl (by kernel_rfl)
      have hc := Tryz.strconv_FormatInt_10 n h0 h1 W (HT.out W (hR.kp.mono (fun b hb => by rcases hb with hb | hb; exact .inr hb; exact .inl (HE.out.own_le hb))))
      rw [hst] at hc
      go_simp
      refine hc.mono ?_
      rintro e w' ⟨rfl, k, os, rfl⟩
      exact hK _ (hR.below (Lib.below_grow _ W (Nat.le_refl _) k os))
    · have q1 := hL.depv hF 6 12 _ rfl (by kernel_rfl)
      go_simp
      exact hK _ _ (hR.alloc (by decide) (by decide) (by decide) (hL.notn 8 (by kernel_rfl)) (hL.notn 11 (by kernel_rfl)))
    · have q1 := hL.depv hF 4 10 _ rfl (by kernel_rfl)
      have q2 := hL.dep 7 13 (by kernel_rfl)
      obtain ⟨n7, e7, hn7, hb7⟩ := hR.al (hL.isn 7 rfl (by kernel_rfl))
      have e7' : V 7 = .slice (some ⟨n7, 0, none⟩) 1 1 := e7
      rw [e7'] at q2
      have ho := hR.own hL.freshn
      have hbk := hb7 hL.freshn
      have hr : Reads W W.heap.size 1 (some ⟨n7, 0, none⟩) 1 [.string st] := reads1 hbk
      have hbs := hR.kp.size
      refine step_append_any _ rfl (.tmp 10) (.tmp 13) 27 rfl base 9 i0 _ 1 16 Tryz.underlying27 hi hy0 hy1 hy2 rfl (by omega) lv ls.length (ls.map Value.string) (by simp [Act.eval, q1]) ho W.heap.size (some ⟨n7, 0, none⟩) 1 1 _ (by simp [Act.eval, q2]) hr (by intro u hu; simp at hu; subst hu; rfl) (by unfold maxLen; omega) (by omega) (by omega) ?_
      intro v' w' hown hg _
      exact hK _ _ (hR.app (by decide) (by decide) (by decide) hL.freshn (hL.notn 11 (by kernel_rfl)) HNE.out v' hg hown)
    · have q1 := hL.depv hF 0 6 _ rfl (by kernel_rfl)
      go_simp
      exact hK _ hR
    · have q1 := hL.depv hF 9 15 _ rfl (by kernel_rfl)
      go_simp
      exact hK _ hR
    · have q1 := hL.depv hF 10 16 _ rfl (by kernel_rfl)
      have q2 := hL.dep 8 14 (by kernel_rfl)
      have st := hR.st1 hL.freshn
      have z1 : W.cell? ⟨v, 2, none⟩ = some lv := st.cell 2
      have f1 := st.frozen 2
      have hs := hR.store (by decide) (by decide) (by decide) (hL.isn 8 rfl (by kernel_rfl)) hL.freshn hvb 2 (fun u => rfl) undef
      obtain ⟨g8, cap8, e8, _⟩ := (hR.own2 (hL.isn 8 rfl (by kernel_rfl))).form (by omega)
      have e8' : V 8 = .slice (some ⟨g8, 0, none⟩) (ls.length + 1) cap8 := e8
      rw [e8'] at q2
      rw [e8] at hs
      go_simp
      exact hK _ _ hs
  case hend =>
    intro L V W hall hfix hR
    have e0 := hfix 0 _ (by decide) rfl
    have e1 := hfix 1 _ (by decide) rfl
    have e2 := hfix 2 _ (by decide) rfl
    have e3 := hfix 3 _ (by decide) rfl
    have e4 := hfix 4 _ (by decide) rfl
    have e5 := hfix 5 _ (by decide) rfl
    have e6 := hfix 6 _ (by decide) rfl
    have e9 := hfix 9 _ (by decide) rfl
    have e10 := hfix 10 _ (by decide) rfl
    have h8 := hR.own2 (hall 8 rfl (by decide))
    have h11 := hR.st2 (hall 11 rfl (by decide))
    have k := hR.kp
    have FIN : Hid (∃ lv', EnvAt W base v sv suite lv' (ls ++ [st]) ∧ Kp (fun b => b = v ∨ base ≤ b) w W) := Lib.hid ⟨_, ⟨h11, by rw [List.length_append, List.length_singleton, List.map_append]; exact h8, hvb, Nat.le_trans hbw k.size⟩, k.mono (fun b hb => by rcases hb with hb | hb; exact .inl hb; exact .inr (HE.out.own_le hb))⟩
    simp only [putList_cons, putList_nil, e0, e1, e2, e3, e4, e5, e6, e9, e10]
    clear hR h8 h11 k e0 e1 e2 e3 e4 e5 e6 e9 e10 hall hfix
    go_simp
    go_wp2
    exact bodyPost_end (results_none rfl _ _ _) rfl ⟨rfl, by rw [hst]; exact FIN.out⟩
set_option maxRecDepth 100000 in
set_option maxHeartbeats 4000000 in
theorem Text_any (w : World) (base v : Nat) (sv : Value) (suite : ByteArray) (lv : Value) (ls : List ByteArray) (h : EnvAt w base v sv suite lv ls) (hls : ls.length ≤ 1000000) (l : List UInt8) (bv : Value) (ok : Nat → Prop) (hb : Sl ok w bv (bytesV l)) (hok : ∀ b, ok b → ¬ (b = v ∨ lv.ownBlock = some b)) :
    Calls Tryz.prog 14 #[.pointer (some ⟨v, 0, none⟩), bv] w fun e w' => e = .returned (.tuple #[]) ∧ ∃ lv', EnvAt w' base v sv suite lv' (ls ++ [⟨l.toArray⟩]) ∧ Kp (fun b => b = v ∨ base ≤ b) w w' := by
  have HE := Lib.hid h
  obtain ⟨bA, bc, rfl, _⟩ := hb.form
  rw [bytesV_length] at hb ⊢
  have HB := Lib.hid hb
  have HOK := Lib.hid hok
  obtain ⟨i0, hi, hy0, hy1, hy2⟩ := info_parts info_string
  have hvb := h.lt
  have hbw := h.le
  have HNE : Hid (∀ b, lv.ownBlock = some b → b ≠ v) := Lib.hid fun b hb => by have := h.own_le hb; omega
  clear h hb hok
  go_enter Tryz.func14, Tryz.ntmps14
  go_wp2_with fail
  obtain ⟨st, hst⟩ : ∃ s : ByteArray, (⟨l.toArray⟩ : ByteArray) = s := ⟨_, rfl⟩
  refine region_parts_all (by kernel_rfl) (fun j => [some (Value.pointer (some ⟨v, 0, none⟩)), some (.pointer (some ⟨v, 0, none⟩)), some (.pointer (some ⟨v, 0, none⟩)), some (.pointer (some ⟨v, 2, none⟩)), some lv, some (.slice bA l.length bc), some (.string st), none, none, some (.pointer (some ⟨v, 0, none⟩)), some (.pointer (some ⟨v, 2, none⟩)), none].getD j none)
    (AppR w base v 63 9 1 (envC sv suite) lv ls.length (ls.map Value.string) (fun _ => [.string st]) 12 7 8 11) (by kernel_rfl) ?h0 ?hops ?hend
  case h0 => exact AppR.start HE.out.row HE.out.blk
  case hops =>
    refine ⟨?_, ?_, ?_, ?_, ?_, ?_, ?_, ?_, ?_, ?_, ?_, ?_, trivial⟩
    all_goals intro L V b W hL hF hR K hK
    · have q1 := hL.old_ 0 (by kernel_rfl)
      simp at q1
      go_simp
      exact hK _ hR
    · have q1 := hL.old_ 0 (by kernel_rfl)
      simp at q1
      go_simp
      exact hK _ hR
    · have q1 := hL.depv hF 1 7 _ rfl (by kernel_rfl)
      go_simp
      exact hK _ hR
    · have q1 := hL.depv hF 2 8 _ rfl (by kernel_rfl)
      go_simp
      exact hK _ hR
    · have q1 := hL.depv hF 3 9 _ rfl (by kernel_rfl)
      have z1 : W.cell? ⟨v, 2, none⟩ = some lv := (hR.st1 (hL.notn 11 (by kernel_rfl))).cell 2
      go_simp
      exact hK _ hR
    · have q1 := hL.old_ 1 (by kernel_rfl)
      simp at q1
      go_simp
      exact hK _ hR
    · have q1 := hL.depv hF 5 11 _ rfl (by kernel_rfl)
      have hc := (HB.out.kp hR.kp (fun b hb _ => HOK.out b hb)).conv
      rw [hst] at hc
      go_simp
      exact hK _ hR
    · have q1 := hL.depv hF 6 12 _ rfl (by kernel_rfl)
      go_simp
      exact hK _ _ (hR.alloc (by decide) (by decide) (by decide) (hL.notn 8 (by kernel_rfl)) (hL.notn 11 (by kernel_rfl)))
    · have q1 := hL.depv hF 4 10 _ rfl (by kernel_rfl)
      have q2 := hL.dep 7 13 (by kernel_rfl)
      obtain ⟨n7, e7, hn7, hb7⟩ := hR.al (hL.isn 7 rfl (by kernel_rfl))
      have e7' : V 7 = .slice (some ⟨n7, 0, none⟩) 1 1 := e7
      rw [e7'] at q2
      have ho := hR.own hL.freshn
      have hbk := hb7 hL.freshn
      have hr : Reads W W.heap.size 1 (some ⟨n7, 0, none⟩) 1 [.string st] := reads1 hbk
      have hbs := hR.kp.size
      refine step_append_any _ rfl (.tmp 10) (.tmp 13) 27 rfl base 9 i0 _ 1 16 Tryz.underlying27 hi hy0 hy1 hy2 rfl (by omega) lv ls.length (ls.map Value.string) (by simp [Act.eval, q1]) ho W.heap.size (some ⟨n7, 0, none⟩) 1 1 _ (by simp [Act.eval, q2]) hr (by intro u hu; simp at hu; subst hu; rfl) (by unfold maxLen; omega) (by omega) (by omega) ?_
      intro v' w' hown hg _
      exact hK _ _ (hR.app (by decide) (by decide) (by decide) hL.freshn (hL.notn 11 (by kernel_rfl)) HNE.out v' hg hown)
    · have q1 := hL.depv hF 0 6 _ rfl (by kernel_rfl)
      go_simp
      exact hK _ hR
    · have q1 := hL.depv hF 9 15 _ rfl (by kernel_rfl)
      go_simp
      exact hK _ hR
    · have q1 := hL.depv hF 10 16 _ rfl (by kernel_rfl)
      have q2 := hL.dep 8 14 (by kernel_rfl)
      have st := hR.st1 hL.freshn
      have z1 : W.cell? ⟨v, 2, none⟩ = some lv := st.cell 2
      have f1 := st.frozen 2
      have hs := hR.store (by decide) (by decide) (by decide) (hL.isn 8 rfl (by kernel_rfl)) hL.freshn hvb 2 (fun u => rfl) undef
      obtain ⟨g8, cap8, e8, _⟩ := (hR.own2 (hL.isn 8 rfl (by kernel_rfl))).form (by omega)
      have e8' : V 8 = .slice (some ⟨g8, 0, none⟩) (ls.length + 1) cap8 := e8
      rw [e8'] at q2
      rw [e8] at hs
      go_simp
      exact hK _ _ hs
  case hend =>
    intro L V W hall hfix hR
    have e0 := hfix 0 _ (by decide) rfl
    have e1 := hfix 1 _ (by decide) rfl
    have e2 := hfix 2 _ (by decide) rfl
    have e3 := hfix 3 _ (by decide) rfl
    have e4 := hfix 4 _ (by decide) rfl
    have e5 := hfix 5 _ (by decide) rfl
    have e6 := hfix 6 _ (by decide) rfl
    have e9 := hfix 9 _ (by decide) rfl
    have e10 := hfix 10 _ (by decide) rfl
    have h8 := hR.own2 (hall 8 rfl (by decide))
    have h11 := hR.st2 (hall 11 rfl (by decide))
    have k := hR.kp
    have FIN : Hid (∃ lv', EnvAt W base v sv suite lv' (ls ++ [st]) ∧ Kp (fun b => b = v ∨ base ≤ b) w W) := Lib.hid ⟨_, ⟨h11, by rw [List.length_append, List.length_singleton, List.map_append]; exact h8, hvb, Nat.le_trans hbw k.size⟩, k.mono (fun b hb => by rcases hb with hb | hb; exact .inl hb; exact .inr (HE.out.own_le hb))⟩
    simp only [putList_cons, putList_nil, e0, e1, e2, e3, e4, e5, e6, e9, e10]
    clear hR h8 h11 k e0 e1 e2 e3 e4 e5 e6 e9 e10 hall hfix
    go_simp
    go_wp2
    exact bodyPost_end (results_none rfl _ _ _) rfl ⟨rfl, by rw [hst]; exact FIN.out⟩

theorem Lines_any (w : World) (base v : Nat) (sv : Value) (suite : ByteArray) (lv : Value) (ls : List ByteArray) (h : EnvAt w base v sv suite lv ls) (hls : ls.length ≤ 1000000) :
    Calls Tryz.prog 9 #[.pointer (some ⟨v, 0, none⟩)] w fun e w' => ∃ r, e = .returned r ∧ Sl (fun b => w.heap.size ≤ b) w' r (ls.map Value.string) ∧ Below w.heap.size w w' := by
  have c2 : w.cell? ⟨v, 2, none⟩ = some lv := h.blk.cell 2
  have hrow := h.row
  clear h
  rcases hrow.2 with ⟨rfl, hn⟩ | ⟨g, cap, cur, rfl, hg, hh, hnc, _, _, ht⟩
  · obtain rfl : ls = [] := List.eq_nil_of_length_eq_zero hn
    clear hrow hn
    go_enter Tryz.func9, Tryz.ntmps9
    go_wp2_with fail
    refine (Tryz.slices_Clone_string_nil 0 0 w).mono ?_
    rintro e w' ⟨rfl, rfl⟩
    go_wp2
    go_ret
    exact ⟨_, rfl, Sl.nil _ _, Below.refl _ _⟩
  · by_cases h0 : ls.length = 0
    · obtain rfl : ls = [] := List.eq_nil_of_length_eq_zero h0
      clear hrow h0 ht hh hnc
      go_enter Tryz.func9, Tryz.ntmps9
      go_wp2_with fail
      refine (Tryz.slices_Clone_string_zero ⟨g, 0, none⟩ cap w).mono ?_
      rintro e w' ⟨v', rfl, ho, _, hb⟩
      have HO := Lib.hid ho
      have HB := Lib.hid hb
      clear ho hb
      go_wp2
      go_ret
      exact ⟨_, rfl, Sl.of_own HO.out, HB.out⟩
    · have hcell : Hid (∀ j, j < ls.length → w.cell? ⟨g, 0 + j, none⟩ = some (.string (ls.getD j ByteArray.empty))) := Lib.hid fun j hj => by
        rw [Nat.zero_add, cell_of_row w g j cur _ (0, 0) hh]
        have : (cur.toList.take (ls.length * 1))[j]? = (ls.map Value.string)[j]? := by rw [ht]
        rw [Nat.mul_one, List.getElem?_take_of_lt hj] at this
        rw [← Array.getElem?_toList, this, List.getElem?_map, List.getElem?_eq_getElem hj, List.getD_eq_getElem?_getD, List.getElem?_eq_getElem hj]
        rfl
      clear hrow h0 ht hh hnc
      go_enter Tryz.func9, Tryz.ntmps9
      go_wp2_with fail
      refine (Tryz.slices_Clone_string g 0 ls.length cap ls w (Nat.le_refl _) (by omega) hcell.out).mono ?_
      rintro e w' ⟨v', rfl, ho, _, hb⟩
      rw [List.take_length] at ho
      have HO := Lib.hid ho
      have HB := Lib.hid hb
      clear ho hb
      go_wp2
      go_ret
      exact ⟨_, rfl, Sl.of_own HO.out, HB.out⟩
end Go.Proofs.YtnaphhfmccbamaaGreatDoor
