/- Contract of the store's write at one record: the record and its commit are laid, the record is applied. Contracts of the store's size and open. As region_turn_all, with operations behind the one that turns the world. Contract of the store's open where a sector can be opened. Contract of the store's room, where the head has room, and where a sector is opened. -/
import Derived.Test.YtnaphhfmccbamaaGreatDoorPr08
import Derived.Test.YtnaphhfmccbamaaGreatDoorPr03
namespace Go.Proofs.YtnaphhfmccbamaaGreatDoor
open Go.RowKit

theorem info_rec : (Tryz.prog.info? 183).map (fun i => (i.zero, i.size, i.bytes)) = some (some (.agg #[.int .i64 0, .int .u32 0, .string ⟨#[]⟩, .slice none 0 0, .int .i64 0]), 5, 64) := by kernel_rfl
theorem info_found : (Tryz.prog.info? 185).map (fun i => (i.zero, i.size, i.bytes)) = some (some (.agg #[.int .i64 0, .int .i64 0, .int .u32 0, .string ⟨#[]⟩, .slice none 0 0, .int .i64 0]), 6, 72) := by kernel_rfl

/-- append of one element onto nil. -/
theorem wpList_append_first {P : Program} (w : World) {ops : Array Oper} {rest : List Oper} {o : Oper} {a : Act} {Q : Exit → Act → World → Prop} (hgd : o.guard = none) (s x : Operand) (t : TypeId)
    (ho : o.op = .call { callee := .builtin .append, args := #[s, x], argTypes := #[t, t] }) (e : TypeId) (i : TypeInfo) (z : Value) (size bytes : Nat) (ht : P.underlying t = some (.slice e)) (hi : P.info? e = some i) (hz : i.zero = some z)
    (hsize : i.size = size) (hby : i.bytes = bytes) (hzs : z.cells.size = size) (hsz : 0 < size) (hs : a.eval s = .slice none 0 0)
    (ad : Addr) (c : Nat) (news : List Value) (hx : a.eval x = .slice (some ad) 1 c) (hl : news.length = size) (hnews : ∀ j u, news[j]? = some u → w.cell? (ad.add j) = some u) (h1 : ∀ u ∈ news, u.oneCell' = true)
    (hbytes : bytes ≤ 140737488355328)
    (h : ∀ g cap w', w.heap.size ≤ g → 1 ≤ cap → g < w'.heap.size → (∀ j u, news[j]? = some u → w'.cell? ⟨g, j, none⟩ = some u) → Kp (fun _ => False) w w' → wpList P ops Q rest (a.put o.dst (.slice (some ⟨g, 0, none⟩) 1 cap)) w') : wpList P ops Q (o :: rest) a w := by
  refine wpList_plain hgd fun K hK => ?_
  obtain ⟨v', w', hrun, r1, r2, _⟩ := run_append_own (P := P) w w.heap.size t o.type e i z size bytes ht hi hz hsize hby hzs hsz (.slice none 0 0) 0 [] (World.ownsRow_nil w _ e size) ad 1 c news (by omega) hnews h1 (by decide) (by omega) (Nat.le_refl _)
  unfold Oper.wp execOp
  simp only [ho, resolve, invoke, builtin, Sem.run_bind, Sem.run_pure, Result.andThen_ok, List.map_toArray, List.map_cons, List.map_nil, hs, hx, hrun]
  rw [Nat.zero_add, List.nil_append] at r1
  obtain ⟨g, cap, hv, hge, hlt⟩ := r1.form (by omega)
  subst hv
  have hcap : 1 ≤ cap := by
    rcases r1.2 with ⟨e1, _⟩ | ⟨g', cap', cur, e1, _, _, q, _⟩
    · cases e1
    · injection e1 with _ _ e3; omega
  refine hK _ _ (h g cap w' hge hcap hlt (fun j u hu => ?_) ((kp_of_grown r2).mono (fun k hk => by simp [Value.ownBlock] at hk)))
  have := r1.cells (g := g) rfl j u hu
  rwa [show (⟨g, 0, none⟩ : Addr).add j = ⟨g, j, none⟩ by unfold Addr.add; split <;> simp_all] at this

def BS.laid (B : BS) (hn kind txn cnt : Nat) (key : ByteArray) (blob : List UInt8) : BS :=
  { B with F := B.F.laid (hn * B.F.size + B.at_) (recL kind txn cnt key.data.toList blob), at_ := B.at_ + (16 + key.size + blob.length) }
theorem laid_length (F : FL) (pos : Nat) (d : List UInt8) (h : pos + d.length + 1 ≤ F.b.length) : (F.laid pos d).b.length = F.b.length := by
  unfold FL.laid
  rw [put_length _ _ _ (by rw [put_length _ _ _ (by omega)]; simpa using h), put_length _ _ _ (by omega)]
theorem Ff.laid {F : FL} {a b : Nat} (h : Ff F.b a b) (pos : Nat) (d : List UInt8) (hfit : pos + d.length + 1 ≤ F.b.length) (hout : b ≤ pos ∨ pos + d.length + 1 ≤ a) : Ff (F.laid pos d).b a b := by
  unfold FL.laid
  refine Ff.put (F := F.put pos d) (h.put pos d (by omega) (by omega)) _ _ (by rw [put_length _ _ _ (by omega)]; simpa using hfit) ?_
  rcases hout with h1 | h1
  · left; omega
  · right; simpa using h1

/-- The value lv is a slice of one record. -/
structure OneRec (ok : Nat → Prop) (w : World) (lv : Value) (kind txn : Nat) (key : ByteArray) (bv : Value) : Prop where
  out : ∃ gr c, lv = .slice (some ⟨gr, 0, none⟩) 1 c ∧ 1 ≤ c ∧ ok gr ∧ gr < w.heap.size ∧ w.cell? ⟨gr, 0, none⟩ = some (.int .i64 kind) ∧ w.cell? ⟨gr, 1, none⟩ = some (.int .u32 txn) ∧ w.cell? ⟨gr, 2, none⟩ = some (.string key) ∧ w.cell? ⟨gr, 3, none⟩ = some bv ∧ w.cell? ⟨gr, 4, none⟩ = some (.int .i64 0)

set_option maxRecDepth 100000 in
set_option maxHeartbeats 4000000 in
theorem write_one (w : World) (s p pb pw g m : Nat) (B : BS) (h : StoreAt w s p pb pw g m B) (hd : B.F.down = false) (hfu : B.F.fuse < 0) (hn : Nat) (hh : B.head = hn) (hlt : hn < B.F.sectors) (hsec : B.F.sectors ≤ 64) (hsz : B.F.size ≤ 65536)
    (hlen : B.F.b.length = B.F.sectors * B.F.size) (kind txn : Nat) (hk : kind ≤ 3) (htx : B.txn < 4294967295) (key : ByteArray) (hks : key.size ≤ 64) (blob : List UInt8) (hbl : blob.length ≤ 4096)
    (hfit : B.at_ + (16 + key.size + blob.length) + 16 ≤ B.F.size) (hff : Ff B.F.b (hn * B.F.size + B.at_) (hn * B.F.size + B.F.size)) (lv bv : Value) (ok : Nat → Prop) (hok : ∀ b, ok b → b ≠ s ∧ b ≠ p ∧ b ≠ pb ∧ b ≠ pw ∧ b ≠ g ∧ b ≠ m)
    (hl : OneRec ok w lv kind txn key bv) (hv : Sl ok w bv (bytesV blob))
    (hr : ∀ W, Calls Tryz.prog 158 #[recV kind (B.txn + 1) key bv 0, .int .i64 key.size, .int .i64 blob.length] W fun e w' => e = .returned (.bool true) ∧ Below W.heap.size W w')
    (idx' : List (ByteArray × Value))
    (hap : ∀ (W : World) (B' : BS), StoreAt W s p pb pw g m B' → B'.idx = B.idx → Sl ok W bv (bytesV blob) → Calls Tryz.prog 111 #[.pointer (some ⟨s, 0, none⟩), .int .i64 hn, foundV B.at_ kind (B.txn + 1) key bv 0] W fun e w' => e = .returned (.tuple #[]) ∧ StoreAt w' s p pb pw g m { B' with idx := idx' } ∧ Kp (fun b => b = m) W w') :
    Calls Tryz.prog 153 #[.pointer (some ⟨s, 0, none⟩), lv] w fun e w' =>
      e = .returned (.int .i64 0) ∧ StoreAt w' s p pb pw g m { ((({ B with txn := B.txn + 1 } : BS).laid hn kind (B.txn + 1) 0 key blob).laid hn 3 (B.txn + 1) 1 ⟨#[]⟩ []) with idx := idx' } ∧ Kp (fun b => b = pb ∨ b = s ∨ b = m) w w' := by
  obtain ⟨gr, lc, rfl, hlc, hgr, hgl, x0, x1, x2, x3, x4⟩ := hl.out
  obtain ⟨bA, bc, rfl, hbc⟩ := hv.form
  rw [bytesV_length] at hr hv hbc x3 hap
  have HR := Lib.hid hr
  have HV := Lib.hid hv
  have HS := Lib.hid h
  have HAP := Lib.hid hap
  have HL := Lib.hid hl
  have hokg := hok gr hgr
  obtain ⟨c, hc, hb, hs, c0, c1, c2, c3, c4, c5, c6, c7, c8, c9, c10⟩ := h.cells
  obtain ⟨i0, hi, hz0, hz1, hz2⟩ := info_parts info_found
  have f8 := hb.frozen 8
  have t1 : IntKind.u32.wrap ((B.txn : Int) + 1) = ((B.txn + 1 : Nat) : Int) := by rw [IntKind.wrap_u32]; omega
  obtain ⟨tx, htx', htxb⟩ : ∃ tx : Nat, B.txn + 1 = tx ∧ tx < 4294967296 := ⟨_, rfl, by omega⟩
  rw [htx'] at t1
  clear hr hv hap hl
  rw [htx'] at HR HAP ⊢
  obtain ⟨w1, hw1, HS1, hk1⟩ : ∃ w1, w.setCell ⟨s, 8, none⟩ (.int .u32 tx) = w1 ∧ StoreAt w1 s p pb pw g m { B with txn := tx } ∧ Kp (fun b => b = pb ∨ b = s ∨ b = m) w w1 := by
    obtain ⟨e1, e2⟩ := store_set h 8 (.int .u32 tx) { B with txn := tx } rfl rfl rfl (fun _ => rfl)
    exact ⟨_, rfl, e1, e2.mono (fun _ x => .inr (.inl x))⟩
  have hz1' : w1.heap.size = w.heap.size := by rw [← hw1]; simp
  clear h hb
  go_enter Tryz.func153, Tryz.ntmps153
  go_wp2_with fail
  obtain ⟨xg0, xg1, xg2, xg3, xg4⟩ : w1.cell? ⟨gr, 0, none⟩ = some (.int .i64 kind) ∧ w1.cell? ⟨gr, 1, none⟩ = some (.int .u32 txn) ∧ w1.cell? ⟨gr, 2, none⟩ = some (.string key) ∧ w1.cell? ⟨gr, 3, none⟩ = some (.slice bA blob.length bc) ∧ w1.cell? ⟨gr, 4, none⟩ = some (.int .i64 0) := by
    have q : ∀ i, w1.cell? ⟨gr, i, none⟩ = w.cell? ⟨gr, i, none⟩ := fun i => hk1.cell (p := ⟨gr, i, none⟩) hgl (by show ¬ (gr = pb ∨ gr = s ∨ gr = m); omega)
    exact ⟨(q 0).trans x0, (q 1).trans x1, (q 2).trans x2, (q 3).trans x3, (q 4).trans x4⟩
  have HV1 := Lib.hid (HV.out.kp hk1 (fun b hb _ => by have := hok b hb; omega))
  have HS1' := Lib.hid HS1
  have HK1 := Lib.hid hk1
  have hgl1 : gr < w1.heap.size := by omega
  clear hw1 x0 x1 x2 x3 x4 c0 c1 c2 c3 c4 c5 c6 c7 c8 c9 c10 f8 HV HS HL HS1 hk1
  go_loopw [5, 21] (fun fd i wr => (i = .int .i64 0 ∧ fd = .slice none 0 0 ∧ wr = w1) ∨ (i = .int .i64 1 ∧ ∃ gf cap, fd = .slice (some ⟨gf, 0, none⟩) 1 cap ∧ 1 ≤ cap ∧ w1.heap.size ≤ gf ∧ gf < wr.heap.size ∧ Hid (∀ j u, [Value.int .i64 B.at_, .int .i64 kind, .int .u32 tx, .string key, .slice bA blob.length bc, .int .i64 0][j]? = some u → wr.cell? ⟨gf, j, none⟩ = some u) ∧
      Hid (StoreAt wr s p pb pw g m (({ B with txn := tx } : BS).laid hn kind tx 0 key blob)) ∧ Hid (Kp (fun b => b = pb ∨ b = s ∨ b = m) w1 wr))) (fun _ i _ => 1 - (intOf i).toNat)
  case atStart => exact .inl ⟨rfl, rfl, rfl⟩
  case round =>
    rcases hrel with ⟨rfl, rfl, rfl⟩ | ⟨rfl, gf, cap, rfl, hcap, hgf, hgfl, HF, HST, HKR⟩
    · obtain ⟨cb, hcb, hbb, hsb, a0, a1, a2, a3, a4, a5, a6, a7, a8, a9, a10⟩ := HS1'.out.cells
      simp only at a0 a1 a2 a3 a4 a5 a6 a7 a8 a9 a10
      clear hbb
      go_wp2_with fail
      have hcall := lay_ok _ s p pb pw g m { B with txn := tx } (HS1'.out.alloc (.cells #[.int .i64 kind, .int .u32 tx, .string key, .slice bA blob.length bc, .int .i64 0] 183)) hd hfu hn hh hlt hsec hsz hlen kind tx 0 hk htxb (by omega) key hks blob hbl (by show B.at_ + _ ≤ B.F.size; omega) hff ok _ (HV1.out.kp ((Kp.refl (fun _ => False) wr).alloc _) (fun _ _ _ x => x)) HR.out
      unfold foundV recV at hcall
      refine hcall.mono ?_
      rintro e w2 ⟨rfl, hst2, hk2⟩
      clear hcall
      have HST := Lib.hid hst2
      have HK2 : Hid (Kp (fun b => b = pb ∨ b = s ∨ b = m) wr w2) := Lib.hid (((Kp.refl (fun _ => False) wr).alloc _ |>.mono (fun _ x => x.elim)).trans hk2 (fun b x _ => by rcases x with x | x; exact .inl x; exact .inr (.inl x)))
      have hzz := HK2.out.size
      clear hst2 hk2 a0 a1 a2 a3 a4 a5 a6 a7 a8 a9 a10
      have hnews : ∀ j u, [Value.int .i64 B.at_, .int .i64 kind, .int .u32 tx, .string key, .slice bA blob.length bc, .int .i64 0][j]? = some u → ((w2.alloc (.cells #[.int .i64 B.at_, .int .i64 kind, .int .u32 tx, .string key, .slice bA blob.length bc, .int .i64 0] 185)).alloc (.cells #[.int .i64 B.at_, .int .i64 kind, .int .u32 tx, .string key, .slice bA blob.length bc, .int .i64 0] 185)).cell? ((⟨w2.heap.size + 1, 0, none⟩ : Addr).add j) = some u := by
        intro j u hj
        rw [show (⟨w2.heap.size + 1, 0, none⟩ : Addr).add j = ⟨w2.heap.size + 1, j, none⟩ by unfold Addr.add; split <;> simp_all]
        have := (Blk.at_top (t := 185) (cs := #[.int .i64 B.at_, .int .i64 kind, .int .u32 tx, .string key, .slice bA blob.length bc, .int .i64 0]) (w := w2.alloc (.cells #[.int .i64 B.at_, .int .i64 kind, .int .u32 tx, .string key, .slice bA blob.length bc, .int .i64 0] 185)) (g := w2.heap.size + 1) (by simp)).cell j
        rw [this, ← hj]
        simp
      go_wp2_with (at_builtin; refine wpList_append_first _ rfl (.tmp 39) (.tmp 41) _ rfl 185 i0 _ 6 72 Tryz.underlying179 hi hz0 hz1 hz2 rfl (by omega) rfl ⟨w2.heap.size + 1, 0, none⟩ 1 [Value.int .i64 B.at_, .int .i64 kind, .int .u32 tx, .string key, .slice bA blob.length bc, .int .i64 0] rfl rfl hnews (by simp [Value.oneCell']) (by omega) ?_)
      intro gf cap w3 hgf hcap hgfl HF0 hk3
      have HF := Lib.hid HF0
      have HST3 : Hid (StoreAt w3 s p pb pw g m (({ B with txn := tx } : BS).laid hn kind tx 0 key blob)) := Lib.hid (StoreAt.kp (StoreAt.alloc (StoreAt.alloc HST.out _) _) hk3 (fun x => x) (fun x => x) (fun x => x) (fun x => x) (fun x => x) (fun x => x))
      have HK3 : Hid (Kp (fun b => b = pb ∨ b = s ∨ b = m) wr w3) := Lib.hid (((HK2.out.alloc _).alloc _).trans hk3 (fun _ x _ => x.elim))
      clear HF0 hk3 hnews HST HK2
      go_wp2
      go_roundw
      case rel => exact .inr ⟨rfl, gf, cap, rfl, hcap, by omega, hgfl, HF, HST3, HK3⟩
      case measure => simp [intOf]
    · obtain ⟨cb, hcb, hbb, hsb, a0, a1, a2, a3, a4, a5, a6, a7, a8, a9, a10⟩ := HST.out.cells
      simp only [BS.laid] at a0 a1 a2 a3 a4 a5 a6 a7 a8 a9 a10
      clear hbb
      go_wp2_with fail
      have hmul : hn * B.F.size + B.F.size ≤ B.F.b.length := by
        rw [hlen]
        calc hn * B.F.size + B.F.size = (hn + 1) * B.F.size := by rw [Nat.add_mul, Nat.one_mul]
          _ ≤ _ := Nat.mul_le_mul_right _ hlt
      have hkl : (key.data.toList).length = key.size := rfl
      have hLl : hn * B.F.size + B.at_ + (recL kind tx 0 key.data.toList blob).length + 1 ≤ B.F.b.length := by rw [recL_length, hkl]; omega
      have hffc : Ff (B.F.laid (hn * B.F.size + B.at_) (recL kind tx 0 key.data.toList blob)).b (hn * B.F.size + (B.at_ + (16 + key.size + blob.length))) (hn * B.F.size + B.F.size) := by
        have hm := hff.mono (a' := hn * B.F.size + (B.at_ + (16 + key.size + blob.length))) (b' := hn * B.F.size + B.F.size) (by omega) (Nat.le_refl _)
        refine hm.laid _ _ hLl (.inr ?_)
        rw [recL_length, hkl]
        omega
      have hcall := lay_ok wr s p pb pw g m (({ B with txn := tx } : BS).laid hn kind tx 0 key blob) HST.out hd hfu hn hh hlt hsec hsz ((laid_length B.F _ _ hLl).trans hlen) 3 tx 1 (by omega) htxb (by omega) ⟨#[]⟩ (by decide) [] (by simp)
        (by show B.at_ + (16 + key.size + blob.length) + (16 + 0 + 0) ≤ B.F.size; omega)
        hffc (fun _ => True) (.slice none 0 0) (Sl.nil _ _)
        (fun W => right_commit tx 1 ⟨#[]⟩ (.slice none 0 0) (by omega) (by omega) W)
      obtain ⟨B2, hB2⟩ : ∃ B2, (({ B with txn := tx } : BS).laid hn kind tx 0 key blob).laid hn 3 tx 1 ⟨#[]⟩ [] = B2 := ⟨_, rfl⟩
      have HB2i : Hid (B2.idx = B.idx) := Lib.hid (by rw [← hB2]; rfl)
      have HB2h : Hid (B2.head = hn) := Lib.hid (by rw [← hB2]; exact hh)
      have HB2 := Lib.hid hB2
      have hcall2 : Calls Tryz.prog 172 #[.pointer (some ⟨s, 0, none⟩), .agg #[.int .i64 3, .int .u32 tx, .string ⟨#[]⟩, .slice none 0 0, .int .i64 1]] wr fun e w' => (∃ fv, e = .returned (.tuple #[fv, .int .i64 0])) ∧ StoreAt w' s p pb pw g m B2 ∧ Kp (fun b => b = pb ∨ b = s) wr w' :=
        hcall.mono fun e w' h => ⟨⟨_, h.1⟩, by rw [← hB2]; exact h.2.1, h.2.2⟩
      clear hcall hB2
      refine hcall2.mono ?_
      rintro e w2 ⟨⟨fv, rfl⟩, hst2, hk2⟩
      clear hcall2 hff
      have HV2 := Lib.hid ((HV1.out.kp HKR.out (fun b hb _ => by have := hok b hb; omega)).kp hk2 (fun b hb _ => by have := hok b hb; omega))
      have HK2 : Hid (Kp (fun b => b = pb ∨ b = s ∨ b = m) w w2) := Lib.hid ((HK1.out.trans HKR.out (fun _ x _ => x)).trans hk2 (fun b x _ => by rcases x with x | x; exact .inl x; exact .inr (.inl x)))
      have HF2 : Hid (∀ j u, [Value.int .i64 B.at_, .int .i64 kind, .int .u32 tx, .string key, .slice bA blob.length bc, .int .i64 0][j]? = some u → w2.cell? ⟨gf, j, none⟩ = some u) := by
        obtain ⟨l1, l2, l3, l4, l5, l6⟩ := HS1'.out.lts
        exact Lib.hid fun j u hj => (hk2.cell (p := ⟨gf, j, none⟩) hgfl (by show ¬ (gf = pb ∨ gf = s); omega)).trans (HF.out j u hj)
      have hgf2 : gf < w2.heap.size := Nat.lt_of_lt_of_le hgfl hk2.size
      have HST2 := Lib.hid hst2
      clear hst2 hk2 HF HST HKR a0 a1 a2 a3 a4 a5 a6 a7 a8 a9 a10
      go_wp2_with fail
      go_loopw [61] (fun i wq => (i = .int .i64 0 ∧ wq = w2) ∨ (i = .int .i64 1 ∧ Hid (StoreAt wq s p pb pw g m { B2 with idx := idx' }) ∧ Hid (Kp (fun b => b = m) w2 wq))) (fun i _ => 1 - (intOf i).toNat)
      case atStart => exact .inl ⟨rfl, rfl⟩
      case round =>
        rcases hrel with ⟨rfl, rfl⟩ | ⟨rfl, HST3, HK3⟩
        · have y0 := HF2.out 0 _ rfl
          have y1 := HF2.out 1 _ rfl
          have y2 := HF2.out 2 _ rfl
          have y3 := HF2.out 3 _ rfl
          have y4 := HF2.out 4 _ rfl
          have y5 := HF2.out 5 _ rfl
          go_wp2_with fail
          refine region_turn_all (by kernel_rfl) (fun i => [Value.pointer (some ⟨s, 0, none⟩), .pointer (some ⟨s, 0, none⟩), .pointer (some ⟨s, 0, none⟩), .pointer (some ⟨s, 6, none⟩), .int .i64 hn, .agg #[.int .i64 B.at_, .int .i64 kind, .int .u32 tx, .string key, .slice bA blob.length bc, .int .i64 0], .tuple #[]].getD i undef) 6 (fun W => StoreAt W s p pb pw g m B2 ∧ Blk W wr.heap.size 185 #[.int .i64 B.at_, .int .i64 kind, .int .u32 tx, .string key, .slice bA blob.length bc, .int .i64 0] ∧ Sl ok W (.slice bA blob.length bc) (bytesV blob) ∧ Kp (fun _ => False) wr W) (fun W => StoreAt W s p pb pw g m { B2 with idx := idx' } ∧ Kp (fun b => b = m) wr W) (by kernel_rfl) (by kernel_rfl) (by kernel_rfl) ?h0 ?hops ?hend
          case h0 => exact ⟨(HST2.out.alloc _).drew, (Blk.at_top rfl).drew, (HV2.out.kp ((Kp.refl (fun _ => False) wr).alloc _) (fun _ _ _ x => x)).drewN 1, ((Kp.refl _ wr).alloc _).drew⟩
          case hops =>
            refine ⟨?_, ?_, ?_, ?_, ?_, ?_, ?_, trivial⟩
            all_goals intro L b W hL hS K hK
            · have q1 := hL.old_ 0 (by kernel_rfl)
              simp at q1
              go_simp
              exact hK _ hS
            · have q1 := hL.old_ 0 (by kernel_rfl)
              simp at q1
              go_simp
              exact hK _ hS
            · have q1 := hL.dep 1 66 (by kernel_rfl)
              simp at q1
              go_simp
              exact hK _ hS
            · have q1 := hL.dep 2 67 (by kernel_rfl)
              simp at q1
              go_simp
              exact hK _ hS
            · have q1 := hL.dep 3 68 (by kernel_rfl)
              simp at q1
              obtain ⟨_, _, _, _, _, _, _, _, _, _, c6', _⟩ := hS.1.cells
              rw [HB2h.out] at c6'
              go_simp
              exact hK _ hS
            · have q1 := hL.old_ 11 (by kernel_rfl)
              simp at q1
              obtain ⟨x0, x1, x2, x3, x4, x5⟩ := cells6 hS.2.1
              go_simp
              exact hK _ hS
            · have q1 := hL.dep 0 65 (by kernel_rfl)
              have q2 := hL.dep 4 69 (by kernel_rfl)
              have q3 := hL.dep 5 70 (by kernel_rfl)
              simp at q1 q2 q3
              have hcl := HAP.out W B2 hS.1 HB2i.out hS.2.2.1
              unfold foundV at hcl
              go_simp
              refine hcl.mono ?_
              rintro e w' ⟨rfl, e1, e2⟩
              exact hK _ ⟨e1, (hS.2.2.2.mono (fun _ x => x.elim)).trans e2 (fun _ x _ => x)⟩
          case hend =>
            intro W hS
            have HE1 := Lib.hid hS.1
            have HE2 := Lib.hid hS.2
            simp only [putList_cons, putList_nil]
            go_simp
            go_wp2
            go_roundw
            case rel => exact .inr ⟨rfl, HE1, HE2⟩
            case measure => simp [intOf]
        · go_wp2
          go_ret
          refine ⟨rfl, ?_, HK2.out.trans HK3.out (fun _ x _ => .inr (.inr x))⟩
          have := HST3.out
          rw [← HB2.out] at this
          exact this
end Go.Proofs.YtnaphhfmccbamaaGreatDoor

namespace Go.Proofs.YtnaphhfmccbamaaGreatDoor
open Go.RowKit

set_option maxRecDepth 100000 in
theorem size_one (w : World) (kind txn : Nat) (key : ByteArray) (hks : key.size ≤ 64) (n c : Nat) (hn : n ≤ 4096) (A : Option Addr) (lv : Value) (ok : Nat → Prop) (hl : OneRec ok w lv kind txn key (.slice A n c)) :
    Calls Tryz.prog 150 #[lv] w fun e w' => e = .returned (.int .i64 ((16 + key.size + n + 16 : Nat) : Int)) ∧ Below w.heap.size w w' := by
  obtain ⟨gr, lc, rfl, hlc, hgr, hgl, x0, x1, x2, x3, x4⟩ := hl.out
  have t1 : IntKind.i64.wrap ((16 + key.size + n : Nat) : Int) = ((16 + key.size + n : Nat) : Int) := by rw [IntKind.wrap_i64]; omega
  obtain ⟨z, hz, hzb⟩ : ∃ z : Nat, 16 + key.size + n = z ∧ z ≤ 5000 := ⟨_, rfl, by omega⟩
  have HC1 : Hid (∀ W, Calls Tryz.prog 168 #[.agg #[.int .i64 kind, .int .u32 txn, .string key, .slice A n c, .int .i64 0]] W fun e w' => e = .returned (.int .i64 z) ∧ Below W.heap.size W w') := Lib.hid fun W => by
    have := Size_any kind txn 0 n c A key (by omega) (by omega) W
    rw [hz] at this
    exact this
  have HC2 : Hid (∀ W, Calls Tryz.prog 168 #[.agg #[.int .i64 0, .int .u32 0, .string ⟨#[]⟩, .slice none 0 0, .int .i64 0]] W fun e w' => e = .returned (.int .i64 16) ∧ Below W.heap.size W w') := Lib.hid fun W => by
    exact Size_any 0 0 0 0 0 none ⟨#[]⟩ (by decide) (by omega) W
  rw [hz]
  clear t1 hz hl
  have t2 : IntKind.i64.wrap ((z : Int) + 16) = ((z + 16 : Nat) : Int) := by rw [IntKind.wrap_i64]; omega
  go_enter Tryz.func150, Tryz.ntmps150
  go_wp2_with fail
  go_loopw [3, 9] (fun n i wr => (i = .int .i64 0 ∧ n = .int .i64 0 ∧ wr = w) ∨ (i = .int .i64 1 ∧ n = .int .i64 z ∧ Hid (Kp (fun _ => False) w wr))) (fun _ i _ => 1 - (intOf i).toNat)
  case atStart => exact .inl ⟨rfl, rfl, rfl⟩
  case round =>
    rcases hrel with ⟨rfl, rfl, rfl⟩ | ⟨rfl, rfl, HK⟩
    · go_wp2_with fail
      refine (HC1.out _).mono ?_
      rintro e w1 ⟨rfl, hb1⟩
      have HK1 : Hid (Kp (fun _ => False) wr w1) := Lib.hid (((Kp.refl (fun _ => False) wr).alloc _).below_trans hb1)
      clear hb1
      go_wp2
      go_roundw
      case rel => exact .inr ⟨rfl, rfl, HK1⟩
      case measure => simp [intOf]
    · go_wp2_with fail
      refine (HC2.out _).mono ?_
      rintro e w1 ⟨rfl, hb1⟩
      have HK1 : Hid (Kp (fun _ => False) w w1) := Lib.hid (HK.out.below_trans hb1)
      clear hb1
      go_wp2
      go_ret
      exact ⟨rfl, HK1.out.below⟩
end Go.Proofs.YtnaphhfmccbamaaGreatDoor

namespace Go.Proofs.YtnaphhfmccbamaaGreatDoor
open Go.RowKit
section
variable {P : Program} {ops : Array Oper} {Q : Exit → Act → World → Prop} {a : Act}
/-- What operation i owes: from S1 to S2. -/
def Owes2 (P : Program) (ops : Array Oper) (Q : Exit → Act → World → Prop) (a : Act) (V : Nat → Value) (S1 S2 : World → Prop) (i : Nat) (o : Oper) : Prop :=
  ∀ (L : Nat → Prop) (b : Act) (W : World), Leans ops V a i o L b → S1 W → ∀ K : Act → World → Prop, (∀ W', S2 W' → K (b.put o.dst (V i)) W') →
    if Region.wanted o (yielded ops b.tmps) = true then o.wp P b W K Q else K (b.put o.dst undef) W
def AllT (F1 FT F2 : Nat → Oper → Prop) : Nat → Nat → List Oper → Prop
  | _, _, [] => True
  | 0, n, o :: r => FT n o ∧ AllAt F2 (n + 1) r
  | T + 1, n, o :: r => F1 n o ∧ AllT F1 FT F2 T (n + 1) r
theorem AllT.get {F1 FT F2 : Nat → Oper → Prop} : ∀ {T n : Nat} {l : List Oper}, AllT F1 FT F2 T n l → ∀ i o, l[i]? = some o → (i < T → F1 (n + i) o) ∧ (i = T → FT (n + i) o) ∧ (T < i → F2 (n + i) o)
  | _, _, [], _, i, o, h => by simp at h
  | 0, n, u :: r, hA, i, o, h => by
    cases i with
    | zero => simp at h; subst h; exact ⟨fun h => absurd h (by omega), fun _ => hA.1, fun h => absurd h (by omega)⟩
    | succ i =>
      have := hA.2.get i o (by simpa using h)
      rw [show n + 1 + i = n + (i + 1) by omega] at this
      exact ⟨fun h => absurd h (by omega), fun h => absurd h (by omega), fun _ => this⟩
  | T + 1, n, u :: r, hA, i, o, h => by
    cases i with
    | zero => simp at h; subst h; exact ⟨fun _ => hA.1, fun h => absurd h (by omega), fun h => absurd h (by omega)⟩
    | succ i =>
      have := hA.2.get i o (by simpa using h)
      rw [show n + 1 + i = n + (i + 1) by omega] at this
      exact ⟨fun h => this.1 (by omega), fun h => this.2.1 (by omega), fun h => this.2.2 (by omega)⟩
def midly (ops : Array Oper) (T : Nat) : Bool := (List.range ops.size).all fun i => i == T || (decide (i < T) && behind ops ops.size T i) || (decide (T < i) && behind ops ops.size i T)
theorem region_mid_all {id : Nat} {w : World} (hm : P.follows .mixedOrders = true) (V : Nat → Value) (T : Nat) (S1 S2 : World → Prop) (ho : orderly ops a.tmps.size = true) (hT : decide (T < ops.size) = true) (hl : midly ops T = true) (h0 : S1 w.drew)
    (hops : AllT (Owes2 P ops Q a V S1 S1) (Owes2 P ops Q a V S1 S2) (Owes2 P ops Q a V S2 S2) T 0 ops.toList) (hend : ∀ W, S2 W → Q .normal (putList V 0 a ops.toList) W) : (Code.region id ops true).wp P Q a w := by
  refine region_fixed hm V (fun L W => (∀ j o, ops[j]? = some o → L j → ∀ e ∈ o.after, Region.binds .any e = true → L e.on) → (L T → S2 W) ∧ (¬ L T → S1 W)) ho (fun _ => ⟨fun h => h.elim, fun _ => h0⟩) (fun i o hi L b W hL hS K hK => ?_) (fun W hS => ?_)
  · have hS := hS hL.down
    have hil : i < ops.size := (Array.getElem?_eq_some_iff.1 hi).1
    have hmid := hl
    simp only [midly, List.all_eq_true, List.mem_range, Bool.or_eq_true, Bool.and_eq_true, beq_iff_eq, decide_eq_true_eq] at hmid
    have hget := hops.get i o (by simpa using hi)
    rw [Nat.zero_add] at hget
    have hnew : ∀ W', (i < T → S1 W') → (T ≤ i → S2 W') → K (b.put o.dst (V i)) W' := fun W' h1 h2 => hK W' (fun _ => ⟨fun hLT => ?_, fun hnLT => ?_⟩)
    · rcases hmid i hil with (rfl | ⟨hlt, hb⟩) | ⟨hlt, hb⟩
      · have hn : ¬ L i := hL.fresh
        exact hget.2.1 rfl L b W hL (hS.2 hn) K (fun W' hW' => hnew W' (fun h => absurd h (by omega)) (fun _ => hW'))
      · have hn : ¬ L T := fun h => hL.fresh (behind_listed hL.down _ _ _ hb h)
        exact hget.1 hlt L b W hL (hS.2 hn) K (fun W' hW' => hnew W' (fun _ => hW') (fun h => absurd h (by omega)))
      · -- T is listed: i comes behind it
        have hLT : L T := by
          obtain ⟨n, hn⟩ : ∃ n, ops.size = n := ⟨_, rfl⟩
          rw [hn] at hb
          cases n with
          | zero => simp [behind] at hb
          | succ n =>
            unfold behind at hb
            rw [hi] at hb
            simp only [List.any_eq_true, Bool.and_eq_true, Bool.or_eq_true, beq_iff_eq] at hb
            obtain ⟨e, he, hbb, hh⟩ := hb
            have hLe := hL.ready e (by simpa using he) hbb
            rcases hh with rfl | hh
            · exact hLe
            · exact behind_listed hL.down _ _ _ hh hLe
        exact hget.2.2 hlt L b W hL (hS.1 hLT) K (fun W' hW' => hnew W' (fun h => absurd h (by omega)) (fun _ => hW'))
    · rcases Nat.lt_or_ge i T with h | h
      · rcases hLT with hLT | e
        · rcases hmid i hil with (e | ⟨_, hb⟩) | ⟨hlt, _⟩
          · omega
          · exact absurd (behind_listed hL.down _ _ _ hb hLT) hL.fresh
          · omega
        · omega
      · exact h2 h
    · rcases Nat.lt_or_ge i T with h | h
      · exact h1 h
      · exfalso
        apply hnLT
        rcases hmid i hil with (e | ⟨hlt, _⟩) | ⟨hlt, hb⟩
        · exact .inr e.symm
        · omega
        · left
          obtain ⟨n, hn⟩ : ∃ n, ops.size = n := ⟨_, rfl⟩
          rw [hn] at hb
          cases n with
          | zero => simp [behind] at hb
          | succ n =>
            unfold behind at hb
            rw [hi] at hb
            simp only [List.any_eq_true, Bool.and_eq_true, Bool.or_eq_true, beq_iff_eq] at hb
            obtain ⟨e, he, hbb, hh⟩ := hb
            have hLe := hL.ready e (by simpa using he) hbb
            rcases hh with rfl | hh
            · exact hLe
            · exact behind_listed hL.down _ _ _ hh hLe
  · rw [putAll_end]
    obtain ⟨L, hall, hS⟩ := hS
    exact hend W ((hS (fun j o hj _ e he hb => hall _ (Nat.lt_trans (orderly_edge ho hj he hb) (Array.getElem?_eq_some_iff.1 hj).1))).1 (hall T (of_decide_eq_true hT)))
end
end Go.Proofs.YtnaphhfmccbamaaGreatDoor

namespace Go.Proofs.YtnaphhfmccbamaaGreatDoor
open Go.RowKit

theorem store_sec {w : World} {s p pb pw g m : Nat} {B : BS} (h : StoreAt w s p pb pw g m B) (i : Nat) (hi : i < B.secs.length) (a b c : Nat) :
    StoreAt (((w.setCell ⟨g, i * 3, none⟩ (.int .i64 a)).setCell ⟨g, i * 3 + 1, none⟩ (.int .u32 b)).setCell ⟨g, i * 3 + 2, none⟩ (.int .i64 c)) s p pb pw g m { B with secs := B.secs.set i ⟨a, b, c⟩ } ∧
    Kp (fun k => k = g) w (((w.setCell ⟨g, i * 3, none⟩ (.int .i64 a)).setCell ⟨g, i * 3 + 1, none⟩ (.int .u32 b)).setCell ⟨g, i * 3 + 2, none⟩ (.int .i64 c)) := by
  have k : Kp (fun k => k = g) w (((w.setCell ⟨g, i * 3, none⟩ (.int .i64 a)).setCell ⟨g, i * 3 + 1, none⟩ (.int .u32 b)).setCell ⟨g, i * 3 + 2, none⟩ (.int .i64 c)) :=
    Kp.set_ (p := ⟨g, i * 3 + 2, none⟩) (Kp.set_ (p := ⟨g, i * 3 + 1, none⟩) (Kp.set_ (p := ⟨g, i * 3, none⟩) (Kp.refl (fun k => k = g) w) (.inl rfl) _) (.inl rfl) _) (.inl rfl) _
  obtain ⟨_, _, _, a1, _, _, _, a2, _, _, a3, _, a4, _, a5⟩ := h.apart
  obtain ⟨c', hc', hb⟩ := h.main
  obtain ⟨cs, hgb, hcs⟩ := h.secs
  have hlen : i * 3 + 2 < cs.size := (Array.getElem?_eq_some_iff.1 (hcs i hi).2.2).1
  refine ⟨⟨h.fl.kp k a2 a3 a4, ⟨c', by simpa using hc', ?_⟩, ⟨_, ((hgb.set_ (i * 3) (.int .i64 a)).set_ (i * 3 + 1) (.int .u32 b)).set_ (i * 3 + 2) (.int .i64 c), fun j hj => ?_⟩, h.map.kp k (Ne.symm a5)⟩, k⟩
  · have := hb.kp k a1
    unfold stCells at this ⊢
    simpa using this
  · have hj' : j < B.secs.length := by simpa using hj
    obtain ⟨q1, q2, q3⟩ := hcs j hj'
    simp only [Array.getElem?_setIfInBounds, List.getElem_set]
    by_cases e : i = j
    · subst e
      simp [show i * 3 < cs.size by omega, show i * 3 + 1 < cs.size by omega, hlen]
    · simp [e, show i * 3 ≠ j * 3 by omega, show i * 3 + 1 ≠ j * 3 by omega, show i * 3 + 2 ≠ j * 3 by omega, show i * 3 ≠ j * 3 + 1 by omega, show i * 3 + 2 ≠ j * 3 + 1 by omega, show i * 3 ≠ j * 3 + 2 by omega, q1, q2, q3]

set_option maxRecDepth 100000 in
set_option maxHeartbeats 4000000 in
theorem open_ok (w : World) (s p pb pw g m : Nat) (B : BS) (h : StoreAt w s p pb pw g m B) (hd : B.F.down = false) (hfu : B.F.fuse < 0) (hworn : B.F.worn.length = B.F.sectors) (hsec' : B.F.worn.length ≤ 64) (h64 : 64 ≤ B.F.size) (hsz : B.F.size ≤ 65536)
    (hlen : B.F.b.length = B.F.sectors * B.F.size) (hsl : B.secs.length ≤ 64) (i : Nat) (hnext : leastK B.F.limit B.secs B.secs.length = (i, true)) (hi : i < B.F.worn.length) (his : i < B.secs.length) (hseq : B.seq < 4294967295)
    (hff : Ff B.F.b (i * B.F.size) (i * B.F.size + B.F.size)) (sq : Nat) (hsqe : B.seq + 1 = sq) :
    Calls Tryz.prog 171 #[.pointer (some ⟨s, 0, none⟩)] w fun e w' => e = .returned (.int .i64 0) ∧
      StoreAt w' s p pb pw g m { B with F := B.F.opened i sq, secs := B.secs.set i ⟨2, sq, B.F.worn[i]⟩, head := i, at_ := 12, txn := 0, seq := sq } ∧ Kp (fun b => b = pb ∨ b = s ∨ b = g) w w' := by
  have HN := Lib.hid hnext
  have HS := Lib.hid h
  have HFF := Lib.hid hff
  have hsq : sq < 4294967296 := by omega
  have t1 : IntKind.u32.wrap ((B.seq : Int) + 1) = (sq : Int) := by rw [IntKind.wrap_u32]; omega
  have t2 : ((B.seq : Int) == 4294967295) = false := beq_eq_false_iff_ne.2 (by omega)
  obtain ⟨c, hc0, hb0, hs0, c0, c1, c2, c3, c4, c5, c6, c7, c8, c9, c10⟩ := h.cells
  have HC4 := Lib.hid c4
  clear h hnext hb0 c0 c1 c2 c3 c4 c5 c6 c7 c8 c9 c10
  go_enter Tryz.func171, Tryz.ntmps171
  go_wp2_with fail
  refine region_fixed_all (by kernel_rfl) (fun j => [Value.pointer (some ⟨s, 0, none⟩), .pointer (some ⟨s, 0, none⟩), .pointer (some ⟨s, 4, none⟩), .slice (some ⟨g, 0, none⟩) B.secs.length c, .pointer (some ⟨s, 0, none⟩), .pointer (some ⟨s, 0, none⟩), .pointer (some ⟨s, 1, none⟩), .pointer (some ⟨s, 3, none⟩), .int .i64 B.F.limit, .tuple #[.int .i64 i, .bool true], .tuple #[.int .i64 i, .bool true], .int .i64 i, .bool true, .int .i64 i, .bool true].getD j undef) (fun W => StoreAt W s p pb pw g m B ∧ Kp (fun _ => False) w W ∧ w.heap.size ≤ W.heap.size ∧ W.cell? ⟨s, 4, none⟩ = some (.slice (some ⟨g, 0, none⟩) B.secs.length c)) (by kernel_rfl) ?h0 ?hops ?hend
  case h0 => exact ⟨HS.out.drew, (Kp.refl _ w).drew, Nat.le_refl _, HC4.out⟩
  case hops =>
    refine ⟨?_, ?_, ?_, ?_, ?_, ?_, ?_, ?_, ?_, ?_, ?_, ?_, ?_, ?_, ?_, trivial⟩
    all_goals intro L b W hL hS K hK
    · have q1 := hL.old_ 0 (by kernel_rfl)
      simp at q1
      go_simp
      exact hK _ hS
    · have q1 := hL.dep 0 7 (by kernel_rfl)
      simp at q1
      go_simp
      exact hK _ hS
    · have q1 := hL.dep 1 8 (by kernel_rfl)
      simp at q1
      go_simp
      exact hK _ hS
    · have q1 := hL.dep 2 9 (by kernel_rfl)
      simp at q1
      obtain ⟨_, c4⟩ := hS.2.2
      go_simp
      exact hK _ hS
    · have q1 := hL.old_ 0 (by kernel_rfl)
      simp at q1
      go_simp
      exact hK _ hS
    · have q1 := hL.dep 4 11 (by kernel_rfl)
      simp at q1
      go_simp
      exact hK _ hS
    · have q1 := hL.dep 5 12 (by kernel_rfl)
      simp at q1
      go_simp
      exact hK _ hS
    · have q1 := hL.dep 6 13 (by kernel_rfl)
      simp at q1
      go_simp
      exact hK _ hS
    · have q1 := hL.dep 7 14 (by kernel_rfl)
      simp at q1
      obtain ⟨cc, hcc, hbb, _, c0, c1, c2, c3, c4, c5, c6, c7, c8, c9, c10⟩ := hS.1.cells
      go_simp
      exact hK _ hS
    · have q1 := hL.dep 3 10 (by kernel_rfl)
      have q2 := hL.dep 8 15 (by kernel_rfl)
      simp at q1 q2
      go_simp
      have hc := Next_any B.secs hsl B.F.limit W _ _ (hS.1.sec hc0)
      rw [HN.out] at hc
      refine hc.mono ?_
      rintro e w' ⟨rfl, hb'⟩
      exact hK _ ⟨hS.1.below hb', hS.2.1.below_trans hb', (hS.2.1.below_trans hb').size, (((Kp.of_below hb' (fun _ => False)).cell (p := ⟨s, 4, none⟩) hS.1.lts.1 (fun x => x)).trans hS.2.2.2)⟩
    · have q1 := hL.dep 9 16 (by kernel_rfl)
      simp at q1
      go_simp
      exact hK _ hS
    · have q1 := hL.dep 10 6 (by kernel_rfl)
      simp at q1
      go_simp
      exact hK _ hS
    · have q1 := hL.dep 10 6 (by kernel_rfl)
      simp at q1
      go_simp
      exact hK _ hS
    · have q1 := hL.dep 11 17 (by kernel_rfl)
      simp at q1
      go_simp
      exact hK _ hS
    · have q1 := hL.dep 12 18 (by kernel_rfl)
      simp at q1
      go_simp
      exact hK _ hS
  case hend =>
    intro W hS
    simp only [putList_cons, putList_nil]
    go_simp
    have HSW := Lib.hid hS.1
    have HKW := Lib.hid hS.2.1
    obtain ⟨cc, hcc, hbb, hsb, c0, c1, c2, c3, c4, c5, c6, c7, c8, c9, c10⟩ := hS.1.cells
    clear hS hbb
    go_wp2_with fail
    refine region_mid_all (by kernel_rfl) (fun j => [Value.pointer (some ⟨s, 0, none⟩), .pointer (some ⟨s, 0, none⟩), .pointer (some ⟨s, 0, none⟩), .pointer (some ⟨p, 0, none⟩), .int .i64 i, .pointer (some ⟨s, 0, none⟩), .pointer (some ⟨s, 0, none⟩), .pointer (some ⟨s, 9, none⟩), .int .u32 B.seq, .int .u32 sq, .int .i64 0, .int .i64 0].getD j undef) 10 (fun W' => StoreAt W' s p pb pw g m B ∧ Kp (fun _ => False) W W') (fun W' => StoreAt W' s p pb pw g m { B with F := B.F.opened i sq } ∧ Kp (fun b => b = pb) W W') (by kernel_rfl) (by kernel_rfl) (by kernel_rfl) ?h0 ?hops ?hend
    case h0 => exact ⟨HSW.out.drew, (Kp.refl _ W).drew⟩
    case hops =>
      refine ⟨?_, ?_, ?_, ?_, ?_, ?_, ?_, ?_, ?_, ?_, ?_, ?_, trivial⟩
      all_goals intro L b W hL hS K hK
      · have q1 := hL.old_ 0 (by kernel_rfl)
        simp at q1
        go_simp
        exact hK _ hS
      · have q1 := hL.dep 0 28 (by kernel_rfl)
        simp at q1
        go_simp
        exact hK _ hS
      · have q1 := hL.dep 1 29 (by kernel_rfl)
        simp at q1
        go_simp
        exact hK _ hS
      · have q1 := hL.dep 2 30 (by kernel_rfl)
        simp at q1
        obtain ⟨cc, hcc, hbb, _, c0, c1, c2, c3, c4, c5, c6, c7, c8, c9, c10⟩ := hS.1.cells
        go_simp
        exact hK _ hS
      · have q1 := hL.old_ 3 (by kernel_rfl)
        simp at q1
        go_simp
        exact hK _ hS
      · have q1 := hL.old_ 0 (by kernel_rfl)
        simp at q1
        go_simp
        exact hK _ hS
      · have q1 := hL.dep 5 33 (by kernel_rfl)
        simp at q1
        go_simp
        exact hK _ hS
      · have q1 := hL.dep 6 34 (by kernel_rfl)
        simp at q1
        go_simp
        exact hK _ hS
      · have q1 := hL.dep 7 35 (by kernel_rfl)
        simp at q1
        obtain ⟨cc, hcc, hbb, _, c0, c1, c2, c3, c4, c5, c6, c7, c8, c9, c10⟩ := hS.1.cells
        go_simp
        exact hK _ hS
      · have q1 := hL.dep 8 36 (by kernel_rfl)
        simp at q1
        go_simp
        exact hK _ hS
      · have q1 := hL.dep 3 31 (by kernel_rfl)
        have q2 := hL.dep 4 32 (by kernel_rfl)
        have q3 := hL.dep 9 37 (by kernel_rfl)
        simp at q1 q2 q3
        go_simp
        have hfl := hS.1.fl
        have hc := Open_blank W p pb pw B.F hfl hd hfu i hi hworn hsec' h64 hsz hlen hff sq hsq
        refine hc.mono ?_
        rintro e w' ⟨rfl, hf', hk'⟩
        exact hK _ ⟨store_flash hS.1 hf' hk' rfl rfl rfl, (hS.2.mono (fun _ x => x.elim)).trans hk' (fun _ x _ => x)⟩
      · have q1 := hL.dep 10 38 (by kernel_rfl)
        simp at q1
        go_simp
        exact hK _ hS
    case hend =>
      intro W2 hS
      simp only [putList_cons, putList_nil]
      go_simp
      have HK2 : Hid (Kp (fun b => b = pb ∨ b = s ∨ b = g) w W2) := Lib.hid ((HKW.out.mono (fun _ x => x.elim)).trans hS.2 (fun _ x _ => .inl x))
      have HS2 := Lib.hid hS.1
      clear c0 c1 c2 c3 c4 c5 c6 c7 c8 c9 c10
      obtain ⟨cc2, hcc2, hbb2, hsb2, c0, c1, c2, c3, c4, c5, c6, c7, c8, c9, c10⟩ := hS.1.cells
      simp only at c0 c1 c2 c3 c4 c5 c6 c7 c8 c9 c10
      have f9 := hbb2.frozen 9
      obtain ⟨W3, hW3, HS3, HK3⟩ : ∃ W3, W2.setCell ⟨s, 9, none⟩ (.int .u32 sq) = W3 ∧ Hid (StoreAt W3 s p pb pw g m { B with F := B.F.opened i sq, seq := sq }) ∧ Hid (Kp (fun b => b = pb ∨ b = s ∨ b = g) w W3) := by
        obtain ⟨e1, e2⟩ := store_set hS.1 9 (.int .u32 sq) { B with F := B.F.opened i sq, seq := sq } rfl rfl rfl (fun _ => rfl)
        exact ⟨_, rfl, Lib.hid e1, Lib.hid (HK2.out.trans e2 (fun _ x _ => .inr (.inl x)))⟩
      clear hS hbb2
      go_wp2_with fail
      have hk04 : W3.cell? ⟨s, 4, none⟩ = some (.slice (some ⟨g, 0, none⟩) B.secs.length cc2) := by rw [← hW3, World.cell?_setCell_other _ _ _ _ (by simp)]; exact c4
      have HK4 := Lib.hid hk04
      clear hW3 hk04 c0 c1 c2 c3 c4 c5 c6 c7 c8 c9 c10 f9
      refine region_turn_all (by kernel_rfl) (fun j => [Value.pointer (some ⟨s, 0, none⟩), .pointer (some ⟨s, 0, none⟩), .pointer (some ⟨s, 4, none⟩), .slice (some ⟨g, 0, none⟩) B.secs.length cc2, .int .i64 i, .pointer (some ⟨s, 0, none⟩), .pointer (some ⟨s, 0, none⟩), .pointer (some ⟨s, 9, none⟩), .int .u32 sq, .pointer (some ⟨s, 0, none⟩), .pointer (some ⟨s, 0, none⟩), .pointer (some ⟨s, 0, none⟩), .pointer (some ⟨p, 0, none⟩), .int .i64 i, .int .i64 (B.F.worn[i]), .agg #[.int .i64 2, .int .u32 sq, .int .i64 (B.F.worn[i])], .pointer (some ⟨g, i * 3, none⟩), undef].getD j undef) 17 (fun W' => StoreAt W' s p pb pw g m { B with F := B.F.opened i sq, seq := sq } ∧ Kp (fun _ => False) W3 W' ∧ W'.cell? ⟨s, 4, none⟩ = some (.slice (some ⟨g, 0, none⟩) B.secs.length cc2)) (fun W' => StoreAt W' s p pb pw g m { B with F := B.F.opened i sq, seq := sq, secs := B.secs.set i ⟨2, sq, B.F.worn[i]⟩ } ∧ Kp (fun b => b = g) W3 W') (by kernel_rfl) (by kernel_rfl) (by kernel_rfl) ?h0 ?hops ?hend
      case h0 => exact ⟨HS3.out.drew, (Kp.refl _ W3).drew, HK4.out⟩
      case hops =>
        refine ⟨?_, ?_, ?_, ?_, ?_, ?_, ?_, ?_, ?_, ?_, ?_, ?_, ?_, ?_, ?_, ?_, ?_, ?_, trivial⟩
        all_goals intro L b W hL hS K hK
        · have q1 := hL.old_ 0 (by kernel_rfl)
          simp at q1
          go_simp
          exact hK _ hS
        · have q1 := hL.dep 0 51 (by kernel_rfl)
          simp at q1
          go_simp
          exact hK _ hS
        · have q1 := hL.dep 1 52 (by kernel_rfl)
          simp at q1
          go_simp
          exact hK _ hS
        · have q1 := hL.dep 2 53 (by kernel_rfl)
          simp at q1
          have c4 := hS.2.2
          go_simp
          exact hK _ hS
        · have q1 := hL.old_ 3 (by kernel_rfl)
          simp at q1
          go_simp
          exact hK _ hS
        · have q1 := hL.old_ 0 (by kernel_rfl)
          simp at q1
          go_simp
          exact hK _ hS
        · have q1 := hL.dep 5 56 (by kernel_rfl)
          simp at q1
          go_simp
          exact hK _ hS
        · have q1 := hL.dep 6 57 (by kernel_rfl)
          simp at q1
          go_simp
          exact hK _ hS
        · have q1 := hL.dep 7 58 (by kernel_rfl)
          simp at q1
          obtain ⟨cc, hcc, hbb, _, c0, c1, c2, c3, c4, c5, c6, c7, c8, c9, c10⟩ := hS.1.cells
          simp only at c9
          go_simp
          exact hK _ hS
        · have q1 := hL.old_ 0 (by kernel_rfl)
          simp at q1
          go_simp
          exact hK _ hS
        · have q1 := hL.dep 9 60 (by kernel_rfl)
          simp at q1
          go_simp
          exact hK _ hS
        · have q1 := hL.dep 10 61 (by kernel_rfl)
          simp at q1
          go_simp
          exact hK _ hS
        · have q1 := hL.dep 11 62 (by kernel_rfl)
          simp at q1
          obtain ⟨cc, hcc, hbb, _, c0, c1, c2, c3, c4, c5, c6, c7, c8, c9, c10⟩ := hS.1.cells
          go_simp
          exact hK _ hS
        · have q1 := hL.old_ 3 (by kernel_rfl)
          simp at q1
          go_simp
          exact hK _ hS
        · have q1 := hL.dep 12 63 (by kernel_rfl)
          have q2 := hL.dep 13 64 (by kernel_rfl)
          simp at q1 q2
          have hc := Erases_any W p pb pw (B.F.opened i sq) hS.1.fl i hi hworn hsec'
          go_simp
          refine hc.mono ?_
          rintro e w' ⟨rfl, hw⟩
          obtain rfl : W = w' := hw
          exact hK _ hS
        · have q1 := hL.dep 8 59 (by kernel_rfl)
          have q2 := hL.dep 14 65 (by kernel_rfl)
          simp at q1 q2
          go_simp
          exact hK _ hS
        · have q1 := hL.dep 3 54 (by kernel_rfl)
          have q2 := hL.dep 4 55 (by kernel_rfl)
          simp at q1 q2
          go_simp
          exact hK _ hS
        · have q1 := hL.dep 15 66 (by kernel_rfl)
          have q2 := hL.dep 16 67 (by kernel_rfl)
          simp at q1 q2
          obtain ⟨cs, hgb, hgc⟩ := hS.1.secs
          have g1 := hgc i his
          have y0 := (hgb.cell (i * 3)).trans g1.1
          have y1 := (hgb.cell (i * 3 + 1)).trans g1.2.1
          have y2 := (hgb.cell (i * 3 + 2)).trans g1.2.2
          have f0 := hgb.frozen (i * 3)
          have f1 := hgb.frozen (i * 3 + 1)
          have f2 := hgb.frozen (i * 3 + 2)
          have hst := store_sec hS.1 i his 2 sq (B.F.worn[i])
          go_simp
          exact hK _ ⟨hst.1, (hS.2.1.mono (fun _ x => x.elim)).trans hst.2 (fun _ x _ => x)⟩
      case hend =>
        intro W4 hS
        simp only [putList_cons, putList_nil]
        go_simp
        obtain ⟨cc4, hcc4, hbb4, hsb4, c0, c1, c2, c3, c4, c5, c6, c7, c8, c9, c10⟩ := hS.1.cells
        simp only at c0 c1 c2 c3 c4 c5 c6 c7 c8 c9 c10
        have f6 := hbb4.frozen 6
        have f7 := hbb4.frozen 7
        have f8 := hbb4.frozen 8
        obtain ⟨W5, hW5, HS5, HK5⟩ : ∃ W5, ((W4.setCell ⟨s, 6, none⟩ (.int .i64 i)).setCell ⟨s, 7, none⟩ (.int .i64 12)).setCell ⟨s, 8, none⟩ (.int .u32 0) = W5 ∧ Hid (StoreAt W5 s p pb pw g m { B with F := B.F.opened i sq, seq := sq, secs := B.secs.set i ⟨2, sq, B.F.worn[i]⟩, head := i, at_ := 12, txn := 0 }) ∧ Hid (Kp (fun b => b = pb ∨ b = s ∨ b = g) w W5) := by
          obtain ⟨e1, e2⟩ := store_set hS.1 6 (.int .i64 i) { B with F := B.F.opened i sq, seq := sq, secs := B.secs.set i ⟨2, sq, B.F.worn[i]⟩, head := i } rfl rfl rfl (fun _ => rfl)
          obtain ⟨e3, e4⟩ := store_set e1 7 (.int .i64 12) { B with F := B.F.opened i sq, seq := sq, secs := B.secs.set i ⟨2, sq, B.F.worn[i]⟩, head := i, at_ := 12 } rfl rfl rfl (fun _ => rfl)
          obtain ⟨e5, e6⟩ := store_set e3 8 (.int .u32 0) { B with F := B.F.opened i sq, seq := sq, secs := B.secs.set i ⟨2, sq, B.F.worn[i]⟩, head := i, at_ := 12, txn := 0 } rfl rfl rfl (fun _ => rfl)
          exact ⟨_, rfl, Lib.hid e5, Lib.hid ((((HK3.out.trans hS.2 (fun _ x _ => .inr (.inr x))).trans e2 (fun _ x _ => .inr (.inl x))).trans e4 (fun _ x _ => .inr (.inl x))).trans e6 (fun _ x _ => .inr (.inl x)))⟩
        clear hS hbb4
        go_wp2
        go_ret
        exact ⟨rfl, HS5.out, HK5.out⟩
end Go.Proofs.YtnaphhfmccbamaaGreatDoor

namespace Go.Proofs.YtnaphhfmccbamaaGreatDoor
open Go.RowKit

set_option maxRecDepth 100000 in
set_option maxHeartbeats 4000000 in
theorem room_fits (w : World) (s p pb pw g m : Nat) (B : BS) (h : StoreAt w s p pb pw g m B) (hn : Nat) (hh : B.head = hn) (h1 : B.at_ ≤ 1000000) (h2 : B.F.size ≤ 1000000) (hsl : B.secs.length ≤ 64) (hs0 : 0 < B.secs.length) (n : Nat) (hnb : n ≤ 1000000) (hfit : B.at_ + n ≤ B.F.size) :
    Calls Tryz.prog 151 #[.pointer (some ⟨s, 0, none⟩), .int .i64 n] w fun e w' => e = .returned (.int .i64 0) ∧ Below w.heap.size w w' := by
  have HS := Lib.hid h
  obtain ⟨c, hc, hb, hs, c0, c1, c2, c3, c4, c5, c6, c7, c8, c9, c10⟩ := h.cells
  have t1 : IntKind.i64.wrap (4 * (B.secs.length : Int)) = 4 * (B.secs.length : Int) := by rw [IntKind.wrap_i64]; omega
  have t2 : decide ((0 : Int) < 4 * (B.secs.length : Int)) = true := decide_eq_true (by omega)
  clear h hb
  go_enter Tryz.func151, Tryz.ntmps151
  go_wp2_with fail
  go_loopw [13] (fun i wr => i = .int .i64 0 ∧ wr = w) (fun i _ => 1 - (intOf i).toNat)
  case atStart => exact ⟨rfl, rfl⟩
  case round =>
    obtain ⟨rfl, rfl⟩ := hrel
    go_wp2_with fail
    have hcall := fits_some _ s p pb pw g m B HS.out hn hh h1 h2 n hnb
    rw [decide_eq_true hfit] at hcall
    refine hcall.mono ?_
    rintro e w1 ⟨rfl, hb1⟩
    have HB := Lib.hid hb1
    clear hcall hb1
    go_wp2
    go_ret
    exact ⟨rfl, HB.out⟩

set_option maxRecDepth 100000 in
set_option maxHeartbeats 4000000 in
theorem room_opens (w : World) (s p pb pw g m : Nat) (B : BS) (h : StoreAt w s p pb pw g m B) (hd : B.F.down = false) (hfu : B.F.fuse < 0) (hworn : B.F.worn.length = B.F.sectors) (hsec' : B.F.worn.length ≤ 64) (h64 : 64 ≤ B.F.size) (hsz : B.F.size ≤ 65536)
    (hlen : B.F.b.length = B.F.sectors * B.F.size) (hsl : B.secs.length ≤ 64) (i : Nat) (hnext : leastK B.F.limit B.secs B.secs.length = (i, true)) (hi : i < B.F.worn.length) (his : i < B.secs.length) (hseq : B.seq < 4294967295)
    (hff : Ff B.F.b (i * B.F.size) (i * B.F.size + B.F.size)) (n : Nat) (hnb : n ≤ 1000000) (hfree : 2 ≤ (B.secs.filter (mayB B.F.limit)).length) (hfit : 12 + n ≤ B.F.size)
    (hno : ∀ W, StoreAt W s p pb pw g m B → Calls Tryz.prog 170 #[.pointer (some ⟨s, 0, none⟩), .int .i64 n] W fun e w' => e = .returned (.bool false) ∧ Below W.heap.size W w') :
    Calls Tryz.prog 151 #[.pointer (some ⟨s, 0, none⟩), .int .i64 n] w fun e w' => e = .returned (.int .i64 0) ∧
      StoreAt w' s p pb pw g m { B with F := B.F.opened i (B.seq + 1), secs := B.secs.set i ⟨2, B.seq + 1, B.F.worn[i]⟩, head := i, at_ := 12, txn := 0, seq := B.seq + 1 } ∧ Kp (fun b => b = pb ∨ b = s ∨ b = g) w w' := by
  have HS := Lib.hid h
  have HNO := Lib.hid hno
  have HOP : Hid (∀ W, StoreAt W s p pb pw g m B → _) := Lib.hid fun W hW => open_ok W s p pb pw g m B hW hd hfu hworn hsec' h64 hsz hlen hsl i hnext hi his hseq hff (B.seq + 1) rfl
  obtain ⟨nf, HF, hnf2, hnf3⟩ : ∃ nf : Nat, Hid ((B.secs.filter (mayB B.F.limit)).length = nf) ∧ 2 ≤ nf ∧ nf ≤ 64 := ⟨_, Lib.hid rfl, hfree, Nat.le_trans (List.length_filter_le _ _) hsl⟩
  obtain ⟨B2, hB2⟩ : ∃ B2 : BS, { B with F := B.F.opened i (B.seq + 1), secs := B.secs.set i ⟨2, B.seq + 1, B.F.worn[i]⟩, head := i, at_ := 12, txn := 0, seq := B.seq + 1 } = B2 := ⟨_, rfl⟩
  rw [hB2] at HOP ⊢
  have HB2h : Hid (B2.head = i) := Lib.hid (by rw [← hB2])
  have HB2a : Hid (B2.at_ = 12) := Lib.hid (by rw [← hB2])
  have HB2s : Hid (B2.F.size = B.F.size) := Lib.hid (by rw [← hB2]; rfl)
  obtain ⟨c, hc, hb, hs, c0, c1, c2, c3, c4, c5, c6, c7, c8, c9, c10⟩ := h.cells
  have t1 : IntKind.i64.wrap (4 * (B.secs.length : Int)) = 4 * (B.secs.length : Int) := by rw [IntKind.wrap_i64]; omega
  have t2 : decide ((0 : Int) < 4 * (B.secs.length : Int)) = true := decide_eq_true (by omega)
  have t4 : decide ((1 : Int) < 4 * (B.secs.length : Int)) = true := decide_eq_true (by omega)
  have t3 : decide ((2 : Int) ≤ (nf : Int)) = true := decide_eq_true (by omega)
  have HC4 := Lib.hid c4
  clear h hb hno hB2 hnext hff hfree
  go_enter Tryz.func151, Tryz.ntmps151
  go_wp2_with fail
  go_loopw [13] (fun i wr => (i = .int .i64 0 ∧ wr = w) ∨ (i = .int .i64 1 ∧ Hid (StoreAt wr s p pb pw g m B2) ∧ Hid (Kp (fun b => b = pb ∨ b = s ∨ b = g) w wr))) (fun i _ => 2 - (intOf i).toNat)
  case atStart => exact .inl ⟨rfl, rfl⟩
  case round =>
    rcases hrel with ⟨rfl, rfl⟩ | ⟨rfl, HST, HK⟩
    · go_wp2_with fail
      refine (HNO.out _ HS.out).mono ?_
      rintro e w1 ⟨rfl, hb1⟩
      have HS1 := Lib.hid (HS.out.below hb1)
      have HK1 := Lib.hid (Kp.of_below hb1 (fun _ => False))
      have HC1 := Lib.hid ((HK1.out.cell (p := ⟨s, 4, none⟩) hs (fun x => x)).trans HC4.out)
      clear hb1 c0 c1 c2 c3 c4 c5 c6 c7 c8 c9 c10
      go_wp2_with fail
      refine region_fixed_all (by kernel_rfl) (fun j => [Value.pointer (some ⟨s, 0, none⟩), .pointer (some ⟨s, 0, none⟩), .pointer (some ⟨s, 4, none⟩), .slice (some ⟨g, 0, none⟩) B.secs.length c, .pointer (some ⟨s, 0, none⟩), .pointer (some ⟨s, 0, none⟩), .pointer (some ⟨s, 1, none⟩), .pointer (some ⟨s, 3, none⟩), .int .i64 B.F.limit, .int .i64 nf, .bool true, .bool true].getD j undef) (fun W => StoreAt W s p pb pw g m B ∧ Kp (fun _ => False) wr W ∧ W.cell? ⟨s, 4, none⟩ = some (.slice (some ⟨g, 0, none⟩) B.secs.length c)) (by kernel_rfl) ?h0 ?hops ?hend
      case h0 => exact ⟨HS1.out.drew, HK1.out.drew, HC1.out⟩
      case hops =>
        refine ⟨?_ , ?_ , ?_ , ?_ , ?_ , ?_ , ?_ , ?_ , ?_ , ?_ , ?_ , ?_, trivial⟩
        all_goals intro L b W hL hS K hK
        · have q1 := hL.old_ 0 (by kernel_rfl)
          simp at q1
          go_simp
          exact hK _ hS
        · have q1 := hL.dep 0 22 (by kernel_rfl)
          simp at q1
          go_simp
          exact hK _ hS
        · have q1 := hL.dep 1 23 (by kernel_rfl)
          simp at q1
          go_simp
          exact hK _ hS
        · have q1 := hL.dep 2 24 (by kernel_rfl)
          simp at q1
          have c4 := hS.2.2
          go_simp
          exact hK _ hS
        · have q1 := hL.old_ 0 (by kernel_rfl)
          simp at q1
          go_simp
          exact hK _ hS
        · have q1 := hL.dep 4 26 (by kernel_rfl)
          simp at q1
          go_simp
          exact hK _ hS
        · have q1 := hL.dep 5 27 (by kernel_rfl)
          simp at q1
          go_simp
          exact hK _ hS
        · have q1 := hL.dep 6 28 (by kernel_rfl)
          simp at q1
          go_simp
          exact hK _ hS
        · have q1 := hL.dep 7 29 (by kernel_rfl)
          simp at q1
          obtain ⟨cc, hcc, hbb, _, c0, c1, c2, c3, c4, c5, c6, c7, c8, c9, c10⟩ := hS.1.cells
          go_simp
          exact hK _ hS
        · have q1 := hL.dep 3 25 (by kernel_rfl)
          have q2 := hL.dep 8 30 (by kernel_rfl)
          simp at q1 q2
          go_simp
          have hc := Free_any B.secs hsl B.F.limit W _ _ (hS.1.sec hc)
          rw [HF.out] at hc
          refine hc.mono ?_
          rintro e w' ⟨rfl, hb'⟩
          exact hK _ ⟨hS.1.below hb', hS.2.1.below_trans hb', (((Kp.of_below hb' (fun _ => False)).cell (p := ⟨s, 4, none⟩) hS.1.lts.1 (fun x => x)).trans hS.2.2)⟩
        · have q1 := hL.dep 9 31 (by kernel_rfl)
          simp at q1
          go_simp
          exact hK _ hS
        · have q1 := hL.dep 10 32 (by kernel_rfl)
          simp at q1
          go_simp
          exact hK _ hS
      case hend =>
        intro W hS
        simp only [putList_cons, putList_nil]
        go_simp
        have HSW := Lib.hid hS.1
        have HKW := Lib.hid hS.2.1
        clear hS
        go_wp2_with fail
        refine (HOP.out _ HSW.out).mono ?_
        rintro e w3 ⟨rfl, hst, hk⟩
        have HST := Lib.hid hst
        have HK3 : Hid (Kp (fun b => b = pb ∨ b = s ∨ b = g) wr w3) := Lib.hid ((HKW.out.mono (fun _ x => x.elim)).trans hk (fun _ x _ => x))
        clear hst hk
        go_wp2
        go_roundw
        case rel => exact .inr ⟨rfl, HST, HK3⟩
        case measure => simp [intOf]
    · go_wp2_with fail
      have hcall := fits_some _ s p pb pw g m B2 HST.out i HB2h.out (by rw [HB2a.out]; omega) (by rw [HB2s.out]; omega) n hnb
      rw [HB2a.out, HB2s.out, decide_eq_true hfit] at hcall
      refine hcall.mono ?_
      rintro e w1 ⟨rfl, hb1⟩
      have HST' := Lib.hid (HST.out.below hb1)
      have HK' : Hid (Kp (fun b => b = pb ∨ b = s ∨ b = g) w w1) := Lib.hid (HK.out.trans (Kp.of_below hb1 (fun _ => False)) (fun _ x _ => x.elim))
      clear hcall hb1
      go_wp2
      go_ret
      exact ⟨rfl, HST'.out, HK'.out⟩
end Go.Proofs.YtnaphhfmccbamaaGreatDoor
