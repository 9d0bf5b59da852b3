/-
  The store's Make of a new square.
-/
import Derived.Test.YtkelfgigigcnjaaStO
import Derived.Deep.RegionLaw
import Derived.Deep.DeepCutAuto
import Derived.Deep.AppendLies
import Derived.Laws.OwnMore
namespace Go.Proofs.Ytkelfgigigcnjaa
open Go.RowKit Go.Bv

theorem Try.infoNode : (Try.prog.info? 140).map (fun i => (i.zero, i.size, i.bytes)) = some (some (.agg #[.int .u32 0, .int .u32 0, .int .u32 0, .int .u32 0, .int .i64 0, .int .u64 0]), 6, 32) := by kernel_rfl
theorem cells4 (w : World) (t : TypeId) (a b c d : Nat) : ∀ j, j < 4 → (w.alloc (.cells #[.int .u64 a, .int .u64 b, .int .u64 c, .int .u64 d] t)).cell? ⟨w.heap.size, j, none⟩ = some (.int .u64 ([a, b, c, d].getD j 0)) := by
  intro j hj
  obtain rfl | rfl | rfl | rfl : j = 0 ∨ j = 1 ∨ j = 2 ∨ j = 3 := by omega
  all_goals simp
theorem news2 (w : World) (A : Obj) (l : List Value) (t : TypeId) : ∀ j u, l[j]? = some u → ((w.alloc A).alloc (.cells l.toArray t)).drew.drew.cell? ((⟨w.heap.size + 1, 0, none⟩ : Addr).add j) = some u := by
  intro j u h
  have hb : ((w.alloc A).alloc (.cells l.toArray t)).heap[w.heap.size + 1]? = some (.cells l.toArray t (0, 0)) := by
    have := heap_alloc_new (w.alloc A) (.cells l.toArray t)
    simpa using this
  exact World.news_of_block (w := ((w.alloc A).alloc (.cells l.toArray t)).drew.drew) hb j u (by simpa using h)
/-- What the append of a new square to the squares leaves. -/
def Pushed (w2 : World) (b : Nat) (s : SV) (k : K4) (wc : World) : Prop :=
  ∃ gg cap w4, w4.ownsRow 0 140 6 (.slice (some ⟨gg, 0, none⟩) (s.σ.length + 1) cap) (s.σ.length + 1) (ndCells s.σ ++ ncells (mkNd s.σ k)) ∧ Only [s.nb] w2 w4 ∧ (gg = s.nb ∨ w2.heap.size ≤ gg) ∧ gg < w4.heap.size ∧
    wc = w4.setCell ⟨b, 0, none⟩ (.slice (some ⟨gg, 0, none⟩) (s.σ.length + 1) cap)
theorem pushed_row {w4 : World} {s : SV} {k : K4} {t : TypeId} {g cap : Nat} (hwf : Wf s.σ) {l : Int} (hl : lev s.σ k.a = l) (hr : 0 ≤ l)
    (h : w4.ownsRow 0 t 6 (.slice (some ⟨g, 0, none⟩) (s.σ.length + 1) cap) (s.σ.length + 1) (ndCells s.σ ++ [.int .u32 k.a, .int .u32 k.b, .int .u32 k.c, .int .u32 k.d, .int .i64 (l + 1), .int .u64 (plusL [cnt s.σ k.a, cnt s.σ k.b, cnt s.σ k.c, cnt s.σ k.d] 0)])) :
    w4.ownsRow 0 t 6 (.slice (some ⟨g, 0, none⟩) (s.σ.length + 1) cap) (s.σ.length + 1) (ndCells s.σ ++ ncells (mkNd s.σ k)) := by
  rw [plusL_sum4 _ _ (cnt_le hwf _)] at h
  have e : (((lev s.σ k.a).toNat + 1 : Nat) : Int) = l + 1 := by omega
  simpa only [ncells, mkNd, e] using h
theorem pushed_only {w2 w4 : World} {A B : Obj} {g n cap : Nat} (h : ((w2.alloc A).alloc B).drew.drew.grownBy w4 (Value.slice (some ⟨g, 0, none⟩) n cap).ownBlock) : Only [g] w2 w4 :=
  Only.grown ((((Only.refl [g] w2).alloc A).alloc B).drew.drew) h (fun k hk => by simp [Value.ownBlock] at hk; simp [hk])
theorem pushed_at {w2 : World} {g n cap gg : Nat} (h : (Value.slice (some ⟨g, 0, none⟩) n cap).ownBlock = some gg ∨ gg = w2.heap.size + 2) : gg = g ∨ w2.heap.size ≤ gg := by
  rcases h with h | h
  · simp [Value.ownBlock] at h; exact .inl h.symm
  · exact .inr (by omega)
theorem pushed_facts {w2 wc : World} {b i : Nat} {s : SV} {k : K4} (hs : StoreAt w2 b s) (hp : Pushed w2 b s k wc) (hi : i < s.tab.length) :
    ∃ gg cap, wc.cell? ⟨b, 0, none⟩ = some (.slice (some ⟨gg, 0, none⟩) (s.σ.length + 1) cap) ∧ wc.cell? ⟨b, 1, none⟩ = some (.slice (some ⟨s.tb, 0, none⟩) s.tab.length s.tab.length) ∧
      wc.cell? ⟨s.tb, i, none⟩ = some (.int .u32 (s.tab.getD i 0)) ∧ wc.frozen? ⟨s.tb, i, none⟩ = false ∧
      (okK s.σ k = true → SlotAt s.σ s.tab k i → s.tab.getD i 0 = 0 → s.σ.length < s.most → ∀ w', wc.setCell ⟨s.tb, i, none⟩ (.int .u32 s.σ.length) = w' →
        ∃ s', Made w2 w' b s (s.σ ++ [mkNd s.σ k]) s') := by
  obtain ⟨gg, cap, w4, hown, ho, hat, hlt, rfl⟩ := hp
  obtain ⟨n1, n2, n3⟩ := hs.ne
  have ab : w4.heap[b]? = w2.heap[b]? := ho.block b hs.lt (by simp; omega)
  have at' : w4.heap[s.tb]? = w2.heap[s.tb]? := ho.block s.tb hs.tlt (by simp; omega)
  have gb : gg ≠ b := by have := hs.lt; rcases hat with h | h <;> omega
  have gt : gg ≠ s.tb := by have := hs.tlt; rcases hat with h | h <;> omega
  have hbb : w4.heap[b]? = some (.cells #[.slice (some ⟨s.nb, 0, none⟩) s.σ.length s.cap, .slice (some ⟨s.tb, 0, none⟩) s.tab.length s.tab.length, .int .i64 s.most] 143 (0, 0)) := by rw [ab]; exact hs.blk
  have hb' : (w4.setCell ⟨b, 0, none⟩ (.slice (some ⟨gg, 0, none⟩) (s.σ.length + 1) cap)).heap[b]? = some (.cells #[.slice (some ⟨gg, 0, none⟩) (s.σ.length + 1) cap, .slice (some ⟨s.tb, 0, none⟩) s.tab.length s.tab.length, .int .i64 s.most] 143 (0, 0)) := by
    rw [heap_setCell_same _ _ _ _ _ _ hbb]; rfl
  have ht' : (w4.setCell ⟨b, 0, none⟩ (.slice (some ⟨gg, 0, none⟩) (s.σ.length + 1) cap)).heap[s.tb]? = w2.heap[s.tb]? := by
    rw [heap_setCell_other _ _ _ _ (by simp; omega), at']
  have hg' : (w4.setCell ⟨b, 0, none⟩ (.slice (some ⟨gg, 0, none⟩) (s.σ.length + 1) cap)).heap[gg]? = w4.heap[gg]? := by
    rw [heap_setCell_other _ _ _ _ (by simp; omega)]
  have tbl' := ownsRow_of_block hs.tbl ht'
  have nds' := ownsRow_of_block hown hg'
  have hon' : Only [b, s.nb] w2 (w4.setCell ⟨b, 0, none⟩ (.slice (some ⟨gg, 0, none⟩) (s.σ.length + 1) cap)) :=
    Only.setCell (ho.mono (by simp)) (by simp) _
  generalize w4.setCell ⟨b, 0, none⟩ (.slice (some ⟨gg, 0, none⟩) (s.σ.length + 1) cap) = wc at *
  refine ⟨gg, cap, by rw [cell_of_blk hb']; rfl, by rw [cell_of_blk hb']; rfl, ?_, ?_, ?_⟩
  · rw [tbl'.cellAt _ (by omega)]; simp [hi]
  · rw [World.frozen?_of_block (w := w2) ht']
    obtain ⟨cur, hcur⟩ := hs.theap
    exact free_of_blk hcur i
  · rintro hok hsl h0 hroom _ rfl
    refine ⟨⟨gg, s.tb, cap, s.σ ++ [mkNd s.σ k], s.tab.set i s.σ.length, s.most⟩, ?_, rfl, rfl, rfl, ?_, ?_⟩
    · refine ⟨?_, ?_, ?_, hs.wf.push hok (slot_empty hs.tok hsl h0), hs.tok.push hsl h0 hroom hs.wf.two, hs.top, by simpa using hs.tmx⟩
      · rw [heap_setCell_other _ _ _ _ (by simp; omega), hb']; simp
      · have := ownsRow_of_block nds' (w' := wc.setCell ⟨s.tb, i, none⟩ (.int .u32 s.σ.length)) (by rw [heap_setCell_other _ _ _ _ (by simp; omega)])
        simpa [ndCells] using this
      · have := (tbl'.stored i (.int .u32 s.σ.length)).1
        simpa [List.map_set] using this
    · rcases hat with h | h
      · exact .inl h
      · right; have := ho.size; omega
    · exact Only.setCell (hon'.mono (by simp [foot])) (by simp [foot]) _
theorem Made.behind {w w2 w' : World} {b : Nat} {s s' : SV} {σ : List Nd} (h : Made w2 w' b s σ s') (hb : Below w.heap.size w w2) : Made w w' b s σ s' :=
  ⟨h.at', h.σ, h.most, h.tb, by have := hb.size; rcases h.nb with e | e; exact .inl e; exact .inr (by omega), (Only.of_below hb).trans h.only⟩
theorem Made.drew {w w' : World} {b : Nat} {s s' : SV} {σ : List Nd} (h : Made w w' b s σ s') : Made w w'.drew b s σ s' :=
  ⟨h.at'.only (Only.refl _ _).drew, h.σ, h.most, h.tb, h.nb, h.only.drew⟩
theorem node_of {σ : List Nd} {x : Nat} (h : 0 ≤ lev σ x) : ∃ n, σ[x]? = some n ∧ n.alive = cnt σ x := by
  have hx := lt_of_lev h
  exact ⟨σ[x], List.getElem?_eq_getElem hx, by simp [cnt, hx]⟩

set_option maxRecDepth 100000 in
set_option maxHeartbeats 4000000 in
theorem make_new (w : World) (b : Nat) (s : SV) (k : K4) (h : StoreAt w b s) (ha : k.a < 4294967296) (hb : k.b < 4294967296) (hc : k.c < 4294967296) (hd : k.d < 4294967296) (hk : okK s.σ k = true)
    (hno : findK s.σ k = none) (hroom : s.σ.length < s.most) :
    Calls Try.prog 83 #[.pointer (some ⟨b, 0, none⟩), kval k] w fun e w' => e = .returned (.tuple #[.int .u32 s.σ.length, .nilIface]) ∧ ∃ s', Made w w' b s (s.σ ++ [mkNd s.σ k]) s' := by
  have H := Lib.hid h
  have hbl := h.lt
  have hbelow : Below w.heap.size w (w.alloc (.cells #[.int .u32 k.a, .int .u32 k.b, .int .u32 k.c, .int .u32 k.d] 138)) := (Below.refl _ _).alloc (Nat.le_refl _) _
  have HS : Hid (StoreAt (w.alloc (.cells #[.int .u32 k.a, .int .u32 k.b, .int .u32 k.c, .int .u32 k.d] 138)) b s) := h.below hbelow
  have i0 := idx0
  have i1 := idx1
  have i2 := idx2
  have i3 := idx3
  have HK : Hid (okK s.σ k = true) := hk
  obtain ⟨hr1, hr2, e1, e2, e3⟩ := okK_spec hk
  have n0 : (lev s.σ k.a != lev s.σ k.a) = false := by simp
  have n1 : (lev s.σ k.b != lev s.σ k.a) = false := by simpa using e1
  have n2 : (lev s.σ k.c != lev s.σ k.a) = false := by simpa using e2
  have n3 : (lev s.σ k.d != lev s.σ k.a) = false := by simpa using e3
  have hlen := h.len
  have htop := h.top
  clear h hk e1 e2 e3
  unfold kval
  go_enter Try.func83, Try.ntmps83
  go_wp2_with (go_at_call 31; refine (level_st _ _ _ _ HS.out ha).mono ?_; rintro e w1 ⟨rfl, rfl⟩)
  go_loop [8, 18] (fun _ i => ∃ (j : Nat), j ≤ 4 ∧ i = .int .i64 j) (fun _ i => (4 - (intOf i).toNat))
  case atStart => exact ⟨0, by omega, rfl⟩
  case round =>
    obtain ⟨j, hj, rfl⟩ := hrel
    obtain rfl | rfl | rfl | rfl | rfl : j = 0 ∨ j = 1 ∨ j = 2 ∨ j = 3 ∨ j = 4 := by omega
    · go_wp2_with (first | (go_at_call 31; refine (level_st _ _ _ _ HS.out ha).mono ?_; rintro e w1 ⟨rfl, rfl⟩) | go_in)
      go_round
      case rel => exact ⟨1, by omega, rfl⟩
      case measure => simp [intOf]
    · go_wp2_with (first | (go_at_call 31; refine (level_st _ _ _ _ HS.out hb).mono ?_; rintro e w1 ⟨rfl, rfl⟩) | go_in)
      go_round
      case rel => exact ⟨2, by omega, rfl⟩
      case measure => simp [intOf]
    · go_wp2_with (first | (go_at_call 31; refine (level_st _ _ _ _ HS.out hc).mono ?_; rintro e w1 ⟨rfl, rfl⟩) | go_in)
      go_round
      case rel => exact ⟨3, by omega, rfl⟩
      case measure => simp [intOf]
    · go_wp2_with (first | (go_at_call 31; refine (level_st _ _ _ _ HS.out hd).mono ?_; rintro e w1 ⟨rfl, rfl⟩) | go_in)
      go_round
      case rel => exact ⟨4, by omega, rfl⟩
      case measure => simp [intOf]
    · clear i0 i1 i2 i3
      go_wp2_with fail
      refine (slot_st _ _ _ k HS.out ha hb hc hd).mono ?_
      rintro e w2 ⟨⟨i, rfl, hi, hslot⟩, hb2⟩
      have hS2 : StoreAt w2 b s := HS.out.below hb2
      have c0 := hS2.c0
      have c1 := hS2.c1
      have ce := hS2.entry hi
      have HS2 := Lib.hid hS2
      have HSl := Lib.hid hslot
      clear hS2 hslot
      obtain ⟨x, hx⟩ : ∃ x, x = s.tab.getD i 0 := ⟨_, rfl⟩
      have HX := Lib.hid hx
      rw [← hx] at ce
      clear hx
      have htm := H.out.tmx
      have hfin : ∀ W', Below (w.heap.size + 1) (w.alloc (.cells #[.int .u32 k.a, .int .u32 k.b, .int .u32 k.c, .int .u32 k.d] 138)) W' → Below w.heap.size w W' := fun W' h => hbelow.trans (h.mono (by omega))
      have HFin := Lib.hid hfin
      have HB2 : Hid (Below (w.heap.size + 1) (w.alloc (.cells #[.int .u32 k.a, .int .u32 k.b, .int .u32 k.c, .int .u32 k.d] 138)) w2) := Lib.hid (by simpa using hb2)
      clear hfin hb2 hbelow
      have hx0 : x = 0 := by
        refine Classical.byContradiction fun hne => ?_
        obtain ⟨hx2, hxl, hxk⟩ := slot_full H.out.tok HSl.out (by rw [← HX.out]; exact hne)
        rw [findK_some hx2 hxl hxk H.out.wf] at hno
        cases hno
      have hst := HS2.out
      have c2 := hst.c2
      have f0 := hst.free 0
      have hbz' := hst.lt
      have cz1 : ∀ o, (w2.alloc o).cell? ⟨b, 0, none⟩ = some (.slice (some ⟨s.nb, 0, none⟩) s.σ.length s.cap) := fun o => by rw [World.cell?_alloc_old _ _ _ (by simp; omega)]; exact c0
      have cz2 : ∀ o o', ((w2.alloc o).alloc o').cell? ⟨b, 0, none⟩ = some (.slice (some ⟨s.nb, 0, none⟩) s.σ.length s.cap) := fun o o' => by rw [World.cell?_alloc_old _ _ _ (by simp; omega)]; exact cz1 o
      have fz1 : ∀ o, (w2.alloc o).frozen? ⟨b, 0, none⟩ = false := fun o => by rw [World.frozen?_alloc_old _ _ _ (by simp; omega)]; exact f0
      have fz2 : ∀ o o', ((w2.alloc o).alloc o').frozen? ⟨b, 0, none⟩ = false := fun o o' => by rw [World.frozen?_alloc_old _ _ _ (by simp; omega)]; exact fz1 o
      have la := lt_of_lev hr1
      have hwf := H.out.wf
      have k0 : w2.cell? ⟨w.heap.size, 0, none⟩ = some (.int .u32 k.a) := by rw [HB2.out.cell (by simp)]; simp
      have k1 : w2.cell? ⟨w.heap.size, 1, none⟩ = some (.int .u32 k.b) := by rw [HB2.out.cell (by simp)]; simp
      have k2 : w2.cell? ⟨w.heap.size, 2, none⟩ = some (.int .u32 k.c) := by rw [HB2.out.cell (by simp)]; simp
      have k3 : w2.cell? ⟨w.heap.size, 3, none⟩ = some (.int .u32 k.d) := by rw [HB2.out.cell (by simp)]; simp
      have hwz : w.heap.size < w2.heap.size := by have := HB2.out.size; simp at this; omega
      have hbz : b < w2.heap.size := hst.lt
      have hnz : s.nb < w2.heap.size := hst.nlt
      have htz : s.tb < w2.heap.size := hst.tlt
      obtain ⟨na, ga, ea⟩ := node_of hr1
      have lb : lev s.σ k.b = lev s.σ k.a := by simpa using n1
      obtain ⟨nB, gb, eb⟩ := node_of (show 0 ≤ lev s.σ k.b by omega)
      have lc : lev s.σ k.c = lev s.σ k.a := by simpa using n2
      obtain ⟨nc, gc, ec⟩ := node_of (show 0 ≤ lev s.σ k.c by omega)
      have ld : lev s.σ k.d = lev s.σ k.a := by simpa using n3
      obtain ⟨nd, gd, ed⟩ := node_of (show 0 ≤ lev s.σ k.d by omega)
      have va := hst.node ga (j := 5) (by omega)
      have vb := hst.node gb (j := 5) (by omega)
      have vc := hst.node gc (j := 5) (by omega)
      have vd := hst.node gd (j := 5) (by omega)
      simp only [ncells, List.getElem?_cons_succ, List.getElem?_cons_zero] at va vb vc vd
      rw [ea] at va
      rw [eb] at vb
      rw [ec] at vc
      rw [ed] at vd
      have lta := lt_of_lev hr1
      have ltb : k.b < s.σ.length := (List.getElem?_eq_some_iff.1 gb).1
      have ltc : k.c < s.σ.length := (List.getElem?_eq_some_iff.1 gc).1
      have ltd : k.d < s.σ.length := (List.getElem?_eq_some_iff.1 gd).1
      have i0 := idx0
      have i1 := idx1
      have i2 := idx2
      have i3 := idx3
      have HCl : Hid (∀ x ∈ [cnt s.σ k.a, cnt s.σ k.b, cnt s.σ k.c, cnt s.σ k.d], x ≤ 18446744073709551615) := Lib.hid (by
        intro x hx
        simp only [List.mem_cons, List.not_mem_nil, or_false] at hx
        rcases hx with rfl | rfl | rfl | rfl <;> exact cnt_le hwf _)
      clear hst lb lc ld ga gb gc gd ea eb ec ed na nB nc nd
      subst hx0
      go_wp2_with (first | (go_at_call 27; refine (room_st _ _ _ HS2.out).mono ?_; rintro e w3 ⟨rfl, rfl⟩) | go_in)
      refine wp_loop_rounds 5 ?_
      rw [rounds_succ]
      go_wp2
      rw [rounds_succ]
      go_wp2
      rw [rounds_succ]
      go_wp2
      rw [rounds_succ]
      go_wp2
      rw [rounds_succ]
      go_wp2
      have hnds := HS2.out.nds
      have HNds := Lib.hid hnds
      clear hnds
      obtain ⟨in0, hi0, hz0, hz1, hz2⟩ := info_parts Try.infoNode
      have ag : (Value.slice (some ⟨s.nb, 0, none⟩) s.σ.length s.cap).ownBlock ≠ some b := by have := H.out.ne.1; simp [Value.ownBlock]; omega
      have ak : (Value.slice (some ⟨s.nb, 0, none⟩) s.σ.length s.cap).ownBlock ≠ some w.heap.size := by have := H.out.nlt; simp [Value.ownBlock]; omega
      have hwl : IntKind.i64.wrap (lev s.σ k.a + 1) = lev s.σ k.a + 1 := IntWalk.i64_in _ (by omega)
      go_cut [88] (fun _ wc => Pushed w2 b s k wc)
      case first =>
        go_region_law (first
            | (go_simp; go_at_call 117; refine (plus_st _ _ [cnt s.σ k.a, cnt s.σ k.b, cnt s.σ k.c, cnt s.σ k.d] rfl HCl.out ?_).mono ?_; exact cells4 _ _ _ _ _ _; rintro e w3 ⟨rfl, rfl⟩)
            | (refine step_append_lies _ (by rfl) _ _ _ (by rfl) 0 140 in0 _ 6 32 Try.underlying141 hi0 hz0 hz1 hz2 rfl (by omega) (.slice (some ⟨s.nb, 0, none⟩) s.σ.length s.cap) s.σ.length (ndCells s.σ) (by rfl) ((HNds.out.alloc _).alloc _) ⟨w2.heap.size + 1, 0, none⟩ 1 1 [.int .u32 k.a, .int .u32 k.b, .int .u32 k.c, .int .u32 k.d, .int .i64 (lev s.σ k.a + 1), .int .u64 (plusL [cnt s.σ k.a, cnt s.σ k.b, cnt s.σ k.c, cnt s.σ k.d] 0)] (by rfl) (by rfl) ?_ (by simp [Value.oneCell']) (by omega) (by unfold maxLen; omega) (by omega) (Nat.zero_le _) (w2.heap.size + 2) (by simp) ?_
               exact news2 _ _ _ _
               intro gg cap w4 hown1 hgrow hat hlt
               have q0 := (hgrow.cell_far ⟨b, 0, none⟩ (by simp; omega) (Ne.symm ag)).trans (cz2 _ _)
               have q1 := (hgrow.frozen_far ⟨b, 0, none⟩ (by simp; omega) (Ne.symm ag)).trans (fz2 _ _)))
        all_goals (go_wp2_with fail)
        all_goals go_meet
        all_goals
          exact ⟨gg, cap, w4, pushed_row hwf rfl hr1 hown1, pushed_only hgrow, pushed_at hat, hlt, rfl⟩
      case rest =>
        obtain ⟨gg, cap, d0, d1, d2, d3, d4⟩ := pushed_facts (i := i) HS2.out hcut hi
        have hnx : s.σ.length ≤ 1048576 := hlen.2
        have HD4 := Lib.hid d4
        have d5 : (wc.setCell ⟨s.tb, i, none⟩ (.int .u32 s.σ.length)).cell? ⟨b, 1, none⟩ = some (.slice (some ⟨s.tb, 0, none⟩) s.tab.length s.tab.length) := by
          rw [World.cell?_of_block (w := wc) (heap_setCell_other _ _ _ _ (by have := H.out.ne.2.1; simpa using this))]; exact d1
        have d6 : (wc.setCell ⟨s.tb, i, none⟩ (.int .u32 s.σ.length)).cell? ⟨s.tb, i, none⟩ = some (.int .u32 s.σ.length) := World.cell?_setCell_same _ _ _ d2
        clear d4 hcut
        have hu : IntKind.u32.wrap (IntKind.i64.wrap ((s.σ.length : Int) + 1 - 1)) = (s.σ.length : Int) := by
          rw [IntWalk.i64_in _ (by omega)]; rw [show (s.σ.length : Int) + 1 - 1 = s.σ.length by omega]; exact IntWalk.u32_in _ (by omega)
        go_wp2_with (first | (refine still_last mix (by decide +kernel) ?_; simp only [List.length_cons, List.length_nil, Nat.reduceAdd, Nat.reduceSub, List.take_succ_cons, List.take_zero, List.drop_succ_cons, List.drop_zero]; (repeat still_step); refine wpStill_nil ?_) | go_in)
        go_ret2
        obtain ⟨s', hm⟩ := HD4.out HK.out HSl.out (by rw [← HX.out]) hroom _ rfl
        exact ⟨by rfl, s', (hm.behind (HFin.out _ HB2.out)).drew⟩
end Go.Proofs.Ytkelfgigigcnjaa
