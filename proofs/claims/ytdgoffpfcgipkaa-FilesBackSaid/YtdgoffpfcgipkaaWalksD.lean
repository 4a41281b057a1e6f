/- The walk of layer 32: Join, of what Split tells. -/
import Derived.Test.YtdgoffpfcgipkaaWalksC
import Derived.Test.YtdgoffpfcgipkaaOrdC
import Derived.Deep.MidRow
namespace Go.Proofs.Ytdgoffpfcgipkaa
open Go.RowKit Go.Maps

theorem ints_at {w : World} {R : Nat} {cs : Nat → List Int} (h : Cols w R cs) {j : Nat} (hj : j < 4) {i : Nat} (hi : i < (cs j).length) : ∃ g o c x, w.cell? ⟨R, j, none⟩ = some (.slice (some ⟨g, o, none⟩) (cs j).length c) ∧ g < w.heap.size ∧ (cs j)[i]? = some x ∧ w.cell? ⟨g, o + i, none⟩ = some (.int .i64 x) := by
  obtain ⟨A, c, h1, h2⟩ := h.2 j hj
  obtain ⟨g, o, x, rfl, hg, hx, hc⟩ := h2.at_ hi
  exact ⟨g, o, c, x, h1, hg, hx, hc⟩
theorem Fi.cols_at {ns : List (List UInt8)} {l : List Fi} {i : Nat} {f : Fi} (h : l[i]? = some f) (j : Nat) : (Fi.cols ns l j)[i]? = some ((Fi.col ns j f : Nat) : Int) := by
  unfold Fi.cols; rw [List.getElem?_map, h]; rfl

theorem set_at {X : World} {B k : Nat} {cs : Array Value} {t : TypeId} (h : X.heap[B]? = some (.cells cs t (0, 0))) (v : Value) : (X.setCell ⟨B, k, none⟩ v).heap[B]? = some (.cells (cs.setIfInBounds k v) t (0, 0)) := by
  simp only [World.setCell, Array.getElem?_modify, if_true, h, Option.map_some]
  rfl
theorem set_else {X : World} (p : Addr) (v : Value) {j : Nat} (h : p.block ≠ j) : (X.setCell p v).heap[j]? = X.heap[j]? := by
  simp only [World.setCell, Array.getElem?_modify, if_neg h]
theorem file_put {X : World} {B : Nat} {z0 z1 z2 z3 z4 : Value} (h : X.heap[B]? = some (.cells #[z0, z1, z2, z3, z4] 37 (0, 0))) (a b c d e : Value) :
    (X.setCells B 0 [a, b, c, d, e]).heap[B]? = some (.cells #[a, b, c, d, e] 37 (0, 0)) :=
  set_at (set_at (set_at (set_at (set_at h a) b) c) d) e
theorem file_below {w X : World} {N B : Nat} (h : Below N w X) (hB : N ≤ B) (a b c d e : Value) : Below N w (X.setCells B 0 [a, b, c, d, e]) :=
  ((((h.setCell (p := ⟨B, 0, none⟩) hB a).setCell (p := ⟨B, 1, none⟩) hB b).setCell (p := ⟨B, 2, none⟩) hB c).setCell (p := ⟨B, 3, none⟩) hB d).setCell (p := ⟨B, 4, none⟩) hB e
theorem file_there {X : World} {B : Nat} {z0 z1 z2 z3 z4 : Value} (h : X.heap[B]? = some (.cells #[z0, z1, z2, z3, z4] 37 (0, 0))) : X.there B 0 5 := fun j hj => by
  obtain ⟨h1, h2⟩ := blk_facts h
  refine ⟨?_, by rw [Nat.zero_add]; exact h2 j⟩
  rw [Nat.zero_add, h1 j]
  match j, hj with
  | 0, _ => rfl
  | 1, _ => rfl
  | 2, _ => rfl
  | 3, _ => rfl
  | 4, _ => rfl

/-- What is known of bytes that a call returns. -/
def TellB (l : List UInt8) (ω : OrdC.Out) : Prop := ∃ Bd dd, ω.v = .slice Bd l.length dd ∧ ((ω.got = true ∧ ∀ y : World, y.heap[ω.B]? = some ω.obj → Dat y Bd dd l) ∨ l = [])
theorem brow_out {w : World} {base : Nat} {v : Value} {l : List UInt8} (h : BRow w base 5 v l) : ∃ ω : OrdC.Out, v = ω.v ∧ (ω.got = true → base ≤ ω.B ∧ w.heap[ω.B]? = some ω.obj) ∧ TellB l ω := by
  rcases h.2 with ⟨rfl, hn⟩ | ⟨g, cap, cur, rfl, h1, h2, h3, h4⟩
  · exact ⟨⟨0, _, .map #[] 0, false⟩, rfl, (fun e => by cases e), none, 0, by rw [hn], .inr (List.eq_nil_of_length_eq_zero hn)⟩
  · refine ⟨⟨g, _, .cells cur 5 (0, 0), true⟩, rfl, fun _ => ⟨h1, h2⟩, some ⟨g, 0, none⟩, cap, rfl, .inl ⟨rfl, fun y hy => ?_⟩⟩
    have hb : BRow y base 5 (.slice (some ⟨g, 0, none⟩) l.length cap) l := ⟨h.1, .inr ⟨g, cap, cur, rfl, h1, hy, h3, h4⟩⟩
    obtain ⟨A, c, e, hA⟩ := hb.at_
    injection e with e1 _ e2
    subst e1 e2
    exact ⟨hA, fun _ g' o' e => by cases e; exact ⟨cur, _, hy⟩⟩
theorem BAt.part {w : World} {ad : Addr} {c : Nat} {l r : List UInt8} (h : BAt w (some ad) c (l ++ r)) : BAt w (some (ad.add l.length)) (c - l.length) r := by
  refine ⟨by have := h.1; rw [List.length_append] at this; omega, fun hp => ?_⟩
  obtain ⟨g', o', e, hg, hx⟩ := h.2 (by rw [List.length_append]; omega)
  injection e with e
  subst e
  refine ⟨g', o' + l.length, congrArg some (addr_add _ _ _), hg, fun j x hj => ?_⟩
  have := hx (l.length + j) x (by rw [List.getElem?_append_right (by omega)]; simpa using hj)
  rwa [← Nat.add_assoc] at this

/-- The same texts, in two rows, are found equal. -/
theorem equal_any (A : Option Addr) (c : Nat) (B : Option Addr) (d : Nat) (xs : List (List UInt8)) (w : World) (hx : Txt w A c xs) (hy : Txt w B d xs) (hn : xs.length ≤ 1000000000) :
    Calls Try.prog 15 #[.slice A xs.length c, .slice B xs.length d] w fun e w' => e = .returned (.bool true) ∧ Below w.heap.size w w' := by
  by_cases h0 : xs.length = 0
  · rw [h0]
    exact (Try.slices_Equal_string_empty A B c 0 d w (by omega)).mono fun e w' ⟨he, hw⟩ => ⟨by rw [he]; simp, hw ▸ Below.refl _ _⟩
  · obtain ⟨g1, o1, rfl, hg1, hc1⟩ := hx.2 (by omega)
    obtain ⟨g2, o2, rfl, hg2, hc2⟩ := hy.2 (by omega)
    refine (Try.slices_Equal_string g1 o1 xs.length c g2 o2 xs.length d (xs.map bs) (xs.map bs) w (by simp) (by simp) (by omega) (by omega) (fun j hj => ?_) (fun j hj => ?_)).mono fun e w' ⟨he, q, hw⟩ => ⟨by rw [he]; simp, ?_⟩
    · have hj' : j < xs.length := by simpa using hj
      rw [hc1 j _ (List.getElem?_eq_getElem hj')]
      simp [List.getD, hj']
    · have hj' : j < xs.length := by simpa using hj
      rw [hc2 j _ (List.getElem?_eq_getElem hj')]
      simp [List.getD, hj']
    · subst hw
      exact (Below.refl _ _).trans ⟨rfl, rfl, rfl, Nat.le_refl _, fun _ _ => rfl⟩

set_option maxHeartbeats 8000000 in
set_option maxRecDepth 100000 in
theorem join_any (An : Option Addr) (cn : Nat) (ns : List (List UInt8)) (R : Nat) (Ad : Option Addr) (cd : Nat) (l : List Fi) (w : World) (hN : Txt w An cn ns) (hC : Cols w R (Fi.cols ns l)) (hA : BAt w Ad cd (Fi.all l)) (hok : ∀ f ∈ l, f.fine ns) (hn : l.length ≤ 100000) (hnn : ns.length ≤ 1000000)
    (hr : Fi.Rises ns) (hcov : ∀ s ∈ ns, ∃ f ∈ l, f.name = s) :
    Calls Try.prog 8 #[.slice An ns.length cn, .slice (some ⟨R, 0, none⟩) 4 4, .slice Ad (Fi.all l).length cd] w fun e w' => ∃ A c, e = .returned (.tuple #[.slice A l.length c, .int .i64 0]) ∧ FilesAt w' A c (l.map Fi.strip) ∧ Below w.heap.size w w' := by
  have hmm := @run_makeMap Try.prog
  have HN := Lib.hid hN
  have HC := Lib.hid hC
  have HA := Lib.hid hA
  have HOK := Lib.hid hok
  have HR := Lib.hid hr
  have HCV := Lib.hid hcov
  have HLL := Lib.hid (show ∀ j, (Fi.cols ns l j).length = l.length from fun j => by unfold Fi.cols; simp)
  clear hN hC hA hok hr hcov
  go_enter Try.func8, Try.ntmps8
  go_wp2_with fail
  refine (check_any An cn ns R l w HC.out HOK.out hn hnn).mono ?_
  rintro e wz ⟨rfl, hb1⟩
  have J1 := Lib.hid hb1
  obtain ⟨A0, c0, hc0', hI0⟩ := (HC.out.grow hb1).2 0 (by omega)
  rw [HLL.out 0] at hc0'
  have hc0 : (wz.alloc (.map #[] 0)).cell? ⟨R, 0, none⟩ = some (.slice A0 l.length c0) := (((Below.refl wz.heap.size wz).alloc (Nat.le_refl _) (.map #[] 0)).cell (p := ⟨R, 0, none⟩) (HC.out.grow hb1).1).trans hc0'
  clear hc0'
  have HS := Lib.hid (ISet.made wz)
  have K1 := Lib.hid ((Below.refl wz.heap.size wz).alloc (Nat.le_refl _) (.map #[] 0))
  have HA1 := Lib.hid (HA.out.grow (Below.after' J1.out K1.out (Nat.le_refl _)))
  have HI0 := Lib.hid hI0
  clear hb1 hI0
  go_wp2_with fail
  go_loopw [2, 9, 26] (fun d v u wr => ∃ i : Nat, i ≤ l.length ∧ u = .int .i64 i ∧ (∃ Ad cd, d = .slice Ad (Fi.all (l.drop i)).length cd ∧ BAt w Ad cd (Fi.all (l.drop i))) ∧ FRow wr wz.heap.size v ((l.take i).map Fi.strip) ∧ ISet wr wz.heap.size i (setI (Fi.cols ns (l.take i) 0)) ∧ Below wz.heap.size wz wr) (fun _ _ u _ => l.length - (intOf u).toNat)
  case atStart => exact ⟨0, Nat.zero_le _, rfl, ⟨Ad, cd, rfl, HA.out⟩, FRow.nil _ _, HS.out, K1.out⟩
  case round =>
    obtain ⟨i, hil, rfl, ⟨Ad1, cd1, rfl, hD⟩, hO, hM, hB⟩ := hrel
    obtain ⟨Ao, co, rfl, _⟩ := hO.reads
    have hli : ((l.take i).map Fi.strip).length = i := by simp; omega
    rw [hli] at hO ⊢
    have HD := Lib.hid hD
    have HO := Lib.hid hO
    have HM := Lib.hid hM
    have HB := Lib.hid hB
    have HW := Lib.hid (Below.after' J1.out hB (Nat.le_refl _))
    by_cases hi : i < l.length
    · obtain ⟨f, hf⟩ : ∃ f, l[i]? = some f := ⟨_, List.getElem?_eq_getElem hi⟩
      have hfm := List.mem_of_getElem? hf
      have hfine := HOK.out f hfm
      obtain ⟨hnum, hnat⟩ := Fi.num_at hfine.2.1
      have hCr := HC.out.grow HW.out
      have h00 : wz.heap.size < wr.heap.size := hM.lt
      obtain ⟨g0, o0, x0, hA0, hg0, hx0, hy0⟩ := (HI0.out.grow hB).at_ (i := i) (by rw [HLL.out]; exact hi)
      subst hA0
      obtain ⟨g1, o1, b1, x1, r1, hg1, hx1, hy1⟩ := ints_at hCr (j := 1) (by omega) (i := i) (by rw [HLL.out]; exact hi)
      obtain ⟨g2, o2, b2, x2, r2, hg2, hx2, hy2⟩ := ints_at hCr (j := 2) (by omega) (i := i) (by rw [HLL.out]; exact hi)
      obtain ⟨g3, o3, b3', x3, r3, hg3, hx3, hy3⟩ := ints_at hCr (j := 3) (by omega) (i := i) (by rw [HLL.out]; exact hi)
      rw [Fi.cols_at hf] at hx0 hx1 hx2 hx3
      injection hx0 with hx0; injection hx1 with hx1; injection hx2 with hx2; injection hx3 with hx3
      subst hx0 hx1 hx2 hx3
      rw [HLL.out] at r1 r2 r3
      obtain ⟨gn, on, hAn, hgn, hcn⟩ := (HN.out.grow HW.out).2 (by omega)
      subst hAn
      have hyn := hcn _ _ hnat
      have hRz := hCr.1
      have zn : gn < wr.drew.heap.size := hgn
      have zR : R < wr.drew.heap.size := hRz
      have z1 : g1 < wr.drew.heap.size := hg1
      have z2 : g2 < wr.drew.heap.size := hg2
      have hdd : ((f.date : Nat) : Int) ≤ 65535 := by have := hfine.1.1; omega
      have hcc : ((f.clock : Nat) : Int) ≤ 65535 := by have := hfine.1.2; omega
      have en : wr.drew.cell? ⟨gn, on + Fi.num ns f.name, none⟩ = some (.string (bs f.name)) := hyn
      have eR1 : wr.drew.cell? ⟨R, 1, none⟩ = some (.slice (some ⟨g1, o1, none⟩) l.length b1) := r1
      have eR2 : wr.drew.cell? ⟨R, 2, none⟩ = some (.slice (some ⟨g2, o2, none⟩) l.length b2) := r2
      have e1 : wr.drew.cell? ⟨g1, o1 + i, none⟩ = some (.int .i64 ((Fi.col ns 1 f : Nat) : Int)) := hy1
      have e2 : wr.drew.cell? ⟨g2, o2 + i, none⟩ = some (.int .i64 ((Fi.col ns 2 f : Nat) : Int)) := hy2
      have p1 : decide ((i : Int) < (l.length : Int)) = true := decide_eq_true (by omega)
      have p2 : decide (i < l.length) = true := decide_eq_true hi
      have p3 : decide (((Fi.num ns f.name : Nat) : Int) < (ns.length : Int)) = true := decide_eq_true (by omega)
      have p4 : decide (Fi.num ns f.name < ns.length) = true := decide_eq_true hnum
      have hFN := Lib.hid hfine
      have HR3 := Lib.hid r3
      have HY3 := Lib.hid hy3
      have HF := Lib.hid hf
      have hnum' : (Fi.col ns 0 f : Nat) = Fi.num ns f.name := rfl
      rw [hnum'] at hy0
      have h1' : (Fi.col ns 1 f : Nat) = f.date := rfl
      have h2' : (Fi.col ns 2 f : Nat) = f.clock := rfl
      rw [h1'] at e1
      rw [h2'] at e2
      clear hD hO hM hB hfm hfine hnat hCr hcn hyn r1 r2 r3 hy1 hy2 hy3 hf hnum' h1' h2'
      go_wp2_with fail
      refine wp_region_ord 21 (by kernel_rfl) (by kernel_rfl) (fun _ _ d _ _ h => by cases d <;> exact h) ?_
      simp only [List.take_succ_cons, List.take_zero, List.drop_succ_cons, List.drop_zero]
      repeat (first | (refine wpLex_skip rfl ?_; simp only [Act.put, List.setIfInBounds_toArray, List.set_cons_zero, List.set_cons_succ]) | (refine wpLex_fix rfl ?_; intro F hF R hR hne K hK; go_big_quiet_op; first | (go_big_quiet_on; clear hne hR R hF F) | (apply Exists.intro; refine ⟨fun g => ?_, ?_⟩; (((first | (rw [GrE.cell g _ _ zn]; go_simp; first | exact ⟨rfl, rfl⟩ | rfl) | (rw [GrE.cell g _ _ zR]; go_simp; first | exact ⟨rfl, rfl⟩ | rfl) | (rw [GrE.cell g _ _ z1]; go_simp; first | exact ⟨rfl, rfl⟩ | rfl) | (rw [GrE.cell g _ _ z2]; go_simp; first | exact ⟨rfl, rfl⟩ | rfl) | (go_simp; (repeat (simp only [GrE.cell g _ _ zn, GrE.cell g _ _ zR, GrE.cell g _ _ z1, GrE.cell g _ _ z2]; go_simp)); first | exact ⟨rfl, rfl⟩ | rfl)))); go_big_quiet_on; clear hne hR R hF F)) | (apply wpLex_blk rfl; (focus (intro x hx; go_simp; exact ⟨rfl, rfl⟩)); intro B hB; simp only [Act.put, blkVal, List.setIfInBounds_toArray, List.set_cons_zero, List.set_cons_succ]))
      refine wpLex_nil ?_
      intro w1 hw1
      have hq1 := (hw1.fact 13 B _ (.inr ⟨rfl, rfl, rfl⟩)).2
      have hBw : wr.heap.size ≤ B := hB
      have kw1 : Below wr.heap.size wr w1 := (Below.refl wr.heap.size wr).drew.trans hw1.below
      refine wpList_store_mid rfl 37 _ _ rfl B 0 #[.string (bs f.name), .int .u16 (f.date : Int), .int .u16 (f.clock : Int), .bool false, .slice none 0 0] rfl rfl (file_there hq1) (by kernel_rfl) (by simp [Value.oneCell']) ?_
      have y0 := file_put hq1 (.string (bs f.name)) (.int .u16 (f.date : Int)) (.int .u16 (f.clock : Int)) (.bool false) (.slice none 0 0)
      have k0 := file_below kw1 hBw (.string (bs f.name)) (.int .u16 (f.date : Int)) (.int .u16 (f.clock : Int)) (.bool false) (.slice none 0 0)
      have hll0 : (#[Value.string (bs f.name), .int .u16 (f.date : Int), .int .u16 (f.clock : Int), .bool false, .slice none 0 0]).toList = [.string (bs f.name), .int .u16 (f.date : Int), .int .u16 (f.clock : Int), .bool false, .slice none 0 0] := rfl
      rw [hll0]
      generalize w1.setCells B 0 [.string (bs f.name), .int .u16 (f.date : Int), .int .u16 (f.clock : Int), .bool false, .slice none 0 0] = Y at y0 k0 ⊢
      have q3 : Y.cell? ⟨R, 3, none⟩ = some (.slice (some ⟨g3, o3, none⟩) l.length b3') := (k0.cell (p := ⟨R, 3, none⟩) hRz).trans HR3.out
      have q4 : Y.cell? ⟨g3, o3 + i, none⟩ = some (.int .i64 ((Fi.col ns 3 f : Nat) : Int)) := (k0.cell (p := ⟨g3, o3 + i, none⟩) hg3).trans HY3.out
      have s3 := (blk_facts y0).2 3
      have t3 : Y.cell? ⟨B, 3, none⟩ = some (.bool false) := (blk_facts y0).1 3
      have HY0 := Lib.hid y0
      have HK0 := Lib.hid k0
      clear hw1 hq1 y0 k0 kw1 zn zR z1 z2 en eR1 eR2 e1 e2 hy0 hB hll0 hmm
      simp only [Act.put]
      cases hc : f.cls with
      | true =>
        have hsz : (Fi.col ns 3 f : Nat) = 0 := by show Fi.size f = 0; unfold Fi.size; rw [hc]; rfl
        rw [hsz] at q4
        have y1 := set_at (k := 3) HY0.out (.bool true)
        have HZ1 := Lib.hid y1
        have HKZ := Lib.hid (HK0.out.setCell (p := ⟨B, 3, none⟩) hBw (.bool true))
        have HMZ := Lib.hid (HM.out.keep HKZ.out)
        have hby : f.bytes = [] := by unfold Fi.bytes; rw [hc]; rfl
        have HDZ := Lib.hid (show Dat (Y.setCell ⟨B, 3, none⟩ (.bool true)) none 0 (Fi.strip f).data from by unfold Fi.strip; rw [hby]; exact Dat.nil _ _ _)
        have hdr : Fi.all (l.drop i) = Fi.all (l.drop (i + 1)) := by rw [Fi.all_split HF.out, hby]; rfl
        have HDR := Lib.hid (show BAt w Ad1 cd1 (Fi.all (l.drop (i + 1))) from hdr ▸ HD.out)
        have HFC := Lib.hid (show fc (Fi.strip f) none 0 = [.string (bs f.name), .int .u16 (f.date : Int), .int .u16 (f.clock : Int), .bool true, .slice none 0 0] by unfold fc Fi.strip; rw [hby, hc]; rfl)
        rw [hdr]
        clear y1 hby hdr
        obtain ⟨D, hDown, hDh, hDs⟩ := HMZ.out
        have HDO := Lib.hid hDown
        have hI64 : I64 ((Fi.num ns f.name : Nat) : Int) := by unfold I64; omega
        have HKI := Lib.hid (keyI hI64)
        have HHS := Lib.hid (And.intro hDh hDs)
        clear hDown hDh hDs hI64
        go_wp2_with (first | (at_mapUpdate; refine wpList_mapUpdate_own _ rfl _ _ _ 45 rfl 3 4 lawI Try.underlying45 _ wz.heap.size i _ rfl HDO.out (by unfold maxLen; omega) _ _ _ rfl rfl HKI.out (.lit (.bool true)) [] (plainElem_bool Try.underlying4 true) ?_; intro w5 hown5 hgrow5; refine RowKit.Hid.out ?_) | go_in)
        refine Lib.hid ?_
        have HM5 := Lib.hid (show ISet w5 wz.heap.size (i + 1) (setI (Fi.cols ns (l.take (i + 1)) 0)) by
          rw [Fi.cols_snoc HF.out 0]
          have := ISet.put HDO.out HHS.out.1 HHS.out.2 hown5
          unfold setI
          rw [List.foldl_append]
          exact this)
        have hmne : ∀ g c t fr, (Y.setCell ⟨B, 3, none⟩ (.bool true)).heap[g]? = some (.cells c t fr) → wz.heap.size ≠ g := fun g c t fr h => HMZ.out.ne h
        have HO5 := Lib.hid ((HO.out.grow HKZ.out).hop hgrow5 (fun g e c fr t h => by injection e with e; exact absurd e (hmne g c t fr h)))
        have HD5 := Lib.hid (HDZ.out.hop hgrow5 (fun g e c fr h => by injection e with e; exact absurd e (hmne g c _ fr h)))
        have hq5 := (hgrow5.block B (Array.getElem?_eq_some_iff.1 HZ1.out).1 (fun e => by injection e with e; exact hmne B _ _ _ HZ1.out e.symm)).trans HZ1.out
        have HK5 := Lib.hid ((HB.out.trans (HKZ.out.mono HB.out.size)).grown hgrow5 (Nat.le_trans HB.out.size HKZ.out.size) (fun j hj => by cases hj; exact Nat.le_refl _))
        have v0 : w5.cell? ⟨B, 0, none⟩ = some (.string (bs f.name)) := (blk_facts hq5).1 0
        have v1 : w5.cell? ⟨B, 1, none⟩ = some (.int .u16 (f.date : Int)) := (blk_facts hq5).1 1
        have v2 : w5.cell? ⟨B, 2, none⟩ = some (.int .u16 (f.clock : Int)) := (blk_facts hq5).1 2
        have v3 : w5.cell? ⟨B, 3, none⟩ = some (Value.bool true) := (blk_facts hq5).1 3
        have v4 : w5.cell? ⟨B, 4, none⟩ = some (Value.slice none 0 0) := (blk_facts hq5).1 4
        have k6 := (Below.refl w5.heap.size w5).alloc (Nat.le_refl _) (.cells #[.string (bs f.name), .int .u16 (f.date : Int), .int .u16 (f.clock : Int), Value.bool true, Value.slice none 0 0] 37)
        have HG := Lib.hid (show (w5.alloc (.cells #[.string (bs f.name), .int .u16 (f.date : Int), .int .u16 (f.clock : Int), Value.bool true, Value.slice none 0 0] 37)).heap[w5.heap.size]? = some (.cells (fc (Fi.strip f) none 0).toArray 37 (0, 0)) by rw [HFC.out]; exact heap_alloc_new _ _)
        have HO6 := Lib.hid (HO5.out.grow k6)
        have HD6 := Lib.hid (HD5.out.grow k6)
        have HM6 := Lib.hid (HM5.out.keep k6)
        have HZ6 := Lib.hid (show wz.heap.size ≤ (w5.alloc (.cells #[.string (bs f.name), .int .u16 (f.date : Int), .int .u16 (f.clock : Int), Value.bool true, Value.slice none 0 0] 37)).heap.size from Nat.le_trans HK5.out.size k6.size)
        have HLn := Lib.hid (show ((l.take i).map Fi.strip).length ≤ 1000000 by simp; omega)
        have HK6 := Lib.hid (HK5.out.trans (k6.mono HK5.out.size))
        have HOKS := Lib.hid (show (Fi.strip f).ok from hFN.out.1)
        have hcx := Lib.hid (fun g hg => FRow.cells HO6.out (g := g) hg)
        have HSN := Lib.hid (show (l.take (i + 1)).map Fi.strip = (l.take i).map Fi.strip ++ [Fi.strip f] by
          obtain ⟨h1, h2⟩ := List.getElem?_eq_some_iff.1 HF.out
          rw [List.take_succ_eq_append_getElem h1, List.map_append, h2]; rfl)
        clear hown5 hgrow5 hmne hq5 k6 HM5 HO5 HD5 HDO HHS HKI
        go_wp2_with (at_builtin; refine wpList_appF rfl _ _ rfl wz.heap.size (.slice Ao i co) ((l.take i).map Fi.strip) rfl HO6.out w5.heap.size (Fi.strip f) none 0 37 (0, 0) rfl HG.out HOKS.out HD6.out HLn.out HZ6.out ?_)
        intro v6 w6 hF6 hhop6
        have HF6 := Lib.hid (show FRow w6 wz.heap.size v6 ((l.take (i + 1)).map Fi.strip) by rw [HSN.out]; first | exact hF6 | (rw [List.map_take]; exact hF6))
        have HM7 := Lib.hid (HM6.out.kept hhop6.1 (fun e => by
          obtain ⟨_, cur, hh⟩ := hcx.out _ e.symm
          exact HM6.out.ne hh rfl))
        have HK7 := Lib.hid (HK6.out.trans (hhop6.below HZ6.out (fun k hk => (hcx.out k hk).1)))
        clear hF6 hhop6 v0 v1 v2 v3 v4
        go_wp2
        go_roundw
        case rel => first | exact ⟨i + 1, by omega, by go_num, ⟨_, _, rfl, HDR.out⟩, HF6.out, HM7.out, HK7.out⟩ | exact ⟨i + 1, by omega, by go_num, ⟨_, _, congrArg (fun n : Nat => Value.slice none n _) HRL.out, HDR.out⟩, HF6.out, HM7.out, HK7.out⟩
        case measure => simp [intOf]; omega
      | false =>
        have hsz : (Fi.col ns 3 f : Nat) = f.data.length + 1 := by show Fi.size f = _; unfold Fi.size; rw [hc]; rfl
        rw [hsz] at q4
        have hby : f.bytes = f.data := by unfold Fi.bytes; rw [hc]; rfl
        have hdr : Fi.all (l.drop i) = f.data ++ Fi.all (l.drop (i + 1)) := by rw [Fi.all_split HF.out, hby]
        rw [hdr] at HD ⊢
        have y1 := set_at (k := 3) HY0.out (.bool false)
        have HY1 := Lib.hid y1
        have HK1 := Lib.hid (HK0.out.setCell (p := ⟨B, 3, none⟩) hBw (.bool false))
        have HHC := Lib.hid hc
        have hdl : f.data.length ≤ 100000 := hFN.out.2.2
        have HSB := Lib.hid (show f.strip = f by unfold Fi.strip; rw [hby])
        clear y1 hby hdr hc
        generalize hre : Fi.all (l.drop (i + 1)) = rest at HD ⊢
        have HRE := Lib.hid hre
        clear hre
        have hlen : (f.data ++ rest).length = f.data.length + rest.length := List.length_append
        rw [hlen]
        have yneg : decide ((f.data.length : Int) < 0) = false := decide_eq_false (by omega)
        cases Ad1 with
        | none =>
          have hnil : f.data.length = 0 ∧ rest.length = 0 := by
            have h1 : ¬ 0 < (f.data ++ rest).length := fun h1 => by
              obtain ⟨g, o, e, _⟩ := HD.out.2 h1
              cases e
            rw [hlen] at h1
            omega
          have hdn : f.data = [] := List.eq_nil_of_length_eq_zero hnil.1
          have hrn : rest = [] := List.eq_nil_of_length_eq_zero hnil.2
          rw [hnil.1] at q4 hdl yneg ⊢
          rw [hnil.2]
          go_wp2_with fail
          generalize Y.setCell ⟨B, 3, none⟩ (.bool false) = Z at HY1 HK1 ⊢
          have hCl := Lib.hid (fun (x : World) (hx : Below Z.drew.heap.size Z.drew x) => cloneB_any none cd1 [] x (BAt.nil _ _ _) (by simp))
          refine OrdC.wp_region_ord (fr := fun o => if o.dst == some 71 then 2 else if o.dst == some 74 then 3 else 0) (Ψ := fun _ ω => TellB [] ω) 8 (by kernel_rfl) (by kernel_rfl) (fun _ _ d _ _ h => by cases d <;> exact h) ?_
          try simp only [List.take_succ_cons, List.take_zero, List.drop_succ_cons, List.drop_zero]
          repeat (first | (refine OrdC.wpLex_skip rfl rfl ?_; simp only [Act.put, List.setIfInBounds_toArray, List.set_cons_zero, List.set_cons_succ]) | (refine OrdC.wpLex_fix rfl rfl ?_; intro F hF R hR hne K hK; go_big_quiet_op; first | (go_big_quiet_on; clear hne hR R hF F) | (apply Exists.intro; refine ⟨fun g => ?_, ?_⟩; (((fail))); go_big_quiet_on; clear hne hR R hF F)) | (apply OrdC.wpLex_blk rfl rfl; (focus (intro x hx; go_simp; exact ⟨rfl, rfl⟩)); intro B hB; simp only [Act.put, blkVal, List.setIfInBounds_toArray, List.set_cons_zero, List.set_cons_succ]))
          refine OrdC.wpLex_call rfl rfl 14 #[.slice none ([] : List UInt8).length cd1] (fun x hx => by go_simp) (fun x hx => ((hCl.out x hx.below).mono fun e w' ⟨v, he, hbr, hb⟩ => by
            obtain ⟨ω, h1, h2, h3⟩ := brow_out hbr
            exact ⟨ω, by rw [he, h1], hb, fun e => ⟨Nat.le_trans hx.below.size (h2 e).1, (h2 e).2⟩, h3⟩)) ?_
          intro ω hω hωB
          simp only [Act.put, List.setIfInBounds_toArray, List.set_cons_zero, List.set_cons_succ]
          try simp only [List.take_succ_cons, List.take_zero, List.drop_succ_cons, List.drop_zero]
          repeat (first | (refine OrdC.wpLex_skip rfl rfl ?_; simp only [Act.put, List.setIfInBounds_toArray, List.set_cons_zero, List.set_cons_succ]) | (refine OrdC.wpLex_fix rfl rfl ?_; intro F hF R hR hne K hK; go_big_quiet_op; first | (go_big_quiet_on; clear hne hR R hF F) | (apply Exists.intro; refine ⟨fun g => ?_, ?_⟩; (((fail))); go_big_quiet_on; clear hne hR R hF F)) | (apply OrdC.wpLex_blk rfl rfl; (focus (intro x hx; go_simp; exact ⟨rfl, rfl⟩)); intro B hB; simp only [Act.put, blkVal, List.setIfInBounds_toArray, List.set_cons_zero, List.set_cons_succ]))
          apply OrdC.wpLex_free rfl rfl
          focus (intro x; go_simp; first | rfl | exact ⟨rfl, rfl⟩)
          simp only [Act.put, List.setIfInBounds_toArray, List.set_cons_zero, List.set_cons_succ]
          try simp only [List.take_succ_cons, List.take_zero, List.drop_succ_cons, List.drop_zero]
          repeat (first | (refine OrdC.wpLex_skip rfl rfl ?_; simp only [Act.put, List.setIfInBounds_toArray, List.set_cons_zero, List.set_cons_succ]) | (refine OrdC.wpLex_fix rfl rfl ?_; intro F hF R hR hne K hK; go_big_quiet_op; first | (go_big_quiet_on; clear hne hR R hF F) | (apply Exists.intro; refine ⟨fun g => ?_, ?_⟩; (((fail))); go_big_quiet_on; clear hne hR R hF F)) | (apply OrdC.wpLex_blk rfl rfl; (focus (intro x hx; go_simp; exact ⟨rfl, rfl⟩)); intro B hB; simp only [Act.put, blkVal, List.setIfInBounds_toArray, List.set_cons_zero, List.set_cons_succ]))
          refine OrdC.wpLex_nil ?_
          intro w1 hw1
          obtain ⟨ωB, ωv, ωo, ωg⟩ := ω
          obtain ⟨Bd, dd, hv, _⟩ := hω
          simp only [List.length_nil] at hv hωB hw1
          subst hv
          have hBZ : B < Z.heap.size := (Array.getElem?_eq_some_iff.1 HY1.out).1
          have hqb : w1.heap[B]? = some (.cells #[.string (bs f.name), .int .u16 (f.date : Int), .int .u16 (f.clock : Int), .bool false, .slice none 0 0] 37 (0, 0)) := (hw1.below.block B hBZ).trans HY1.out
          have s4 := (blk_facts hqb).2 4
          have t4 : w1.cell? ⟨B, 4, none⟩ = some (.slice none 0 0) := (blk_facts hqb).1 4
          have hdat : Dat (w1.setCell ⟨B, 4, none⟩ (.slice Bd 0 dd)) Bd dd (Fi.strip f).data := by
            rw [HSB.out, hdn]
            exact Dat.nil _ _ _
          have y2 := set_at (k := 4) hqb (.slice Bd 0 dd)
          have kZ : Below Z.heap.size Z w1 := (Below.refl Z.heap.size Z).drew.trans hw1.below
          have HZ1 := Lib.hid y2
          have HKZ := Lib.hid ((HK1.out.trans (kZ.mono HK1.out.size)).setCell (p := ⟨B, 4, none⟩) hBw (.slice Bd 0 dd))
          have HMZ := Lib.hid (HM.out.keep HKZ.out)
          have HDZ := Lib.hid hdat
          have hr0 : Fi.all (l.drop (i + 1)) = [] := by rw [HRE.out, hrn]
          have HFC := Lib.hid (show fc (Fi.strip f) Bd dd = [.string (bs f.name), .int .u16 (f.date : Int), .int .u16 (f.clock : Int), .bool false, .slice Bd 0 dd] by unfold fc; rw [HSB.out, HHC.out, hdn]; rfl)
          have HDR := Lib.hid (show BAt w none cd1 (Fi.all (l.drop (i + 1))) by rw [hr0]; exact BAt.nil _ _ _)
          have HRL := Lib.hid (show 0 = (Fi.all (l.drop (i + 1))).length by rw [hr0]; rfl)
          clear hr0 hnil hdn hrn
          clear hωB hw1 hqb y2 kZ hCl hdat
          obtain ⟨D, hDown, hDh, hDs⟩ := HMZ.out
          have HDO := Lib.hid hDown
          have hI64 : I64 ((Fi.num ns f.name : Nat) : Int) := by unfold I64; omega
          have HKI := Lib.hid (keyI hI64)
          have HHS := Lib.hid (And.intro hDh hDs)
          clear hDown hDh hDs hI64
          go_wp2_with (first | (at_mapUpdate; refine wpList_mapUpdate_own _ rfl _ _ _ 45 rfl 3 4 lawI Try.underlying45 _ wz.heap.size i _ rfl HDO.out (by unfold maxLen; omega) _ _ _ rfl rfl HKI.out (.lit (.bool true)) [] (plainElem_bool Try.underlying4 true) ?_; intro w5 hown5 hgrow5; refine RowKit.Hid.out ?_) | go_in)
          refine Lib.hid ?_
          have HM5 := Lib.hid (show ISet w5 wz.heap.size (i + 1) (setI (Fi.cols ns (l.take (i + 1)) 0)) by
            rw [Fi.cols_snoc HF.out 0]
            have := ISet.put HDO.out HHS.out.1 HHS.out.2 hown5
            unfold setI
            rw [List.foldl_append]
            exact this)
          have hmne : ∀ g c t fr, (w1.setCell ⟨B, 4, none⟩ (.slice Bd 0 dd)).heap[g]? = some (.cells c t fr) → wz.heap.size ≠ g := fun g c t fr h => HMZ.out.ne h
          have HO5 := Lib.hid ((HO.out.grow HKZ.out).hop hgrow5 (fun g e c fr t h => by injection e with e; exact absurd e (hmne g c t fr h)))
          have HD5 := Lib.hid (HDZ.out.hop hgrow5 (fun g e c fr h => by injection e with e; exact absurd e (hmne g c _ fr h)))
          have hq5 := (hgrow5.block B (Array.getElem?_eq_some_iff.1 HZ1.out).1 (fun e => by injection e with e; exact hmne B _ _ _ HZ1.out e.symm)).trans HZ1.out
          have HK5 := Lib.hid ((HB.out.trans (HKZ.out.mono HB.out.size)).grown hgrow5 (Nat.le_trans HB.out.size HKZ.out.size) (fun j hj => by cases hj; exact Nat.le_refl _))
          have v0 : w5.cell? ⟨B, 0, none⟩ = some (.string (bs f.name)) := (blk_facts hq5).1 0
          have v1 : w5.cell? ⟨B, 1, none⟩ = some (.int .u16 (f.date : Int)) := (blk_facts hq5).1 1
          have v2 : w5.cell? ⟨B, 2, none⟩ = some (.int .u16 (f.clock : Int)) := (blk_facts hq5).1 2
          have v3 : w5.cell? ⟨B, 3, none⟩ = some (Value.bool false) := (blk_facts hq5).1 3
          have v4 : w5.cell? ⟨B, 4, none⟩ = some (Value.slice Bd 0 dd) := (blk_facts hq5).1 4
          have k6 := (Below.refl w5.heap.size w5).alloc (Nat.le_refl _) (.cells #[.string (bs f.name), .int .u16 (f.date : Int), .int .u16 (f.clock : Int), Value.bool false, Value.slice Bd 0 dd] 37)
          have HG := Lib.hid (show (w5.alloc (.cells #[.string (bs f.name), .int .u16 (f.date : Int), .int .u16 (f.clock : Int), Value.bool false, Value.slice Bd 0 dd] 37)).heap[w5.heap.size]? = some (.cells (fc (Fi.strip f) Bd dd).toArray 37 (0, 0)) by rw [HFC.out]; exact heap_alloc_new _ _)
          have HO6 := Lib.hid (HO5.out.grow k6)
          have HD6 := Lib.hid (HD5.out.grow k6)
          have HM6 := Lib.hid (HM5.out.keep k6)
          have HZ6 := Lib.hid (show wz.heap.size ≤ (w5.alloc (.cells #[.string (bs f.name), .int .u16 (f.date : Int), .int .u16 (f.clock : Int), Value.bool false, Value.slice Bd 0 dd] 37)).heap.size from Nat.le_trans HK5.out.size k6.size)
          have HLn := Lib.hid (show ((l.take i).map Fi.strip).length ≤ 1000000 by simp; omega)
          have HK6 := Lib.hid (HK5.out.trans (k6.mono HK5.out.size))
          have HOKS := Lib.hid (show (Fi.strip f).ok from hFN.out.1)
          have hcx := Lib.hid (fun g hg => FRow.cells HO6.out (g := g) hg)
          have HSN := Lib.hid (show (l.take (i + 1)).map Fi.strip = (l.take i).map Fi.strip ++ [Fi.strip f] by
            obtain ⟨h1, h2⟩ := List.getElem?_eq_some_iff.1 HF.out
            rw [List.take_succ_eq_append_getElem h1, List.map_append, h2]; rfl)
          clear hown5 hgrow5 hmne hq5 k6 HM5 HO5 HD5 HDO HHS HKI
          go_wp2_with (at_builtin; refine wpList_appF rfl _ _ rfl wz.heap.size (.slice Ao i co) ((l.take i).map Fi.strip) rfl HO6.out w5.heap.size (Fi.strip f) Bd dd 37 (0, 0) rfl HG.out HOKS.out HD6.out HLn.out HZ6.out ?_)
          intro v6 w6 hF6 hhop6
          have HF6 := Lib.hid (show FRow w6 wz.heap.size v6 ((l.take (i + 1)).map Fi.strip) by rw [HSN.out]; first | exact hF6 | (rw [List.map_take]; exact hF6))
          have HM7 := Lib.hid (HM6.out.kept hhop6.1 (fun e => by
            obtain ⟨_, cur, hh⟩ := hcx.out _ e.symm
            exact HM6.out.ne hh rfl))
          have HK7 := Lib.hid (HK6.out.trans (hhop6.below HZ6.out (fun k hk => (hcx.out k hk).1)))
          clear hF6 hhop6 v0 v1 v2 v3 v4
          go_wp2
          go_roundw
          case rel => first | exact ⟨i + 1, by omega, by go_num, ⟨_, _, rfl, HDR.out⟩, HF6.out, HM7.out, HK7.out⟩ | exact ⟨i + 1, by omega, by go_num, ⟨_, _, congrArg (fun n : Nat => Value.slice none n _) HRL.out, HDR.out⟩, HF6.out, HM7.out, HK7.out⟩
          case measure => simp [intOf]; omega
        | some ad =>
          go_wp2_with fail
          generalize Y.setCell ⟨B, 3, none⟩ (.bool false) = Z at HY1 HK1 ⊢
          have hCl := Lib.hid (fun (x : World) (hx : Below Z.drew.heap.size Z.drew x) => by
            have hb := HD.out.take f.data.length
            rw [List.take_left] at hb
            exact cloneB_any (some ad) cd1 f.data x (hb.grow (Below.after' HW.out (Below.after' HK1.out ((Below.refl Z.heap.size Z).drew.trans hx) (Nat.le_refl _)) (Nat.le_refl _))) (by omega))
          have y1 : decide ((f.data.length : Int) < 0) = false := decide_eq_false (by omega)
          have y2 : ((f.data.length : Int) ≤ ((f.data.length : Int) + (rest.length : Int))) := by omega
          have y3 : (f.data.length ≤ cd1) := by have := HD.out.1; omega
          refine OrdC.wp_region_ord (fr := fun o => if o.dst == some 71 then 2 else if o.dst == some 74 then 3 else 0) (Ψ := fun _ ω => TellB f.data ω) 8 (by kernel_rfl) (by kernel_rfl) (fun _ _ d _ _ h => by cases d <;> exact h) ?_
          try simp only [List.take_succ_cons, List.take_zero, List.drop_succ_cons, List.drop_zero]
          repeat (first | (refine OrdC.wpLex_skip rfl rfl ?_; simp only [Act.put, List.setIfInBounds_toArray, List.set_cons_zero, List.set_cons_succ]) | (refine OrdC.wpLex_fix rfl rfl ?_; intro F hF R hR hne K hK; go_big_quiet_op; first | (go_big_quiet_on; clear hne hR R hF F) | (apply Exists.intro; refine ⟨fun g => ?_, ?_⟩; (((fail))); go_big_quiet_on; clear hne hR R hF F)) | (apply OrdC.wpLex_blk rfl rfl; (focus (intro x hx; go_simp; exact ⟨rfl, rfl⟩)); intro B hB; simp only [Act.put, blkVal, List.setIfInBounds_toArray, List.set_cons_zero, List.set_cons_succ]))
          refine OrdC.wpLex_call rfl rfl 14 #[.slice (some ad) f.data.length cd1] (fun x hx => by go_simp) (fun x hx => ((hCl.out x hx.below).mono fun e w' ⟨v, he, hbr, hb⟩ => by
            obtain ⟨ω, h1, h2, h3⟩ := brow_out hbr
            exact ⟨ω, by rw [he, h1], hb, fun e => ⟨Nat.le_trans hx.below.size (h2 e).1, (h2 e).2⟩, h3⟩)) ?_
          intro ω hω hωB
          simp only [Act.put, List.setIfInBounds_toArray, List.set_cons_zero, List.set_cons_succ]
          try simp only [List.take_succ_cons, List.take_zero, List.drop_succ_cons, List.drop_zero]
          repeat (first | (refine OrdC.wpLex_skip rfl rfl ?_; simp only [Act.put, List.setIfInBounds_toArray, List.set_cons_zero, List.set_cons_succ]) | (refine OrdC.wpLex_fix rfl rfl ?_; intro F hF R hR hne K hK; go_big_quiet_op; first | (go_big_quiet_on; clear hne hR R hF F) | (apply Exists.intro; refine ⟨fun g => ?_, ?_⟩; (((fail))); go_big_quiet_on; clear hne hR R hF F)) | (apply OrdC.wpLex_blk rfl rfl; (focus (intro x hx; go_simp; exact ⟨rfl, rfl⟩)); intro B hB; simp only [Act.put, blkVal, List.setIfInBounds_toArray, List.set_cons_zero, List.set_cons_succ]))
          apply OrdC.wpLex_free rfl rfl
          focus (intro x; go_simp; first | rfl | exact ⟨rfl, rfl⟩)
          simp only [Act.put, List.setIfInBounds_toArray, List.set_cons_zero, List.set_cons_succ]
          try simp only [List.take_succ_cons, List.take_zero, List.drop_succ_cons, List.drop_zero]
          repeat (first | (refine OrdC.wpLex_skip rfl rfl ?_; simp only [Act.put, List.setIfInBounds_toArray, List.set_cons_zero, List.set_cons_succ]) | (refine OrdC.wpLex_fix rfl rfl ?_; intro F hF R hR hne K hK; go_big_quiet_op; first | (go_big_quiet_on; clear hne hR R hF F) | (apply Exists.intro; refine ⟨fun g => ?_, ?_⟩; (((fail))); go_big_quiet_on; clear hne hR R hF F)) | (apply OrdC.wpLex_blk rfl rfl; (focus (intro x hx; go_simp; exact ⟨rfl, rfl⟩)); intro B hB; simp only [Act.put, blkVal, List.setIfInBounds_toArray, List.set_cons_zero, List.set_cons_succ]))
          refine OrdC.wpLex_nil ?_
          intro w1 hw1
          obtain ⟨ωB, ωv, ωo, ωg⟩ := ω
          obtain ⟨Bd, dd, hv, hωd⟩ := hω
          simp only at hv hωd hωB hw1
          subst hv
          have hBZ : B < Z.heap.size := (Array.getElem?_eq_some_iff.1 HY1.out).1
          have hqb : w1.heap[B]? = some (.cells #[.string (bs f.name), .int .u16 (f.date : Int), .int .u16 (f.clock : Int), .bool false, .slice none 0 0] 37 (0, 0)) := (hw1.below.block B hBZ).trans HY1.out
          have s4 := (blk_facts hqb).2 4
          have t4 : w1.cell? ⟨B, 4, none⟩ = some (.slice none 0 0) := (blk_facts hqb).1 4
          have hdat : Dat (w1.setCell ⟨B, 4, none⟩ (.slice Bd f.data.length dd)) Bd dd (Fi.strip f).data := by
            rw [HSB.out]
            rcases hωd with ⟨h1, h2⟩ | h1
            · subst h1
              refine h2 _ ?_
              have h3 := hωB rfl
              have h4 : Z.drew.heap.size = Z.heap.size := rfl
              rw [set_else _ _ (show (⟨B, 4, none⟩ : Addr).block ≠ ωB by show B ≠ ωB; omega)]
              exact (hw1.fact 71 ωB ωo (.inr ⟨rfl, rfl, rfl⟩)).2
            · rw [h1]; exact Dat.nil _ _ _
          have y2 := set_at (k := 4) hqb (.slice Bd f.data.length dd)
          have kZ : Below Z.heap.size Z w1 := (Below.refl Z.heap.size Z).drew.trans hw1.below
          have HZ1 := Lib.hid y2
          have HKZ := Lib.hid ((HK1.out.trans (kZ.mono HK1.out.size)).setCell (p := ⟨B, 4, none⟩) hBw (.slice Bd f.data.length dd))
          have HMZ := Lib.hid (HM.out.keep HKZ.out)
          have HDZ := Lib.hid hdat
          have HDR := Lib.hid (show BAt w (some (ad.add f.data.length)) (cd1 - f.data.length) (Fi.all (l.drop (i + 1))) by rw [HRE.out]; exact HD.out.part)
          have HFC := Lib.hid (show fc (Fi.strip f) Bd dd = [.string (bs f.name), .int .u16 (f.date : Int), .int .u16 (f.clock : Int), .bool false, .slice Bd f.data.length dd] by unfold fc; rw [HSB.out, HHC.out])
          clear hωd hωB hw1 hqb y2 kZ hCl hdat
          have hlen' : (f.data ++ rest).length = f.data.length + rest.length := List.length_append
          rw [← HRE.out]
          go_wp2_with (first | (at_mapUpdate; refine RowKit.Hid.out ?_) | go_in)
          · refine Lib.hid ?_
            have HDR := Lib.hid (show BAt w (some ad) 0 (Fi.all (l.drop (i + 1))) by
              obtain ⟨h1, _⟩ := HD.out
              rw [HRE.out]
              obtain rfl : rest = [] := List.eq_nil_of_length_eq_zero (by rw [hlen'] at h1; omega)
              exact BAt.nil _ _ _)
            obtain ⟨D, hDown, hDh, hDs⟩ := HMZ.out
            have HDO := Lib.hid hDown
            have hI64 : I64 ((Fi.num ns f.name : Nat) : Int) := by unfold I64; omega
            have HKI := Lib.hid (keyI hI64)
            have HHS := Lib.hid (And.intro hDh hDs)
            clear hDown hDh hDs hI64
            go_wp2_with (first | (at_mapUpdate; refine wpList_mapUpdate_own _ rfl _ _ _ 45 rfl 3 4 lawI Try.underlying45 _ wz.heap.size i _ rfl HDO.out (by unfold maxLen; omega) _ _ _ rfl rfl HKI.out (.lit (.bool true)) [] (plainElem_bool Try.underlying4 true) ?_; intro w5 hown5 hgrow5; refine RowKit.Hid.out ?_) | go_in)
            refine Lib.hid ?_
            have HM5 := Lib.hid (show ISet w5 wz.heap.size (i + 1) (setI (Fi.cols ns (l.take (i + 1)) 0)) by
              rw [Fi.cols_snoc HF.out 0]
              have := ISet.put HDO.out HHS.out.1 HHS.out.2 hown5
              unfold setI
              rw [List.foldl_append]
              exact this)
            have hmne : ∀ g c t fr, (w1.setCell ⟨B, 4, none⟩ (.slice Bd f.data.length dd)).heap[g]? = some (.cells c t fr) → wz.heap.size ≠ g := fun g c t fr h => HMZ.out.ne h
            have HO5 := Lib.hid ((HO.out.grow HKZ.out).hop hgrow5 (fun g e c fr t h => by injection e with e; exact absurd e (hmne g c t fr h)))
            have HD5 := Lib.hid (HDZ.out.hop hgrow5 (fun g e c fr h => by injection e with e; exact absurd e (hmne g c _ fr h)))
            have hq5 := (hgrow5.block B (Array.getElem?_eq_some_iff.1 HZ1.out).1 (fun e => by injection e with e; exact hmne B _ _ _ HZ1.out e.symm)).trans HZ1.out
            have HK5 := Lib.hid ((HB.out.trans (HKZ.out.mono HB.out.size)).grown hgrow5 (Nat.le_trans HB.out.size HKZ.out.size) (fun j hj => by cases hj; exact Nat.le_refl _))
            have v0 : w5.cell? ⟨B, 0, none⟩ = some (.string (bs f.name)) := (blk_facts hq5).1 0
            have v1 : w5.cell? ⟨B, 1, none⟩ = some (.int .u16 (f.date : Int)) := (blk_facts hq5).1 1
            have v2 : w5.cell? ⟨B, 2, none⟩ = some (.int .u16 (f.clock : Int)) := (blk_facts hq5).1 2
            have v3 : w5.cell? ⟨B, 3, none⟩ = some (Value.bool false) := (blk_facts hq5).1 3
            have v4 : w5.cell? ⟨B, 4, none⟩ = some (Value.slice Bd f.data.length dd) := (blk_facts hq5).1 4
            have k6 := (Below.refl w5.heap.size w5).alloc (Nat.le_refl _) (.cells #[.string (bs f.name), .int .u16 (f.date : Int), .int .u16 (f.clock : Int), Value.bool false, Value.slice Bd f.data.length dd] 37)
            have HG := Lib.hid (show (w5.alloc (.cells #[.string (bs f.name), .int .u16 (f.date : Int), .int .u16 (f.clock : Int), Value.bool false, Value.slice Bd f.data.length dd] 37)).heap[w5.heap.size]? = some (.cells (fc (Fi.strip f) Bd dd).toArray 37 (0, 0)) by rw [HFC.out]; exact heap_alloc_new _ _)
            have HO6 := Lib.hid (HO5.out.grow k6)
            have HD6 := Lib.hid (HD5.out.grow k6)
            have HM6 := Lib.hid (HM5.out.keep k6)
            have HZ6 := Lib.hid (show wz.heap.size ≤ (w5.alloc (.cells #[.string (bs f.name), .int .u16 (f.date : Int), .int .u16 (f.clock : Int), Value.bool false, Value.slice Bd f.data.length dd] 37)).heap.size from Nat.le_trans HK5.out.size k6.size)
            have HLn := Lib.hid (show ((l.take i).map Fi.strip).length ≤ 1000000 by simp; omega)
            have HK6 := Lib.hid (HK5.out.trans (k6.mono HK5.out.size))
            have HOKS := Lib.hid (show (Fi.strip f).ok from hFN.out.1)
            have hcx := Lib.hid (fun g hg => FRow.cells HO6.out (g := g) hg)
            have HSN := Lib.hid (show (l.take (i + 1)).map Fi.strip = (l.take i).map Fi.strip ++ [Fi.strip f] by
              obtain ⟨h1, h2⟩ := List.getElem?_eq_some_iff.1 HF.out
              rw [List.take_succ_eq_append_getElem h1, List.map_append, h2]; rfl)
            clear hown5 hgrow5 hmne hq5 k6 HM5 HO5 HD5 HDO HHS HKI
            go_wp2_with (at_builtin; refine wpList_appF rfl _ _ rfl wz.heap.size (.slice Ao i co) ((l.take i).map Fi.strip) rfl HO6.out w5.heap.size (Fi.strip f) Bd dd 37 (0, 0) rfl HG.out HOKS.out HD6.out HLn.out HZ6.out ?_)
            intro v6 w6 hF6 hhop6
            have HF6 := Lib.hid (show FRow w6 wz.heap.size v6 ((l.take (i + 1)).map Fi.strip) by rw [HSN.out]; first | exact hF6 | (rw [List.map_take]; exact hF6))
            have HM7 := Lib.hid (HM6.out.kept hhop6.1 (fun e => by
              obtain ⟨_, cur, hh⟩ := hcx.out _ e.symm
              exact HM6.out.ne hh rfl))
            have HK7 := Lib.hid (HK6.out.trans (hhop6.below HZ6.out (fun k hk => (hcx.out k hk).1)))
            clear hF6 hhop6 v0 v1 v2 v3 v4
            go_wp2
            go_roundw
            case rel => first | exact ⟨i + 1, by omega, by go_num, ⟨_, _, rfl, HDR.out⟩, HF6.out, HM7.out, HK7.out⟩ | exact ⟨i + 1, by omega, by go_num, ⟨_, _, congrArg (fun n : Nat => Value.slice none n _) HRL.out, HDR.out⟩, HF6.out, HM7.out, HK7.out⟩
            case measure => simp [intOf]; omega
          · refine Lib.hid ?_
            obtain ⟨D, hDown, hDh, hDs⟩ := HMZ.out
            have HDO := Lib.hid hDown
            have hI64 : I64 ((Fi.num ns f.name : Nat) : Int) := by unfold I64; omega
            have HKI := Lib.hid (keyI hI64)
            have HHS := Lib.hid (And.intro hDh hDs)
            clear hDown hDh hDs hI64
            go_wp2_with (first | (at_mapUpdate; refine wpList_mapUpdate_own _ rfl _ _ _ 45 rfl 3 4 lawI Try.underlying45 _ wz.heap.size i _ rfl HDO.out (by unfold maxLen; omega) _ _ _ rfl rfl HKI.out (.lit (.bool true)) [] (plainElem_bool Try.underlying4 true) ?_; intro w5 hown5 hgrow5; refine RowKit.Hid.out ?_) | go_in)
            refine Lib.hid ?_
            have HM5 := Lib.hid (show ISet w5 wz.heap.size (i + 1) (setI (Fi.cols ns (l.take (i + 1)) 0)) by
              rw [Fi.cols_snoc HF.out 0]
              have := ISet.put HDO.out HHS.out.1 HHS.out.2 hown5
              unfold setI
              rw [List.foldl_append]
              exact this)
            have hmne : ∀ g c t fr, (w1.setCell ⟨B, 4, none⟩ (.slice Bd f.data.length dd)).heap[g]? = some (.cells c t fr) → wz.heap.size ≠ g := fun g c t fr h => HMZ.out.ne h
            have HO5 := Lib.hid ((HO.out.grow HKZ.out).hop hgrow5 (fun g e c fr t h => by injection e with e; exact absurd e (hmne g c t fr h)))
            have HD5 := Lib.hid (HDZ.out.hop hgrow5 (fun g e c fr h => by injection e with e; exact absurd e (hmne g c _ fr h)))
            have hq5 := (hgrow5.block B (Array.getElem?_eq_some_iff.1 HZ1.out).1 (fun e => by injection e with e; exact hmne B _ _ _ HZ1.out e.symm)).trans HZ1.out
            have HK5 := Lib.hid ((HB.out.trans (HKZ.out.mono HB.out.size)).grown hgrow5 (Nat.le_trans HB.out.size HKZ.out.size) (fun j hj => by cases hj; exact Nat.le_refl _))
            have v0 : w5.cell? ⟨B, 0, none⟩ = some (.string (bs f.name)) := (blk_facts hq5).1 0
            have v1 : w5.cell? ⟨B, 1, none⟩ = some (.int .u16 (f.date : Int)) := (blk_facts hq5).1 1
            have v2 : w5.cell? ⟨B, 2, none⟩ = some (.int .u16 (f.clock : Int)) := (blk_facts hq5).1 2
            have v3 : w5.cell? ⟨B, 3, none⟩ = some (Value.bool false) := (blk_facts hq5).1 3
            have v4 : w5.cell? ⟨B, 4, none⟩ = some (Value.slice Bd f.data.length dd) := (blk_facts hq5).1 4
            have k6 := (Below.refl w5.heap.size w5).alloc (Nat.le_refl _) (.cells #[.string (bs f.name), .int .u16 (f.date : Int), .int .u16 (f.clock : Int), Value.bool false, Value.slice Bd f.data.length dd] 37)
            have HG := Lib.hid (show (w5.alloc (.cells #[.string (bs f.name), .int .u16 (f.date : Int), .int .u16 (f.clock : Int), Value.bool false, Value.slice Bd f.data.length dd] 37)).heap[w5.heap.size]? = some (.cells (fc (Fi.strip f) Bd dd).toArray 37 (0, 0)) by rw [HFC.out]; exact heap_alloc_new _ _)
            have HO6 := Lib.hid (HO5.out.grow k6)
            have HD6 := Lib.hid (HD5.out.grow k6)
            have HM6 := Lib.hid (HM5.out.keep k6)
            have HZ6 := Lib.hid (show wz.heap.size ≤ (w5.alloc (.cells #[.string (bs f.name), .int .u16 (f.date : Int), .int .u16 (f.clock : Int), Value.bool false, Value.slice Bd f.data.length dd] 37)).heap.size from Nat.le_trans HK5.out.size k6.size)
            have HLn := Lib.hid (show ((l.take i).map Fi.strip).length ≤ 1000000 by simp; omega)
            have HK6 := Lib.hid (HK5.out.trans (k6.mono HK5.out.size))
            have HOKS := Lib.hid (show (Fi.strip f).ok from hFN.out.1)
            have hcx := Lib.hid (fun g hg => FRow.cells HO6.out (g := g) hg)
            have HSN := Lib.hid (show (l.take (i + 1)).map Fi.strip = (l.take i).map Fi.strip ++ [Fi.strip f] by
              obtain ⟨h1, h2⟩ := List.getElem?_eq_some_iff.1 HF.out
              rw [List.take_succ_eq_append_getElem h1, List.map_append, h2]; rfl)
            clear hown5 hgrow5 hmne hq5 k6 HM5 HO5 HD5 HDO HHS HKI
            go_wp2_with (at_builtin; refine wpList_appF rfl _ _ rfl wz.heap.size (.slice Ao i co) ((l.take i).map Fi.strip) rfl HO6.out w5.heap.size (Fi.strip f) Bd dd 37 (0, 0) rfl HG.out HOKS.out HD6.out HLn.out HZ6.out ?_)
            intro v6 w6 hF6 hhop6
            have HF6 := Lib.hid (show FRow w6 wz.heap.size v6 ((l.take (i + 1)).map Fi.strip) by rw [HSN.out]; first | exact hF6 | (rw [List.map_take]; exact hF6))
            have HM7 := Lib.hid (HM6.out.kept hhop6.1 (fun e => by
              obtain ⟨_, cur, hh⟩ := hcx.out _ e.symm
              exact HM6.out.ne hh rfl))
            have HK7 := Lib.hid (HK6.out.trans (hhop6.below HZ6.out (fun k hk => (hcx.out k hk).1)))
            clear hF6 hhop6 v0 v1 v2 v3 v4
            go_wp2
            go_roundw
            case rel => first | exact ⟨i + 1, by omega, by go_num, ⟨_, _, rfl, HDR.out⟩, HF6.out, HM7.out, HK7.out⟩ | exact ⟨i + 1, by omega, by go_num, ⟨_, _, congrArg (fun n : Nat => Value.slice none n _) HRL.out, HDR.out⟩, HF6.out, HM7.out, HK7.out⟩
            case measure => simp [intOf]; omega
    · obtain rfl : i = l.length := by omega
      have p1 : decide ((l.length : Int) < (l.length : Int)) = false := decide_eq_false (by omega)
      have p2 : decide (l.length < l.length) = false := decide_eq_false (by omega)
      have hz0 : (Fi.all (l.drop l.length)).length = 0 := by rw [List.drop_length]; rfl
      rw [hz0]
      obtain ⟨D, hDown, _, hDs⟩ := HM.out
      have HO2 := Lib.hid hDown
      have hsz : ns.length ≤ Maps.size D := by
        rw [hDs, List.take_length]
        refine full_le _ _ fun k hk => ?_
        rw [setI_mem]
        obtain ⟨f, hf, hfn⟩ := HCV.out (ns[k]) (List.getElem_mem hk)
        have h1 := Fi.num_at (ns := ns) (s := f.name) (by rw [hfn]; exact List.getElem_mem hk)
        have h2 := Fi.num_uniq HR.out h1.2 (show ns[k]? = some f.name by rw [hfn]; exact List.getElem?_eq_getElem hk)
        rw [List.contains_iff_mem]
        exact List.mem_map.2 ⟨f, hf, congrArg (fun n : Nat => (n : Int)) h2⟩
      have p3 : decide (Maps.size D < ns.length) = false := decide_eq_false (by omega)
      clear hDown hDs hsz hz0
      have HWS := Lib.hid (wsort_any An cn ns wr (HN.out.grow HW.out) (by omega))
      rw [Fi.sort_same HR.out] at HWS
      have HTK := Lib.hid (show (l.take l.length).map Fi.strip = l.map Fi.strip by rw [List.take_length])
      rw [HTK.out] at HO
      go_wp2_with (at_len; refine wpList_len_own _ rfl _ _ rfl _ _ Try.underlying45 _ _ _ _ rfl HO2.out ?_)
      refine HWS.out.mono ?_
      rintro e w1 ⟨v1, rfl, hT1, hb1⟩
      obtain ⟨A1, c1, rfl, hT⟩ := hT1.reads
      have HE := Lib.hid (equal_any A1 c1 An cn ns w1 hT (HN.out.grow (Below.after' HW.out hb1 (Nat.le_refl _))) (by omega))
      have HO3 := Lib.hid (HO.out.grow hb1)
      have HW3 := Lib.hid (Below.after' HW.out hb1 (Nat.le_refl _))
      clear hb1 hT1 hT HN HC HA HI0 HO2 HM
      go_wp2_with fail
      refine HE.out.mono ?_
      rintro e w2 ⟨rfl, hb2⟩
      have HO4 := Lib.hid (HO3.out.grow hb2)
      have HW4 := Lib.hid (Below.after' HW3.out hb2 (Nat.le_refl _))
      clear hb2
      go_wp2
      go_ret2
      obtain ⟨A2, c2, e2, hA2⟩ := HO4.out.reads
      rw [List.length_map] at e2
      injection e2 with e3 _ e4
      subst e3 e4
      exact ⟨Ao, co, rfl, hA2, HW4.out⟩
end Go.Proofs.Ytdgoffpfcgipkaa
