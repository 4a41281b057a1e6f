/- Joined texts: PortH, PortI, PortJ. -/
import Derived.Test.YtdmiljaiglaacaaPk8
/- The walks of layer 29: a text goes through. -/
namespace Go.Proofs.Ytdmiljaiglaacaa
open Go.RowKit Go.Maps

/-- The worlds around a call on a port. -/
theorem PortTo.grow {x y z : World} {base b : Nat} {tp : Value} {us : Nat → Value} {R : Nat → List Int} {rd : Bool} {e : Int} {o : Option Nat} (h : PortTo x base b tp us R rd e o y) (k : Below y.heap.size y z) : PortTo x base b tp us R rd e o z := by
  obtain ⟨us', h1, us0, e0, f⟩ := h
  exact ⟨us', h1.grow k, us0, e0, f.trans (Frm.grow h1.ble k)⟩
theorem PortTo.size {x y : World} {base b : Nat} {tp : Value} {us : Nat → Value} {R : Nat → List Int} {rd : Bool} {e : Int} {o : Option Nat} (h : PortTo x base b tp us R rd e o y) : x.heap.size ≤ y.heap.size := by
  obtain ⟨us', h1, us0, e0, f⟩ := h
  exact f.below.size
theorem PortTo.same {x y : World} {base b : Nat} {tp : Value} {us : Nat → Value} {R : Nat → List Int} {rd : Bool} {e : Int} (h : PortTo x base b tp us R rd e none y) {g : Nat} (hg : g < x.heap.size) (ho : Off us b g) : y.heap[g]? = x.heap[g]? := by
  obtain ⟨us', h1, us0, rfl, f⟩ := h
  exact f.same g hg ho (by simp)
theorem PortTo.after {x y z : World} {base b : Nat} {tp : Value} {us : Nat → Value} {R : Nat → List Int} {rd : Bool} {e : Int} {o : Option Nat} (hb : base ≤ x.heap.size) (k : Below x.heap.size x y) (h : PortTo y base b tp us R rd e o z) : PortTo x base b tp us R rd e o z := by
  obtain ⟨us', h1, us0, rfl, f⟩ := h
  exact ⟨us', h1, us0, rfl, (Frm.grow hb k).trans f⟩
theorem PortS.offTy {y : World} {base b : Nat} {tp : Value} {us : Nat → Value} {R : Nat → List Int} {rd : Bool} {e : Int} (h : PortS y base b tp us R rd e) {B : Nat} {C : Array Value} {ty : TypeId} {fr : Nat × Nat} (hB : y.heap[B]? = some (.cells C ty fr)) (h1 : ty ≠ 3) (h2 : ty ≠ 66) : Off us b B := by
  refine ⟨fun e => ?_, fun t ht e => OffRow.ne (h.rows t ht) hB h1 e.symm⟩
  subst e
  obtain ⟨cs, hb, _⟩ := h.box
  rw [hb] at hB
  simp at hB
  exact h2 hB.2.1.symm
theorem frm_new {x y z : World} {base b B : Nat} {us us' : Nat → Value} {o : Option Nat} (f : Frm x y base b us us' o) (k : y.grownBy z (some B)) (hB : x.heap.size ≤ B) (hbx : base ≤ x.heap.size) : Frm x z base b us us' o :=
  ⟨f.below.grown k (Nat.le_trans hbx f.below.size) (fun j hj => by cases hj; omega), f.off, fun g hg ho hne => (k.block g (Nat.lt_of_lt_of_le hg f.below.size) (fun e => by cases e; omega)).trans (f.same g hg ho hne)⟩
def portPh (x1 : World) (base b : Nat) (tp : Value) (us : Nat → Value) (R : Nat → List Int) (rd : Bool) (e : Int) : OrdW.Ph x1.drew :=
  ⟨fun c x => (c = true → PortTo x1 base b tp us R rd e none x) ∧ (c = false → Below x1.heap.size x1 x), fun _ _ _ h k => ⟨fun e => (h.1 e).grow k, fun e => (h.2 e).trans (k.mono (h.2 e).size)⟩, fun c x h => by
    cases c
    · exact (h.2 rfl).size
    · exact (h.1 rfl).size⟩
/-- The value of a number in the table. -/
def getAt (O : List Pv) (tag i : Int) : Option Pv := if 0 ≤ i then (Pv.row O tag)[i.toNat]? else none
/-- A value goes through: the rows, the error, the value, whether it is to be taken. -/
def stepV (rd : Bool) (O : List Pv) (R : Nat → List Int) (t : Nat) (v : Pv) (more : Int) (there : Bool) : (Nat → List Int) × Int × Pv × Bool :=
  if rd = true then (match R t with
    | [] => (R, 6, v, false)
    | z :: zs => if more = 1 ∧ z = 0 then (upd R t zs, 0, Pv.zero, true) else (match getAt O v.tag (wrap64 (z - more)) with
      | some u => (upd R t zs, 0, u, true)
      | none => (upd R t zs, 5, Pv.zero, false)))
  else if there = false then (upd R t (R t ++ [0]), 0, v, false)
  else if decide (v ∈ O) = true then (upd R t (R t ++ [wrap64 (Pv.nums O O.length v + more)]), 0, v, false)
  else (R, 8, v, false)
section
variable {x : World} {base b : Nat} {us : Nat → Value} {R : Nat → List Int} {rd : Bool} {e : Int} {tbase tb m n : Nat} {utab : Nat → Value} {O : List Pv}
theorem thr_any (t : Nat) (ht : t < 64) (v : Pv) (more : Int) (there : Bool) (h : PortS x base b (.pointer (some ⟨tb, 0, none⟩)) us R rd 0) (hT : ∀ y, Below base x y → TabOf y tbase tb m n utab O) (hv : v.fitsK) (hl : ∀ t, (R t).length ≤ 1000000) (hok : ∀ v ∈ O, v.chk 0 9 5 = 0) :
    Calls Try.prog 53 #[.pointer (some ⟨b, 0, none⟩), .int .i64 t, vv v, .int .i64 more, .bool there] x (ThrOk x base b (.pointer (some ⟨tb, 0, none⟩)) us (stepV rd O R t v more there).1 rd (stepV rd O R t v more there).2.1 (stepV rd O R t v more there).2.2.1 (stepV rd O R t v more there).2.2.2) := by
  unfold stepV
  cases rd with
  | true =>
    rw [if_pos rfl]
    cases hR : R t with
    | nil => exact thr_end t ht v more there h hT hR
    | cons z zs =>
      have hz : zs.length ≤ 1000000 := by have := hl t; rw [hR, List.length_cons] at this; omega
      dsimp only
      by_cases h1 : more = 1 ∧ z = 0
      · rw [if_pos h1]
        obtain ⟨h1, rfl⟩ := h1
        exact thr_zero t ht v more there zs h1 hz h hT hR
      · rw [if_neg h1]
        cases hg : getAt O v.tag (wrap64 (z - more)) with
        | some u =>
          unfold getAt at hg
          by_cases h0 : 0 ≤ wrap64 (z - more)
          · rw [if_pos h0] at hg
            exact thr_at t ht v more there z zs _ u h1 hz (Int.toNat_of_nonneg h0).symm hg hok h hT hR
          · rw [if_neg h0] at hg; cases hg
        | none =>
          refine thr_out t ht v more there z zs h1 hz ?_ hok h hT hR
          unfold getAt at hg
          by_cases h0 : 0 ≤ wrap64 (z - more)
          · rw [if_pos h0, List.getElem?_eq_none_iff] at hg
            exact .inr (by omega)
          · exact .inl (by omega)
  | false =>
    rw [if_neg (by simp)]
    cases there with
    | false =>
      rw [if_pos rfl]
      exact thr_write t ht v more false h hT hv (hl t) _ _ (.inl ⟨rfl, rfl, rfl⟩)
    | true =>
      rw [if_neg (by simp)]
      by_cases hm : decide (v ∈ O) = true
      · rw [if_pos hm]
        exact thr_write t ht v more true h hT hv (hl t) _ _ (.inr (.inr ⟨rfl, hm, rfl, rfl⟩))
      · rw [if_neg hm]
        exact thr_write t ht v more true h hT hv (hl t) _ _ (.inr (.inl ⟨rfl, by simpa using hm, rfl, rfl⟩))
/-- A text goes through. -/
def stepT (rd : Bool) (O : List Pv) (R : Nat → List Int) (e row tag more : Int) (s : List UInt8) : (Nat → List Int) × Int × List UInt8 :=
  if pe e row true ≠ 0 then (R, pe e row true, s)
  else ((stepV rd O R row.toNat ⟨tag, s, 0, [], [], []⟩ more (more == 0 || !decide (s = []))).1, (stepV rd O R row.toNat ⟨tag, s, 0, [], [], []⟩ more (more == 0 || !decide (s = []))).2.1,
    if (stepV rd O R row.toNat ⟨tag, s, 0, [], [], []⟩ more (more == 0 || !decide (s = []))).2.2.2 = true then (stepV rd O R row.toNat ⟨tag, s, 0, [], [], []⟩ more (more == 0 || !decide (s = []))).2.2.1.text else s)
set_option maxRecDepth 100000 in
set_option maxHeartbeats 4000000 in
theorem ptext_any (row tag more : Int) (s : List UInt8) (g o : Nat) (cs : Array Value) (ty : TypeId) (h : PortS x base b (.pointer (some ⟨tb, 0, none⟩)) us R rd e) (hg : x.heap[g]? = some (.cells cs ty (0, 0))) (hc : cs[o]? = some (.string (bs s))) (ho : Off us b g) (hb : base ≤ g)
    (hT : ∀ y, Below base x y → TabOf y tbase tb m n utab O) (hv : (⟨tag, s, 0, [], [], []⟩ : Pv).fitsK) (hl : ∀ t, (R t).length ≤ 1000000) (hok : ∀ v ∈ O, v.chk 0 9 5 = 0) :
    Calls Try.prog 52 #[.pointer (some ⟨b, 0, none⟩), .int .i64 row, .int .i64 tag, .int .i64 more, .pointer (some ⟨g, o, none⟩)] x (IntOk x base b (.pointer (some ⟨tb, 0, none⟩)) us (stepT rd O R e row tag more s).1 rd (stepT rd O R e row tag more s).2.1 g o cs ty (.string (bs (stepT rd O R e row tag more s).2.2))) := by
  have H := Lib.hid h
  have HG := Lib.hid hg
  have HC := Lib.hid hc
  have HO := Lib.hid ho
  have HP := Lib.hid (open_any row true h)
  have hgz : g < x.heap.size := (Array.getElem?_eq_some_iff.1 hg).1
  have c1 := h.box.tab
  have z1 := h.box.lt
  unfold stepT
  by_cases h0 : pe e row true = 0
  · rw [if_neg (by simp [h0])]
    obtain ⟨he, hr0, hr1, _⟩ := pe_ok h0
    obtain ⟨t, rfl⟩ := Int.eq_ofNat_of_zero_le hr0
    have ht : t < 64 := by omega
    rw [h0] at HP
    subst he
    rw [Int.toNat_natCast]
    have HTH := Lib.hid (fun (y : World) (hy : Below base x y) (us' : Nat → Value) (hp : PortS y base b (.pointer (some ⟨tb, 0, none⟩)) us' R rd 0) (there : Bool) => thr_any t ht ⟨tag, s, 0, [], [], []⟩ more there hp (fun y' hy' => hT y' (hy.trans hy')) hv hl hok)
    clear h hg hc ho hl hT h0
    unfold vv at HTH
    obtain ⟨S1, hS⟩ : ∃ S1, S1 = stepV rd O R t ⟨tag, s, 0, [], [], []⟩ more (more == 0 || !decide (s = [])) := ⟨_, rfl⟩
    rw [← hS]
    have HS := Lib.hid hS.symm
    clear hS
    obtain ⟨R2, e2, v2, ok⟩ := S1
    dsimp only
    go_enter Try.func52, Try.ntmps52
    go_wp2_with fail
    refine HP.out.mono ?_
    rintro ex x1 ⟨rfl, h1, hg1⟩
    have H1 := Lib.hid h1
    have F1 := Lib.hid (Frm.box (o := some g) (us := us) H.out.hb H.out.ble hg1)
    have hg1 := (hg1.block g hgz (fun e => HO.out.1 (Option.some.inj e))).trans HG.out
    have G1 := Lib.hid hg1
    have c2 := ((blk_facts hg1).1 o).trans HC.out
    have z2 := (Array.getElem?_eq_some_iff.1 hg1).1
    clear h1 hg1 HP
    have HK := Lib.hid (show ∀ c y, (portPh x1 base b (.pointer (some ⟨tb, 0, none⟩)) us R2 rd e2).C c y → y.cell? ⟨g, o, none⟩ = some (.string (bs s)) from fun c y hy => by
      cases c with
      | false => exact (World.cell?_of_block ((hy.2 rfl).block g z2)).trans c2
      | true => exact (World.cell?_of_block ((hy.1 rfl).same z2 HO.out)).trans c2)
    have HCL := Lib.hid (show ∀ y, (portPh x1 base b (.pointer (some ⟨tb, 0, none⟩)) us R2 rd e2).C false y → Calls Try.prog 53 #[.pointer (some ⟨b, 0, none⟩), .int .i64 t, .agg #[.int .i64 tag, .string (bs s), .int .u64 0, .string ⟨#[]⟩, .string ⟨#[]⟩, .string ⟨#[]⟩], .int .i64 more, .bool (more == 0 || !decide (s = []))] y fun e z => e = .returned (.tuple #[vv v2, .bool ok]) ∧ (portPh x1 base b (.pointer (some ⟨tb, 0, none⟩)) us R2 rd e2).C true z ∧ y.heap.size ≤ z.heap.size ∧ ∀ B, x1.drew.heap.size ≤ B → B < y.heap.size → z.heap[B]? = y.heap[B]? from fun y hy => by
      have hb1 := hy.2 rfl
      refine (HTH.out y (F1.out.below.trans (hb1.mono H1.out.ble)) us (H1.out.grow hb1) (more == 0 || !decide (s = []))).mono ?_
      rintro e z ⟨rfl, hp⟩
      rw [HS.out] at hp
      rw [HS.out]
      refine ⟨rfl, ⟨fun _ => PortTo.after H1.out.ble hb1 hp, (fun e => by cases e)⟩, hp.size, fun B hB hBz => hp.same hBz (H1.out.off hB)⟩)
    clear HTH c1 z1 hgz
    have hcs : (more == 0) = true ∨ (more == 0) = false := by cases more == 0 <;> simp
    go_upto_region 1 with fail
    rcases hcs with p | p
    · rw [p, Bool.true_or] at HCL
      refine OrdW.wp_region_ord (portPh x1 base b (.pointer (some ⟨tb, 0, none⟩)) us R2 rd e2) 16 21 (by decide) ⟨(fun e => by cases e), fun _ => (Below.refl _ _).drew⟩ (by kernel_rfl) (by kernel_rfl) (fun _ _ d _ _ h => by cases d <;> exact h) ?_
      try simp only [List.take_succ_cons, List.take_zero, List.drop_succ_cons, List.drop_zero]
      repeat (first | (refine OrdW.wpLex_skip (by decide) rfl ?_; simp only [Act.put, List.setIfInBounds_toArray, List.set_cons_zero, List.set_cons_succ]) | (refine OrdW.wpLex_fix (by decide) rfl ?_; intro F hF R hR hne K hK; go_big_quiet_op; first | (go_big_quiet_on; clear hne hR R hF F) | (apply Exists.intro; refine ⟨fun g => ?_, ?_⟩; (((rw [HK.out _ _ g.2.1.cls]; go_simp; first | exact ⟨rfl, rfl⟩ | rfl))); go_big_quiet_on; clear hne hR R hF F)) | (apply OrdW.wpLex_blk (by decide) rfl; (focus (intro c x hx; go_simp; exact ⟨rfl, rfl⟩)); intro B hB; simp only [Act.put, blkVal, List.setIfInBounds_toArray, List.set_cons_zero, List.set_cons_succ]))
      refine OrdW.wpLex_wr rfl rfl 53 #[.pointer (some ⟨b, 0, none⟩), .int .i64 t, .agg #[.int .i64 tag, .string (bs s), .int .u64 0, .string ⟨#[]⟩, .string ⟨#[]⟩, .string ⟨#[]⟩], .int .i64 more, .bool true] (.tuple #[vv v2, .bool ok]) (fun y => by go_simp) (fun y hy _ => HCL.out y hy) ?_
      simp only [Act.put, List.setIfInBounds_toArray, List.set_cons_zero, List.set_cons_succ]
      try simp only [List.take_succ_cons, List.take_zero, List.drop_succ_cons, List.drop_zero]
      repeat (first | (refine OrdW.wpLex_skip (by decide) rfl ?_; simp only [Act.put, List.setIfInBounds_toArray, List.set_cons_zero, List.set_cons_succ]) | (refine OrdW.wpLex_fix (by decide) rfl ?_; intro F hF R hR hne K hK; go_big_quiet_op; first | (go_big_quiet_on; clear hne hR R hF F) | (apply Exists.intro; refine ⟨fun g => ?_, ?_⟩; ((fail)); go_big_quiet_on; clear hne hR R hF F)) | (apply OrdW.wpLex_blk (by decide) rfl; (focus (intro c x hx; go_simp; exact ⟨rfl, rfl⟩)); intro B hB; simp only [Act.put, blkVal, List.setIfInBounds_toArray, List.set_cons_zero, List.set_cons_succ]))
      refine OrdW.wpLex_nil ?_
      intro w3 hw3
      obtain ⟨us', h3, us0, rfl, f3⟩ := hw3.cls.1 rfl
      have F3' := hw3.fact 10 B _ (.inr ⟨rfl, rfl, rfl⟩)
      have hB3 : x1.heap.size ≤ B := F3'.1
      have qB : VBox w3 B Pv.zero := F3'.2
      have hoB := h3.offTy qB (by decide) (by decide)
      obtain ⟨k0, k1, k2, k3, k4, k5⟩ := zero_cells qB
      have j0 := (blk_facts qB).2 0
      have j1 := (blk_facts qB).2 1
      have j2 := (blk_facts qB).2 2
      have j3 := (blk_facts qB).2 3
      have j4 := (blk_facts qB).2 4
      have j5 := (blk_facts qB).2 5
      have hBl := qB.lt
      have H4 := Lib.hid (h3.kept hoB (stored_turned w3 B v2))
      have f4 := frm_new f3 (stored_turned w3 B v2) hB3 H1.out.ble
      have F4 := Lib.hid f4
      have G4 := Lib.hid ((f4.same g z2 HO.out (by simp)).trans G1.out)
      have O4 := Lib.hid (f4.off g z2 HO.out)
      have QB := Lib.hid (vbox_store qB v2)
      clear hw3 h3 f3 f4 F3' qB hoB
      unfold stored at H4 F4 G4 QB
      unfold vv
      go_upto_region 2 with fail
      generalize (((((w3.setCell ⟨B, 0, none⟩ (.int .i64 v2.tag)).setCell ⟨B, 1, none⟩ (.string (bs v2.text))).setCell ⟨B, 2, none⟩ (.int .u64 v2.bits)).setCell ⟨B, 3, none⟩ (.string (bs v2.cls))).setCell ⟨B, 4, none⟩ (.string (bs v2.name))).setCell ⟨B, 5, none⟩ (.string (bs v2.desc)) = w4 at *
      clear k0 k1 k2 k3 k4 k5 j0 j1 j2 j3 j4 j5 hBl HK HCL c2
      have F5 := Lib.hid (F1.out.trans F4.out.lift)
      have hgy := G4.out
      have g1 := (blk_facts hgy).2 o
      have g0 := ((blk_facts hgy).1 o).trans HC.out
      have g2 := (Array.getElem?_eq_some_iff.1 hgy).1
      have g3 : w4.cell? ⟨B, 1, none⟩ = some (.string (bs v2.text)) := QB.out.at_.2.1
      have g4 := QB.out.lt
      have H6 := Lib.hid (H4.out.kept O4.out (heap_turned (o := o) hgy (.string (bs v2.text))))
      have F6 := Lib.hid (F5.out.trans (Frm.cell hb H4.out.ble (heap_turned (o := o) hgy (.string (bs v2.text)))))
      have G6 := Lib.hid (heap_set (o := o) hgy (.string (bs v2.text)))
      clear hgy
      cases ok with
      | true =>
        go_wp2_with fail
        go_end0
        exact ⟨rfl, PortTo.of H6.out F6.out, G6.out⟩
      | false =>
        go_wp2_with fail
        go_end0
        exact ⟨rfl, PortTo.of H4.out F5.out, by rw [set_self HC.out]; exact G4.out⟩
    · rw [p, Bool.false_or] at HCL
      by_cases hs : s = []
      rotate_left
      · rw [decide_eq_false hs, Bool.not_false] at HCL
        have hs2 : ¬ (bs s).toList = [] := fun h => hs (by simpa [bs] using h)
        clear hs
        refine OrdW.wp_region_ord (portPh x1 base b (.pointer (some ⟨tb, 0, none⟩)) us R2 rd e2) 16 21 (by decide) ⟨(fun e => by cases e), fun _ => (Below.refl _ _).drew⟩ (by kernel_rfl) (by kernel_rfl) (fun _ _ d _ _ h => by cases d <;> exact h) ?_
        try simp only [List.take_succ_cons, List.take_zero, List.drop_succ_cons, List.drop_zero]
        repeat (first | (refine OrdW.wpLex_skip (by decide) rfl ?_; simp only [Act.put, List.setIfInBounds_toArray, List.set_cons_zero, List.set_cons_succ]) | (refine OrdW.wpLex_fix (by decide) rfl ?_; intro F hF R hR hne K hK; go_big_quiet_op; first | (go_big_quiet_on; clear hne hR R hF F) | (apply Exists.intro; refine ⟨fun g => ?_, ?_⟩; (((rw [HK.out _ _ g.2.1.cls]; go_simp; first | exact ⟨rfl, rfl⟩ | rfl))); go_big_quiet_on; clear hne hR R hF F)) | (apply OrdW.wpLex_blk (by decide) rfl; (focus (intro c x hx; go_simp; exact ⟨rfl, rfl⟩)); intro B hB; simp only [Act.put, blkVal, List.setIfInBounds_toArray, List.set_cons_zero, List.set_cons_succ]))
        refine OrdW.wpLex_wr rfl rfl 53 #[.pointer (some ⟨b, 0, none⟩), .int .i64 t, .agg #[.int .i64 tag, .string (bs s), .int .u64 0, .string ⟨#[]⟩, .string ⟨#[]⟩, .string ⟨#[]⟩], .int .i64 more, .bool true] (.tuple #[vv v2, .bool ok]) (fun y => by go_simp) (fun y hy _ => HCL.out y hy) ?_
        simp only [Act.put, List.setIfInBounds_toArray, List.set_cons_zero, List.set_cons_succ]
        try simp only [List.take_succ_cons, List.take_zero, List.drop_succ_cons, List.drop_zero]
        repeat (first | (refine OrdW.wpLex_skip (by decide) rfl ?_; simp only [Act.put, List.setIfInBounds_toArray, List.set_cons_zero, List.set_cons_succ]) | (refine OrdW.wpLex_fix (by decide) rfl ?_; intro F hF R hR hne K hK; go_big_quiet_op; first | (go_big_quiet_on; clear hne hR R hF F) | (apply Exists.intro; refine ⟨fun g => ?_, ?_⟩; ((fail)); go_big_quiet_on; clear hne hR R hF F)) | (apply OrdW.wpLex_blk (by decide) rfl; (focus (intro c x hx; go_simp; exact ⟨rfl, rfl⟩)); intro B hB; simp only [Act.put, blkVal, List.setIfInBounds_toArray, List.set_cons_zero, List.set_cons_succ]))
        refine OrdW.wpLex_nil ?_
        intro w3 hw3
        obtain ⟨us', h3, us0, rfl, f3⟩ := hw3.cls.1 rfl
        have F3' := hw3.fact 10 B _ (.inr ⟨rfl, rfl, rfl⟩)
        have hB3 : x1.heap.size ≤ B := F3'.1
        have qB : VBox w3 B Pv.zero := F3'.2
        have hoB := h3.offTy qB (by decide) (by decide)
        obtain ⟨k0, k1, k2, k3, k4, k5⟩ := zero_cells qB
        have j0 := (blk_facts qB).2 0
        have j1 := (blk_facts qB).2 1
        have j2 := (blk_facts qB).2 2
        have j3 := (blk_facts qB).2 3
        have j4 := (blk_facts qB).2 4
        have j5 := (blk_facts qB).2 5
        have hBl := qB.lt
        have H4 := Lib.hid (h3.kept hoB (stored_turned w3 B v2))
        have f4 := frm_new f3 (stored_turned w3 B v2) hB3 H1.out.ble
        have F4 := Lib.hid f4
        have G4 := Lib.hid ((f4.same g z2 HO.out (by simp)).trans G1.out)
        have O4 := Lib.hid (f4.off g z2 HO.out)
        have QB := Lib.hid (vbox_store qB v2)
        clear hw3 h3 f3 f4 F3' qB hoB
        unfold stored at H4 F4 G4 QB
        unfold vv
        go_upto_region 2 with fail
        generalize (((((w3.setCell ⟨B, 0, none⟩ (.int .i64 v2.tag)).setCell ⟨B, 1, none⟩ (.string (bs v2.text))).setCell ⟨B, 2, none⟩ (.int .u64 v2.bits)).setCell ⟨B, 3, none⟩ (.string (bs v2.cls))).setCell ⟨B, 4, none⟩ (.string (bs v2.name))).setCell ⟨B, 5, none⟩ (.string (bs v2.desc)) = w4 at *
        clear k0 k1 k2 k3 k4 k5 j0 j1 j2 j3 j4 j5 hBl HK HCL c2
        have F5 := Lib.hid (F1.out.trans F4.out.lift)
        have hgy := G4.out
        have g1 := (blk_facts hgy).2 o
        have g0 := ((blk_facts hgy).1 o).trans HC.out
        have g2 := (Array.getElem?_eq_some_iff.1 hgy).1
        have g3 : w4.cell? ⟨B, 1, none⟩ = some (.string (bs v2.text)) := QB.out.at_.2.1
        have g4 := QB.out.lt
        have H6 := Lib.hid (H4.out.kept O4.out (heap_turned (o := o) hgy (.string (bs v2.text))))
        have F6 := Lib.hid (F5.out.trans (Frm.cell hb H4.out.ble (heap_turned (o := o) hgy (.string (bs v2.text)))))
        have G6 := Lib.hid (heap_set (o := o) hgy (.string (bs v2.text)))
        clear hgy
        cases ok with
        | true =>
          go_wp2_with fail
          go_end0
          exact ⟨rfl, PortTo.of H6.out F6.out, G6.out⟩
        | false =>
          go_wp2_with fail
          go_end0
          exact ⟨rfl, PortTo.of H4.out F5.out, by rw [set_self HC.out]; exact G4.out⟩
      · rw [decide_eq_true hs, Bool.not_true] at HCL
        have hs2 : (bs s).toList = [] := by rw [hs]; exact bs_list []
        clear hs
        refine OrdW.wp_region_ord (portPh x1 base b (.pointer (some ⟨tb, 0, none⟩)) us R2 rd e2) 16 21 (by decide) ⟨(fun e => by cases e), fun _ => (Below.refl _ _).drew⟩ (by kernel_rfl) (by kernel_rfl) (fun _ _ d _ _ h => by cases d <;> exact h) ?_
        try simp only [List.take_succ_cons, List.take_zero, List.drop_succ_cons, List.drop_zero]
        repeat (first | (refine OrdW.wpLex_skip (by decide) rfl ?_; simp only [Act.put, List.setIfInBounds_toArray, List.set_cons_zero, List.set_cons_succ]) | (refine OrdW.wpLex_fix (by decide) rfl ?_; intro F hF R hR hne K hK; go_big_quiet_op; first | (go_big_quiet_on; clear hne hR R hF F) | (apply Exists.intro; refine ⟨fun g => ?_, ?_⟩; (((rw [HK.out _ _ g.2.1.cls]; go_simp; first | exact ⟨rfl, rfl⟩ | rfl))); go_big_quiet_on; clear hne hR R hF F)) | (apply OrdW.wpLex_blk (by decide) rfl; (focus (intro c x hx; go_simp; exact ⟨rfl, rfl⟩)); intro B hB; simp only [Act.put, blkVal, List.setIfInBounds_toArray, List.set_cons_zero, List.set_cons_succ]))
        refine OrdW.wpLex_wr rfl rfl 53 #[.pointer (some ⟨b, 0, none⟩), .int .i64 t, .agg #[.int .i64 tag, .string (bs s), .int .u64 0, .string ⟨#[]⟩, .string ⟨#[]⟩, .string ⟨#[]⟩], .int .i64 more, .bool false] (.tuple #[vv v2, .bool ok]) (fun y => by go_simp) (fun y hy _ => HCL.out y hy) ?_
        simp only [Act.put, List.setIfInBounds_toArray, List.set_cons_zero, List.set_cons_succ]
        try simp only [List.take_succ_cons, List.take_zero, List.drop_succ_cons, List.drop_zero]
        repeat (first | (refine OrdW.wpLex_skip (by decide) rfl ?_; simp only [Act.put, List.setIfInBounds_toArray, List.set_cons_zero, List.set_cons_succ]) | (refine OrdW.wpLex_fix (by decide) rfl ?_; intro F hF R hR hne K hK; go_big_quiet_op; first | (go_big_quiet_on; clear hne hR R hF F) | (apply Exists.intro; refine ⟨fun g => ?_, ?_⟩; ((fail)); go_big_quiet_on; clear hne hR R hF F)) | (apply OrdW.wpLex_blk (by decide) rfl; (focus (intro c x hx; go_simp; exact ⟨rfl, rfl⟩)); intro B hB; simp only [Act.put, blkVal, List.setIfInBounds_toArray, List.set_cons_zero, List.set_cons_succ]))
        refine OrdW.wpLex_nil ?_
        intro w3 hw3
        obtain ⟨us', h3, us0, rfl, f3⟩ := hw3.cls.1 rfl
        have F3' := hw3.fact 10 B _ (.inr ⟨rfl, rfl, rfl⟩)
        have hB3 : x1.heap.size ≤ B := F3'.1
        have qB : VBox w3 B Pv.zero := F3'.2
        have hoB := h3.offTy qB (by decide) (by decide)
        obtain ⟨k0, k1, k2, k3, k4, k5⟩ := zero_cells qB
        have j0 := (blk_facts qB).2 0
        have j1 := (blk_facts qB).2 1
        have j2 := (blk_facts qB).2 2
        have j3 := (blk_facts qB).2 3
        have j4 := (blk_facts qB).2 4
        have j5 := (blk_facts qB).2 5
        have hBl := qB.lt
        have H4 := Lib.hid (h3.kept hoB (stored_turned w3 B v2))
        have f4 := frm_new f3 (stored_turned w3 B v2) hB3 H1.out.ble
        have F4 := Lib.hid f4
        have G4 := Lib.hid ((f4.same g z2 HO.out (by simp)).trans G1.out)
        have O4 := Lib.hid (f4.off g z2 HO.out)
        have QB := Lib.hid (vbox_store qB v2)
        clear hw3 h3 f3 f4 F3' qB hoB
        unfold stored at H4 F4 G4 QB
        unfold vv
        go_upto_region 2 with fail
        generalize (((((w3.setCell ⟨B, 0, none⟩ (.int .i64 v2.tag)).setCell ⟨B, 1, none⟩ (.string (bs v2.text))).setCell ⟨B, 2, none⟩ (.int .u64 v2.bits)).setCell ⟨B, 3, none⟩ (.string (bs v2.cls))).setCell ⟨B, 4, none⟩ (.string (bs v2.name))).setCell ⟨B, 5, none⟩ (.string (bs v2.desc)) = w4 at *
        clear k0 k1 k2 k3 k4 k5 j0 j1 j2 j3 j4 j5 hBl HK HCL c2
        have F5 := Lib.hid (F1.out.trans F4.out.lift)
        have hgy := G4.out
        have g1 := (blk_facts hgy).2 o
        have g0 := ((blk_facts hgy).1 o).trans HC.out
        have g2 := (Array.getElem?_eq_some_iff.1 hgy).1
        have g3 : w4.cell? ⟨B, 1, none⟩ = some (.string (bs v2.text)) := QB.out.at_.2.1
        have g4 := QB.out.lt
        have H6 := Lib.hid (H4.out.kept O4.out (heap_turned (o := o) hgy (.string (bs v2.text))))
        have F6 := Lib.hid (F5.out.trans (Frm.cell hb H4.out.ble (heap_turned (o := o) hgy (.string (bs v2.text)))))
        have G6 := Lib.hid (heap_set (o := o) hgy (.string (bs v2.text)))
        clear hgy
        cases ok with
        | true =>
          go_wp2_with fail
          go_end0
          exact ⟨rfl, PortTo.of H6.out F6.out, G6.out⟩
        | false =>
          go_wp2_with fail
          go_end0
          exact ⟨rfl, PortTo.of H4.out F5.out, by rw [set_self HC.out]; exact G4.out⟩
  · rw [if_pos h0]
    have p0 : (pe e row true == 0) = false := by simpa using h0
    rw [p0] at HP
    clear h0 p0 h hg hc ho hl hT
    go_enter Try.func52, Try.ntmps52
    go_wp2_with fail
    refine HP.out.mono ?_
    rintro ex x1 ⟨rfl, h1, hg1⟩
    have H1 := Lib.hid h1
    have F1 := Lib.hid (Frm.box (o := some g) (us := us) H.out.hb H.out.ble hg1)
    have G1 := Lib.hid ((hg1.block g hgz (fun e => HO.out.1 (Option.some.inj e))).trans HG.out)
    clear h1 hg1 HP
    go_wp2_with fail
    go_end0
    exact ⟨rfl, PortTo.of H1.out F1.out, by rw [set_self HC.out]; exact G1.out⟩
end
end Go.Proofs.Ytdmiljaiglaacaa

/- The walks of layer 29: texts and values go through. -/
namespace Go.Proofs.Ytdmiljaiglaacaa
open Go.RowKit Go.Maps

theorem fits_text {tag : Int} {s : List UInt8} (h1 : -9223372036854775808 ≤ tag ∧ tag ≤ 9223372036854775807) (h2 : s.length ≤ 140737488355328) : (⟨tag, s, 0, [], [], []⟩ : Pv).fits :=
  ⟨h1, (by show (0 : Nat) < _; decide), h2, by simp, by simp, by simp⟩
section
variable {x : World} {base b : Nat} {us : Nat → Value} {R : Nat → List Int} {rd : Bool} {e : Int} {tbase tb m n : Nat} {utab : Nat → Value} {O : List Pv}
/-- What a pointer's port and a place come with. -/
structure Way (x : World) (base b : Nat) (us : Nat → Value) (R : Nat → List Int) (rd : Bool) (e : Int) (tbase tb m n : Nat) (utab : Nat → Value) (O : List Pv) (g : Nat) (cs : Array Value) (ty : TypeId) : Prop where
  port : PortS x base b (.pointer (some ⟨tb, 0, none⟩)) us R rd e
  heap : x.heap[g]? = some (.cells cs ty (0, 0))
  off : Off us b g
  le : base ≤ g
  tab : ∀ y, Below base x y → TabOf y tbase tb m n utab O
  len : ∀ t, (R t).length ≤ 1000000
  ok : ∀ v ∈ O, v.chk 0 9 5 = 0
theorem Text_any (row : Int) (s : List UInt8) (g o : Nat) (cs : Array Value) (ty : TypeId) (h : Way x base b us R rd e tbase tb m n utab O g cs ty) (hc : cs[o]? = some (.string (bs s))) (hs : s.length ≤ 140737488355328) :
    Calls Try.prog 28 #[.pointer (some ⟨b, 0, none⟩), .int .i64 row, .pointer (some ⟨g, o, none⟩)] x (IntOk x base b (.pointer (some ⟨tb, 0, none⟩)) us (stepT rd O R e row 1 0 s).1 rd (stepT rd O R e row 1 0 s).2.1 g o cs ty (.string (bs (stepT rd O R e row 1 0 s).2.2))) := by
  have HT := Lib.hid (ptext_any row 1 0 s g o cs ty h.port h.heap hc h.off h.le h.tab (fits_text (by decide) hs).k h.len h.ok)
  clear h hc hs
  generalize stepT rd O R e row 1 0 s = q at *
  go_enter Try.func28, Try.ntmps28
  go_wp2_with fail
  refine HT.out.mono ?_
  rintro ex y ⟨rfl, h1, h2⟩
  have H1 := Lib.hid h1
  have H2 := Lib.hid h2
  clear h1 h2 HT
  go_wp2
  go_end0
  exact ⟨rfl, H1.out, H2.out⟩
theorem Maybe_any (row : Int) (s : List UInt8) (g o : Nat) (cs : Array Value) (ty : TypeId) (h : Way x base b us R rd e tbase tb m n utab O g cs ty) (hc : cs[o]? = some (.string (bs s))) (hs : s.length ≤ 140737488355328) :
    Calls Try.prog 29 #[.pointer (some ⟨b, 0, none⟩), .int .i64 row, .pointer (some ⟨g, o, none⟩)] x (IntOk x base b (.pointer (some ⟨tb, 0, none⟩)) us (stepT rd O R e row 1 1 s).1 rd (stepT rd O R e row 1 1 s).2.1 g o cs ty (.string (bs (stepT rd O R e row 1 1 s).2.2))) := by
  have HT := Lib.hid (ptext_any row 1 1 s g o cs ty h.port h.heap hc h.off h.le h.tab (fits_text (by decide) hs).k h.len h.ok)
  clear h hc hs
  generalize stepT rd O R e row 1 1 s = q at *
  go_enter Try.func29, Try.ntmps29
  go_wp2_with fail
  refine HT.out.mono ?_
  rintro ex y ⟨rfl, h1, h2⟩
  have H1 := Lib.hid h1
  have H2 := Lib.hid h2
  clear h1 h2 HT
  go_wp2
  go_end0
  exact ⟨rfl, H1.out, H2.out⟩
theorem Class_any (row : Int) (s : List UInt8) (g o : Nat) (cs : Array Value) (ty : TypeId) (h : Way x base b us R rd e tbase tb m n utab O g cs ty) (hc : cs[o]? = some (.string (bs s))) (hs : s.length ≤ 140737488355328) :
    Calls Try.prog 30 #[.pointer (some ⟨b, 0, none⟩), .int .i64 row, .pointer (some ⟨g, o, none⟩)] x (IntOk x base b (.pointer (some ⟨tb, 0, none⟩)) us (stepT rd O R e row 7 0 s).1 rd (stepT rd O R e row 7 0 s).2.1 g o cs ty (.string (bs (stepT rd O R e row 7 0 s).2.2))) := by
  have HT := Lib.hid (ptext_any row 7 0 s g o cs ty h.port h.heap hc h.off h.le h.tab (fits_text (by decide) hs).k h.len h.ok)
  clear h hc hs
  generalize stepT rd O R e row 7 0 s = q at *
  go_enter Try.func30, Try.ntmps30
  go_wp2_with fail
  refine HT.out.mono ?_
  rintro ex y ⟨rfl, h1, h2⟩
  have H1 := Lib.hid h1
  have H2 := Lib.hid h2
  clear h1 h2 HT
  go_wp2
  go_end0
  exact ⟨rfl, H1.out, H2.out⟩
theorem MaybeClass_any (row : Int) (s : List UInt8) (g o : Nat) (cs : Array Value) (ty : TypeId) (h : Way x base b us R rd e tbase tb m n utab O g cs ty) (hc : cs[o]? = some (.string (bs s))) (hs : s.length ≤ 140737488355328) :
    Calls Try.prog 31 #[.pointer (some ⟨b, 0, none⟩), .int .i64 row, .pointer (some ⟨g, o, none⟩)] x (IntOk x base b (.pointer (some ⟨tb, 0, none⟩)) us (stepT rd O R e row 7 1 s).1 rd (stepT rd O R e row 7 1 s).2.1 g o cs ty (.string (bs (stepT rd O R e row 7 1 s).2.2))) := by
  have HT := Lib.hid (ptext_any row 7 1 s g o cs ty h.port h.heap hc h.off h.le h.tab (fits_text (by decide) hs).k h.len h.ok)
  clear h hc hs
  generalize stepT rd O R e row 7 1 s = q at *
  go_enter Try.func31, Try.ntmps31
  go_wp2_with fail
  refine HT.out.mono ?_
  rintro ex y ⟨rfl, h1, h2⟩
  have H1 := Lib.hid h1
  have H2 := Lib.hid h2
  clear h1 h2 HT
  go_wp2
  go_end0
  exact ⟨rfl, H1.out, H2.out⟩
end
end Go.Proofs.Ytdmiljaiglaacaa

/- The walks of layer 29: a whole value goes through. -/
namespace Go.Proofs.Ytdmiljaiglaacaa
open Go.RowKit Go.Maps

/-- A value that lies from a cell on. -/
def VIn (cs : Array Value) (o : Nat) (v : Pv) : Prop := cs[o]? = some (.int .i64 v.tag) ∧ cs[o + 1]? = some (.string (bs v.text)) ∧ cs[o + 2]? = some (.int .u64 v.bits) ∧ cs[o + 3]? = some (.string (bs v.cls)) ∧ cs[o + 4]? = some (.string (bs v.name)) ∧ cs[o + 5]? = some (.string (bs v.desc))
def vset (cs : Array Value) (o : Nat) (v : Pv) : Array Value :=
  (((((cs.setIfInBounds o (.int .i64 v.tag)).setIfInBounds (o + 1) (.string (bs v.text))).setIfInBounds (o + 2) (.int .u64 v.bits)).setIfInBounds (o + 3) (.string (bs v.cls))).setIfInBounds (o + 4) (.string (bs v.name))).setIfInBounds (o + 5) (.string (bs v.desc))
theorem vset_self {cs : Array Value} {o : Nat} {v : Pv} (h : VIn cs o v) : vset cs o v = cs := by
  obtain ⟨h0, h1, h2, h3, h4, h5⟩ := h
  unfold vset
  rw [set_self h0, set_self h1, set_self h2, set_self h3, set_self h4, set_self h5]
def storedAt (w : World) (g o : Nat) (v : Pv) : World :=
  (((((w.setCell ⟨g, o, none⟩ (.int .i64 v.tag)).setCell ⟨g, o + 1, none⟩ (.string (bs v.text))).setCell ⟨g, o + 2, none⟩ (.int .u64 v.bits)).setCell ⟨g, o + 3, none⟩ (.string (bs v.cls))).setCell ⟨g, o + 4, none⟩ (.string (bs v.name))).setCell ⟨g, o + 5, none⟩ (.string (bs v.desc))
theorem storedAt_turned (w : World) (g o : Nat) (v : Pv) : w.grownBy (storedAt w g o v) (some g) :=
  grown_same (grown_same (grown_same (grown_same (grown_same (setCell_turned w g o _) (setCell_turned _ g (o + 1) _)) (setCell_turned _ g (o + 2) _)) (setCell_turned _ g (o + 3) _)) (setCell_turned _ g (o + 4) _)) (setCell_turned _ g (o + 5) _)
theorem storedAt_heap {w : World} {g o : Nat} {cs : Array Value} {ty : TypeId} {fr : Nat × Nat} (h : w.heap[g]? = some (.cells cs ty fr)) (v : Pv) : (storedAt w g o v).heap[g]? = some (.cells (vset cs o v) ty fr) :=
  heap_set (heap_set (heap_set (heap_set (heap_set (heap_set h _) _) _) _) _) _
/-- A value goes through. -/
def stepY (rd : Bool) (O : List Pv) (R : Nat → List Int) (e row tag : Int) (v : Pv) : (Nat → List Int) × Int × Pv :=
  if pe e row true ≠ 0 then (R, pe e row true, v)
  else ((stepV rd O R row.toNat (if rd = true then ⟨tag, [], 0, [], [], []⟩ else v) 0 true).1, (stepV rd O R row.toNat (if rd = true then ⟨tag, [], 0, [], [], []⟩ else v) 0 true).2.1,
    if (stepV rd O R row.toNat (if rd = true then ⟨tag, [], 0, [], [], []⟩ else v) 0 true).2.2.2 = true then (stepV rd O R row.toNat (if rd = true then ⟨tag, [], 0, [], [], []⟩ else v) 0 true).2.2.1 else v)
section
variable {x : World} {base b : Nat} {us : Nat → Value} {R : Nat → List Int} {rd : Bool} {e : Int} {tbase tb m n : Nat} {utab : Nat → Value} {O : List Pv}
set_option maxRecDepth 100000 in
set_option maxHeartbeats 4000000 in
theorem Value_any (row tag : Int) (v : Pv) (g o : Nat) (cs : Array Value) (ty : TypeId) (h : Way x base b us R rd e tbase tb m n utab O g cs ty) (hc : VIn cs o v) (hv : v.fits) (ht : I64 tag) :
    Calls Try.prog 32 #[.pointer (some ⟨b, 0, none⟩), .int .i64 row, .int .i64 tag, .pointer (some ⟨g, o, none⟩)] x fun ex y => ex = .returned (.tuple #[]) ∧ PortTo x base b (.pointer (some ⟨tb, 0, none⟩)) us (stepY rd O R e row tag v).1 rd (stepY rd O R e row tag v).2.1 (some g) y ∧ y.heap[g]? = some (.cells (vset cs o (stepY rd O R e row tag v).2.2) ty (0, 0)) := by
  have H := Lib.hid h.port
  have HG := Lib.hid h.heap
  have HC := Lib.hid hc
  have HO := Lib.hid h.off
  have HLE := h.le
  have HP := Lib.hid (open_any row true h.port)
  have hgz : g < x.heap.size := (Array.getElem?_eq_some_iff.1 h.heap).1
  have c1 := h.port.box.tab
  have z1 := h.port.box.lt
  unfold stepY
  by_cases h0 : pe e row true = 0
  · rw [if_neg (by simp [h0])]
    obtain ⟨he, hr0, hr1, _⟩ := pe_ok h0
    obtain ⟨t, rfl⟩ := Int.eq_ofNat_of_zero_le hr0
    have htl : t < 64 := by omega
    rw [h0] at HP
    subst he
    rw [Int.toNat_natCast]
    have HV0 := Lib.hid (show (if rd = true then (⟨tag, [], 0, [], [], []⟩ : Pv) else v).fitsK from by
      split
      · exact (fits_text ht (by simp)).k
      · exact hv.k)
    have HTH := Lib.hid (fun (y : World) (hy : Below base x y) (us' : Nat → Value) (hp : PortS y base b (.pointer (some ⟨tb, 0, none⟩)) us' R rd 0) => thr_any t htl _ 0 true hp (fun y' hy' => h.tab y' (hy.trans hy')) HV0.out h.len h.ok)
    obtain ⟨v0, hv0⟩ : ∃ v0, v0 = (if rd = true then (⟨tag, [], 0, [], [], []⟩ : Pv) else v) := ⟨_, rfl⟩
    rw [← hv0] at HTH ⊢
    obtain ⟨S1, hS⟩ : ∃ S1, S1 = stepV rd O R t v0 0 true := ⟨_, rfl⟩
    rw [← hS] at HTH ⊢
    obtain ⟨R2, e2, v2, ok⟩ := S1
    dsimp only at HTH ⊢
    have HV := Lib.hid hv0
    clear hc h0 hv0 hS h HV0
    go_enter Try.func32, Try.ntmps32
    go_wp2_with fail
    refine HP.out.mono ?_
    rintro ex x1 ⟨rfl, h1, hg1⟩
    have H1 := Lib.hid h1
    have F1 := Lib.hid (Frm.box (o := some g) (us := us) H.out.hb H.out.ble hg1)
    have hg1 := (hg1.block g hgz (fun e => HO.out.1 (Option.some.inj e))).trans HG.out
    have G1 := Lib.hid hg1
    have z2 := (Array.getElem?_eq_some_iff.1 hg1).1
    have k2 := Lib.hid ((Below.refl x1.heap.size x1).alloc (Nat.le_refl _) (vcells v0))
    have q2 := Lib.hid (show VBox (x1.alloc (vcells v0)) x1.heap.size v0 from heap_alloc_new _ _)
    obtain ⟨e0, e1, e2', e3, e4, e5⟩ := HC.out
    have b0 := ((blk_facts hg1).1 o).trans e0
    have b1 := ((blk_facts hg1).1 (o + 1)).trans e1
    have b2 := ((blk_facts hg1).1 (o + 2)).trans e2'
    have b3 := ((blk_facts hg1).1 (o + 3)).trans e3
    have b4 := ((blk_facts hg1).1 (o + 4)).trans e4
    have b5 := ((blk_facts hg1).1 (o + 5)).trans e5
    clear e0 e1 e2' e3 e4 e5
    have c3 := h1.box.isr
    have z3 := h1.box.lt
    clear h1 hg1 HP
    cases rd with
    | true =>
      go_upto_region 4 with fail
      rw [show x1.alloc (.cells #[.int .i64 tag, .string ⟨#[]⟩, .int .u64 0, .string ⟨#[]⟩, .string ⟨#[]⟩, .string ⟨#[]⟩] 28) = x1.alloc (vcells v0) from by rw [HV.out]; rfl]
      have d := q2.out.at_
      obtain ⟨d0, d1, d2, d3, d4, d5⟩ := d
      have z4 := q2.out.lt
      have hg2 := (k2.out.block g z2).trans G1.out
      have OA := Lib.hid (H1.out.off (Nat.le_refl x1.heap.size))
      clear b0 b1 b2 b3 b4 b5 c3 z3
      generalize x1.alloc (vcells v0) = W2 at *
      have HTC := Lib.hid (HTH.out W2 (F1.out.below.trans (k2.out.mono H1.out.ble)) us (H1.out.grow k2.out))
      unfold vv at HTC
      clear HTH
      go_wp2_with fail
      refine HTC.out.mono ?_
      rintro ex w3 ⟨rfl, us', h3, us0, rfl, f3⟩
      have H3 := Lib.hid h3
      have F3 := Lib.hid ((Frm.grow H1.out.ble k2.out).trans f3)
      have G3 := Lib.hid ((f3.same g (Nat.lt_of_lt_of_le z2 k2.out.size) HO.out (by simp)).trans hg2)
      have k4 := Lib.hid ((Below.refl w3.heap.size w3).alloc (Nat.le_refl _) (vcells v2))
      have q4 := Lib.hid (show VBox (w3.alloc (vcells v2)) w3.heap.size v2 from heap_alloc_new _ _)
      have H4 := Lib.hid (h3.grow k4.out)
      have F4 := Lib.hid (F3.out.trans (Frm.grow h3.ble k4.out))
      have G4 := Lib.hid ((k4.out.block g (Array.getElem?_eq_some_iff.1 G3.out).1).trans G3.out)
      clear h3 f3 hg2 d0 d1 d2 d3 d4 d5 z4 HTC
      unfold vv
      go_upto_region 5 with fail
      rw [show w3.alloc (.cells #[.int .i64 v2.tag, .string (bs v2.text), .int .u64 v2.bits, .string (bs v2.cls), .string (bs v2.name), .string (bs v2.desc)] 28) = w3.alloc (vcells v2) from rfl]
      generalize w3.alloc (vcells v2) = w4 at *
      obtain ⟨d0, d1, d2, d3, d4, d5⟩ := q4.out.at_
      have z4 := q4.out.lt
      have hgy := G4.out
      have z5 := (Array.getElem?_eq_some_iff.1 hgy).1
      obtain ⟨e0, e1, e2', e3, e4, e5⟩ := HC.out
      have b0 := ((blk_facts hgy).1 o).trans e0
      have b1 := ((blk_facts hgy).1 (o + 1)).trans e1
      have b2 := ((blk_facts hgy).1 (o + 2)).trans e2'
      have b3 := ((blk_facts hgy).1 (o + 3)).trans e3
      have b4 := ((blk_facts hgy).1 (o + 4)).trans e4
      have b5 := ((blk_facts hgy).1 (o + 5)).trans e5
      have j0 := (blk_facts hgy).2 o
      have j1 := (blk_facts hgy).2 (o + 1)
      have j2 := (blk_facts hgy).2 (o + 2)
      have j3 := (blk_facts hgy).2 (o + 3)
      have j4 := (blk_facts hgy).2 (o + 4)
      have j5 := (blk_facts hgy).2 (o + 5)
      clear hgy e0 e1 e2' e3 e4 e5
      have F5 := Lib.hid (F1.out.trans F4.out.lift)
      cases ok with
      | true =>
        have O4 := Lib.hid (F4.out.off g z2 HO.out)
        have H6 := Lib.hid (H4.out.kept O4.out (storedAt_turned w4 g o v2))
        have F6 := Lib.hid (F5.out.trans (Frm.cell HLE H4.out.ble (storedAt_turned w4 g o v2)))
        have G6 := Lib.hid (storedAt_heap (o := o) G4.out v2)
        go_wp2_with fail
        unfold storedAt at H6 F6 G6
        go_end0
        exact ⟨rfl, PortTo.of H6.out F6.out, G6.out⟩
      | false =>
        go_wp2_with fail
        go_end0
        exact ⟨rfl, PortTo.of H4.out F5.out, by rw [vset_self HC.out]; exact G4.out⟩
    | false =>
      go_upto_region 4 with fail
      rw [show x1.alloc (.cells #[.int .i64 v.tag, .string (bs v.text), .int .u64 v.bits, .string (bs v.cls), .string (bs v.name), .string (bs v.desc)] 28) = x1.alloc (vcells v0) from by rw [HV.out]; rfl]
      have d := q2.out.at_
      obtain ⟨d0, d1, d2, d3, d4, d5⟩ := d
      have z4 := q2.out.lt
      have hg2 := (k2.out.block g z2).trans G1.out
      have OA := Lib.hid (H1.out.off (Nat.le_refl x1.heap.size))
      clear b0 b1 b2 b3 b4 b5 c3 z3
      generalize x1.alloc (vcells v0) = W2 at *
      have HTC := Lib.hid (HTH.out W2 (F1.out.below.trans (k2.out.mono H1.out.ble)) us (H1.out.grow k2.out))
      unfold vv at HTC
      clear HTH
      go_wp2_with fail
      refine HTC.out.mono ?_
      rintro ex w3 ⟨rfl, us', h3, us0, rfl, f3⟩
      have H3 := Lib.hid h3
      have F3 := Lib.hid ((Frm.grow H1.out.ble k2.out).trans f3)
      have G3 := Lib.hid ((f3.same g (Nat.lt_of_lt_of_le z2 k2.out.size) HO.out (by simp)).trans hg2)
      have k4 := Lib.hid ((Below.refl w3.heap.size w3).alloc (Nat.le_refl _) (vcells v2))
      have q4 := Lib.hid (show VBox (w3.alloc (vcells v2)) w3.heap.size v2 from heap_alloc_new _ _)
      have H4 := Lib.hid (h3.grow k4.out)
      have F4 := Lib.hid (F3.out.trans (Frm.grow h3.ble k4.out))
      have G4 := Lib.hid ((k4.out.block g (Array.getElem?_eq_some_iff.1 G3.out).1).trans G3.out)
      clear h3 f3 hg2 d0 d1 d2 d3 d4 d5 z4 HTC
      unfold vv
      go_upto_region 5 with fail
      rw [show w3.alloc (.cells #[.int .i64 v2.tag, .string (bs v2.text), .int .u64 v2.bits, .string (bs v2.cls), .string (bs v2.name), .string (bs v2.desc)] 28) = w3.alloc (vcells v2) from rfl]
      generalize w3.alloc (vcells v2) = w4 at *
      obtain ⟨d0, d1, d2, d3, d4, d5⟩ := q4.out.at_
      have z4 := q4.out.lt
      have hgy := G4.out
      have z5 := (Array.getElem?_eq_some_iff.1 hgy).1
      obtain ⟨e0, e1, e2', e3, e4, e5⟩ := HC.out
      have b0 := ((blk_facts hgy).1 o).trans e0
      have b1 := ((blk_facts hgy).1 (o + 1)).trans e1
      have b2 := ((blk_facts hgy).1 (o + 2)).trans e2'
      have b3 := ((blk_facts hgy).1 (o + 3)).trans e3
      have b4 := ((blk_facts hgy).1 (o + 4)).trans e4
      have b5 := ((blk_facts hgy).1 (o + 5)).trans e5
      have j0 := (blk_facts hgy).2 o
      have j1 := (blk_facts hgy).2 (o + 1)
      have j2 := (blk_facts hgy).2 (o + 2)
      have j3 := (blk_facts hgy).2 (o + 3)
      have j4 := (blk_facts hgy).2 (o + 4)
      have j5 := (blk_facts hgy).2 (o + 5)
      clear hgy e0 e1 e2' e3 e4 e5
      have F5 := Lib.hid (F1.out.trans F4.out.lift)
      cases ok with
      | true =>
        have O4 := Lib.hid (F4.out.off g z2 HO.out)
        have H6 := Lib.hid (H4.out.kept O4.out (storedAt_turned w4 g o v2))
        have F6 := Lib.hid (F5.out.trans (Frm.cell HLE H4.out.ble (storedAt_turned w4 g o v2)))
        have G6 := Lib.hid (storedAt_heap (o := o) G4.out v2)
        go_wp2_with fail
        unfold storedAt at H6 F6 G6
        go_end0
        exact ⟨rfl, PortTo.of H6.out F6.out, G6.out⟩
      | false =>
        go_wp2_with fail
        go_end0
        exact ⟨rfl, PortTo.of H4.out F5.out, by rw [vset_self HC.out]; exact G4.out⟩
  · rw [if_pos h0]
    have p0 : (pe e row true == 0) = false := by simpa using h0
    rw [p0] at HP
    clear h0 p0 h hc
    go_enter Try.func32, Try.ntmps32
    go_wp2_with fail
    refine HP.out.mono ?_
    rintro ex x1 ⟨rfl, h1, hg1⟩
    have H1 := Lib.hid h1
    have F1 := Lib.hid (Frm.box (o := some g) (us := us) H.out.hb H.out.ble hg1)
    have G1 := Lib.hid ((hg1.block g hgz (fun e => HO.out.1 (Option.some.inj e))).trans HG.out)
    clear h1 hg1 HP
    go_wp2_with fail
    refine bodyPost_ret (results_none rfl _ _ _) rfl ?_
    exact ⟨rfl, PortTo.of H1.out F1.out, by rw [vset_self HC.out]; exact G1.out⟩
end
end Go.Proofs.Ytdmiljaiglaacaa
