/- append onto a row of values: the row as it was told before still reads as it did. -/
import Derived.Test.YtimheacdaafodaaAny
import Derived.Test.YtimheacdaafodaaPBytes
import Derived.Test.YtimheacdaafodaaPool
import Derived.Test.YtimheacdaafodaaOrdC
namespace Go.Proofs.Ytimheacdaafodaa
open Go.RowKit Go.Maps

theorem run_append_keep {P : Program} (w : World) (t tx ty e : TypeId) (base : Nat) (i : TypeInfo) (z : Value) (size bytes : Nat) (ht : P.underlying t = some (.slice e)) (hi : P.info? e = some i) (hz : i.zero = some z)
    (hsize : i.size = size) (hby : i.bytes = bytes) (hzs : z.cells.size = size)
    (v : Value) (n : Nat) (xs : List Value) (hown : w.ownsRow base e size v n xs) (x : Value) (m : Nat) (news : List Value) (hs : Src P size tx x m news w)
    (h63 : n + m ≤ maxLen) (hbytes : (n + m) * bytes ≤ 140737488355328) (hbase : base ≤ w.heap.size) :
    ∃ v' w', (Builtin.append_ #[t, tx] ty #[v, x]).run P w = .ok v' w' ∧ w'.ownsRow base e size v' (n + m) (xs ++ news) ∧ Hop w w' v.ownBlock v'.ownBlock ∧ w'.ownsRow base e size v n xs := by
  subst hsize hby
  have hmax : ((n + m : Nat) : Int) ≤ 9223372036854775807 := by unfold maxLen at h63; omega
  have hlen : (xs ++ news).length = (n + m) * i.size := by rw [List.length_append, hown.1, hs.newsLen, Nat.add_mul]
  have new : ∀ (old : Nat) (o : Option Nat), old < n + m →
      (w.drew.alloc (.cells ((xs ++ news).toArray ++ Builtin.zeroCells z.cells (grownCap w (n + m) old e - (n + m))) e)).ownsRow base e i.size (.slice (some ⟨w.heap.size, 0, none⟩) (n + m) (grownCap w (n + m) old e)) (n + m) (xs ++ news) ∧
      Hop w (w.drew.alloc (.cells ((xs ++ news).toArray ++ Builtin.zeroCells z.cells (grownCap w (n + m) old e - (n + m))) e)) o (some w.heap.size) := by
    intro old o ho
    refine ⟨⟨hlen, .inr ⟨w.heap.size, _, _, rfl, hbase, heap_alloc_new w.drew _, grownCap_ge w (n + m) old e, grownCap_le_maxLen w (n + m) old e h63, ?_, ?_⟩⟩, ⟨rfl, rfl, rfl, by simp, fun k hk _ => heap_alloc_old w.drew _ hk⟩, .inr ⟨_, Nat.le_refl _, rfl⟩⟩
    · have := grownCap_ge w (n + m) old e
      simp only [Array.size_append, List.size_toArray, size_zeroCells, hzs, hlen, ← Nat.add_mul]
      congr 1
      omega
    · simp only [Array.toList_append]
      rw [← hlen]
      exact List.take_left
  have still : ∀ c, (w.drew.alloc c).ownsRow base e i.size v n xs := fun c => own_below hown (((Below.refl w.heap.size w).drew).alloc (Nat.le_refl _) c)
  have hfit : ∀ old, old < n + m → Builtin.nextslicecap (n + m) old * i.bytes ≤ 281474976710656 := fun old ho => growslice_fits ho hbytes
  have hown0 := hown
  rcases hown.2 with ⟨rfl, rfl⟩ | ⟨g, cap, cur, rfl, hbg, hg, hnc, hcm, hcs, htake⟩
  · have hx : xs = [] := List.eq_nil_of_length_eq_zero (by simpa using hown.1)
    subst hx
    by_cases hm : m = 0
    · subst hm
      have hn : news = [] := List.eq_nil_of_length_eq_zero (by simpa using hs.newsLen)
      subst hn
      exact ⟨_, _, run_append_nothing w t tx ty e i ht hi none 0 0 (Nat.le_refl _) x hs, World.ownsRow_nil w base e i.size, Hop.refl _ _, hown0⟩
    · have hr := run_append_grow_src (P := P) w t tx ty e i z ht hi hz none 0 0 [] (run_firstCells_none w.drew i.size 0 0 0) x m news hs (by omega) hmax (by have := hfit 0 (by omega); simpa using this)
      obtain ⟨h1, h2⟩ := new 0 (Value.ownBlock (.slice none 0 0)) (by omega)
      exact ⟨_, _, hr, h1, h2, still _⟩
  · by_cases hroom : n + m ≤ cap
    · have hspan : n * i.size + news.length ≤ cur.size := by
        rw [hs.newsLen, hcs, ← Nat.add_mul]; exact Nat.mul_le_mul_right _ hroom
      have hcell : ∀ j, w.cell? ⟨g, j, none⟩ = cur[j]? := fun j => cell_of_row w g j cur e (0, 0) hg
      have hr := run_append_room_src (P := P) w t tx ty e i ht hi g 0 n cap x m news hs hroom (fun j hj => by rw [hcell]; simp; omega) (fun j hj => by simp [World.frozen?, hg])
      rw [Nat.zero_add, setCells_eq_setRow g e (0, 0) news (n * i.size) w cur hg hspan] at hr
      have hsz : (cur.toList.take (n * i.size) ++ news ++ cur.toList.drop (n * i.size + news.length)).toArray.size = cap * i.size := by
        simp only [List.size_toArray, List.length_append, List.length_take, List.length_drop, Array.length_toList]
        rw [Nat.min_eq_left (by omega)]
        rw [← hcs]; omega
      refine ⟨_, _, hr, ⟨hlen, .inr ⟨g, cap, _, rfl, hbg, setRow_heap w g cur _ e (0, 0) hg, hroom, hcm, hsz, ?_⟩⟩, ⟨⟨rfl, rfl, rfl, by simp, fun k _ hne => setRow_other w g k _ (fun hh => hne (by rw [hh]; rfl))⟩, .inl rfl⟩, ⟨hown.1, .inr ⟨g, cap, _, rfl, hbg, setRow_heap w g cur _ e (0, 0) hg, hnc, hcm, hsz, ?_⟩⟩⟩
      · rw [htake]
        show (xs ++ news ++ _).take _ = _
        rw [← hlen]
        exact List.take_left
      · rw [htake]
        show (xs ++ news ++ _).take _ = _
        rw [List.append_assoc, ← hown.1]
        exact List.take_left
    · have hold : (Builtin.firstCells i.size n (.slice (some ⟨g, 0, none⟩) n cap)).run P w.drew = .ok xs.toArray w.drew := by
        refine run_firstCells_some (P := P) w.drew i.size n ⟨g, 0, none⟩ n cap xs hown.1 fun j u hj => ?_
        have := hown.cells (g := g) rfl j u hj
        simpa using this
      have hr := run_append_grow_src (P := P) w t tx ty e i z ht hi hz (some ⟨g, 0, none⟩) n cap xs hold x m news hs (by omega) hmax (hfit cap (by omega))
      obtain ⟨h1, h2⟩ := new cap (Value.ownBlock (.slice (some ⟨g, 0, none⟩) n cap)) (by omega)
      exact ⟨_, _, hr, h1, h2, still _⟩
theorem wpList_appVK {w : World} {ops : Array Oper} {rest : List Oper} {o : Oper} {a : Act} {Q : Exit → Act → World → Prop} (hgd : o.guard = none) (s x : Operand)
    (ho : o.op = .call { callee := .builtin .append, args := #[s, x], argTypes := #[22, 22] })
    (base : Nat) (v : Value) (xs : List Pv) (hv : a.eval s = v) (hown : VRow w base v xs) (X : Value) (ys : List Pv) (hX : a.eval x = X)
    (hs : Src Try.prog 6 22 X ys.length (vc ys) w) (hn : xs.length + ys.length ≤ 1000000000000) (hbase : base ≤ w.heap.size)
    (h : ∀ v' w', VRow w' base v' (xs ++ ys) → Hop w w' v.ownBlock v'.ownBlock → VRow w' base v xs → wpList Try.prog ops Q rest (a.put o.dst v') w') : wpList Try.prog ops Q (o :: rest) a w := by
  obtain ⟨i0, hi, hz0, hz1, hz2⟩ := info_parts infoVal
  exact wpList_plain hgd fun _ hK => by
    obtain ⟨v', w', hr, h2, h3, h4⟩ := run_append_keep w 22 22 o.type 25 base i0 _ 6 80 Try.underlying22 hi hz0 hz1 hz2 rfl v _ _ hown X ys.length (vc ys) hs (by unfold maxLen; omega) (by omega) hbase
    unfold Oper.wp execOp
    simp only [ho, resolve, invoke, builtin, Sem.run_bind, Sem.run_pure, Result.andThen_ok, List.map_toArray, List.map_cons, List.map_nil, hv, hX, hr]
    exact hK _ _ (h v' w' (VRow.app h2 rfl) h3 h4)
theorem PoolS.lower {x : World} {base b' b m n : Nat} {u : Value} {O : List Pv} (h : PoolS x base b u m n O) (hb : b' ≤ base) : PoolS x b' b u m n O :=
  ⟨h.box, h.row.lower hb, h.num, Nat.le_trans hb h.hb, Nat.le_trans hb h.hm, h.hn⟩
/-- What is known of constants, and of bytes, that a call returns. -/
def RF (L : List Rw) (ω : OrdC.Out) : Prop := ω.got = true ∧ ∃ A c, ω.v = .slice A L.length c ∧ ∀ y : World, y.heap[ω.B]? = some ω.obj → Raws y A c L
def BF (l : List UInt8) (ω : OrdC.Out) : Prop := ω.got = true ∧ ∃ A c, ω.v = .slice A l.length c ∧ ∀ y : World, y.heap[ω.B]? = some ω.obj → BAt y A c l
theorem rrow_out {w : World} {base : Nat} {v : Value} {L : List Rw} (h : RRow w base v L) (hL : L ≠ []) : ∃ ω : OrdC.Out, v = ω.v ∧ (base ≤ ω.B ∧ w.heap[ω.B]? = some ω.obj) ∧ RF L ω := by
  rcases h.2 with ⟨rfl, hn⟩ | ⟨g, cap, cur, rfl, h1, h2, h3, h4⟩
  · exact absurd (List.eq_nil_of_length_eq_zero hn) hL
  · refine ⟨⟨g, _, .cells cur 49 (0, 0), true⟩, rfl, ⟨h1, h2⟩, rfl, some ⟨g, 0, none⟩, cap, rfl, fun y hy => ?_⟩
    have hb : RRow y base (.slice (some ⟨g, 0, none⟩) L.length cap) L := ⟨h.1, .inr ⟨g, cap, cur, rfl, h1, hy, h3, h4⟩⟩
    exact hb.vals
theorem brow_out {w : World} {base : Nat} {v : Value} {l : List UInt8} (h : BRow w base 5 v l) (hl : l ≠ []) : ∃ ω : OrdC.Out, v = ω.v ∧ (base ≤ ω.B ∧ w.heap[ω.B]? = some ω.obj) ∧ BF l ω := by
  rcases h.2 with ⟨rfl, hn⟩ | ⟨g, cap, cur, rfl, h1, h2, h3, h4⟩
  · exact absurd (List.eq_nil_of_length_eq_zero hn) hl
  · refine ⟨⟨g, _, .cells cur 5 (0, 0), true⟩, rfl, ⟨h1, h2⟩, rfl, some ⟨g, 0, none⟩, cap, rfl, fun y hy => ?_⟩
    have hb : BRow y base 5 (.slice (some ⟨g, 0, none⟩) l.length cap) l := ⟨h.1, .inr ⟨g, cap, cur, rfl, h1, hy, h3, h4⟩⟩
    obtain ⟨A, c, e, hA⟩ := hb.at_
    injection e with e1 _ e2
    subst e1 e2
    exact hA
namespace OrdC
variable {fr : Oper → Nat} {Ψ : Oper → Out → Prop} {P : Program} {ops : Array Oper} {Q : Exit → Act → World → Prop} {w0 : World} {E : Env} {tail rest : List Oper} {o : Oper} {a : Act}
theorem lex_call (hs : sp fr o = 2) (hw : Region.wanted o (yielded ops a.tmps) = true) (f : FuncId) (args : Array Value) (hrun : ∀ x, Cl w0 (E.only ops o) x → (execOp a.eval o).run P x = .ok (.enter f args) x)
    (hc : ∀ x, Cl w0 (E.only ops o) x → Calls P f args x fun e y => ∃ ω : Out, e = .returned ω.v ∧ Below x.heap.size x y ∧ (ω.got = true → w0.heap.size ≤ ω.B ∧ y.heap[ω.B]? = some ω.obj) ∧ Ψ o ω)
    (h : ∀ ω : Out, Ψ o ω → wpLex fr Ψ P ops Q w0 tail rest (if ω.got then E.upd o.dst ω.B ω.obj else E) (a.put o.dst ω.v)) : wpLex fr Ψ P ops Q w0 tail (o :: rest) E a :=
  fun _ => ⟨.call, ⟨hs, hw, fun x hx => ⟨f, args, hrun x hx, hc x hx⟩⟩, fun ω hω => h ω hω.1⟩
theorem lex_val (hna : sp fr o = 0) (hw : Region.wanted o (yielded ops a.tmps) = true) (v : Value) (hrun : ∀ x, Cl w0 (E.only ops o) x → (execOp a.eval o).run P x = .ok (.value v) x)
    (h : wpLex fr Ψ P ops Q w0 tail rest E (a.put o.dst v)) : wpLex fr Ψ P ops Q w0 tail (o :: rest) E a :=
  fun _ => ⟨.val v, ⟨hna, .inl ⟨hw, fun x hx => by unfold Oper.quietAt; rw [hrun x hx]; exact ⟨rfl, rfl⟩⟩⟩, fun _ _ => h⟩
theorem lex_callv (hna : sp fr o = 0) (hw : Region.wanted o (yielded ops a.tmps) = true) (f : FuncId) (args : Array Value) (v : Value) (hrun : ∀ x, Cl w0 (E.only ops o) x → (execOp a.eval o).run P x = .ok (.enter f args) x)
    (hc : ∀ x, Cl w0 (E.only ops o) x → Calls P f args x fun e y => e = .returned v ∧ Below x.heap.size x y)
    (h : wpLex fr Ψ P ops Q w0 tail rest E (a.put o.dst v)) : wpLex fr Ψ P ops Q w0 tail (o :: rest) E a :=
  fun _ => ⟨.val v, ⟨hna, .inl ⟨hw, fun x hx => by unfold Oper.quietAt; rw [hrun x hx]; exact ⟨rfl, hc x hx⟩⟩⟩, fun _ _ => h⟩
end OrdC
/-- The calls, as they are told. -/
theorem raw_told {w0 x : World} (hb : Below w0.heap.size w0 x) {base b m n : Nat} {u : Value} {O : List Pv} (hp : PoolS w0 base b u m n O) (hn : O.length ≤ 100000) (hf : ∀ v ∈ O, v.fits) :
    Calls Try.prog 11 #[.pointer (some ⟨b, 0, none⟩)] x fun e y => ∃ ω : OrdC.Out, e = .returned ω.v ∧ Below x.heap.size x y ∧ (ω.got = true → w0.heap.size ≤ ω.B ∧ y.heap[ω.B]? = some ω.obj) ∧ RF (Pv.raws O) ω := by
  refine (praw_any base b m n u O x (hp.grow hb) hn hf).mono ?_
  rintro e y ⟨v, rfl, hr, hb2⟩
  obtain ⟨ω, h1, h2, h3⟩ := rrow_out hr (by unfold Pv.raws; simp)
  exact ⟨ω, by rw [h1], hb2, fun _ => ⟨Nat.le_trans hb.size h2.1, h2.2⟩, h3⟩
theorem same_told {x : World} {L : List Rw} {ω1 ω2 : OrdC.Out} (h1 : RF L ω1) (h2 : RF L ω2) (e1 : x.heap[ω1.B]? = some ω1.obj) (e2 : x.heap[ω2.B]? = some ω2.obj) (hn : L.length ≤ 140737488355328) :
    Calls Try.prog 13 #[ω1.v, ω2.v] x fun e y => e = .returned (.bool true) ∧ Below x.heap.size x y := by
  obtain ⟨_, A, c, f1, hx⟩ := h1
  obtain ⟨_, B, d, f2, hy⟩ := h2
  rw [f1, f2]
  refine (same_any A B c d L L x (hx x e1) (hy x e2) hn hn).mono ?_
  rintro e y ⟨rfl, hb⟩
  exact ⟨by rw [decide_eq_true rfl], hb⟩
theorem bytes_ne (L : List Rw) : Rw.bytes L ≠ [] := fun h => by
  have := congrArg List.length h
  unfold Rw.bytes at this
  rw [List.length_append, bigB_len] at this
  simp at this
theorem rb_told {w0 x : World} (hb : Below w0.heap.size w0 x) {L : List Rw} {ω1 : OrdC.Out} (h1 : RF L ω1) (e1 : x.heap[ω1.B]? = some ω1.obj) (hL : L.length ≤ 10000) (hf : ∀ r ∈ L, r.fit) :
    Calls Try.prog 19 #[ω1.v] x fun e y => ∃ ω : OrdC.Out, e = .returned ω.v ∧ Below x.heap.size x y ∧ (ω.got = true → w0.heap.size ≤ ω.B ∧ y.heap[ω.B]? = some ω.obj) ∧ BF (Rw.bytes L) ω := by
  obtain ⟨_, A, c, f1, hx⟩ := h1
  rw [f1]
  refine (rbytes_any A c L x (hx x e1) hL hf).mono ?_
  rintro e y ⟨v, rfl, hr, hb2⟩
  obtain ⟨ω, h1, h2, h3⟩ := brow_out hr (bytes_ne L)
  exact ⟨ω, by rw [h1], hb2, fun _ => ⟨Nat.le_trans hb.size h2.1, h2.2⟩, h3⟩
theorem conv_told {x : World} {l : List UInt8} {ω1 : OrdC.Out} (h1 : BF l ω1) (e1 : x.heap[ω1.B]? = some ω1.obj) : (convert 46 9 ω1.v).run Try.prog x = .ok (.string (bs l)) x := by
  obtain ⟨_, A, c, f1, hx⟩ := h1
  rw [f1]
  exact (hx x e1).text
end Go.Proofs.Ytimheacdaafodaa
