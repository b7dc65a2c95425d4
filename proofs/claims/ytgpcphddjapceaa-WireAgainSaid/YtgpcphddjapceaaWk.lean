/- What comes in to the wire's statements of reads. -/
import Derived.Test.YtgpcphddjapceaaWg
import Derived.Test.YtgpcphddjapceaaWh
import Derived.Test.YtgpcphddjapceaaWi
import Derived.Test.YtgpcphddjapceaaWj
namespace Go.Proofs.Ytgpcphddjapceaa
open Go.Sy

theorem reads_law (xs : List PV) (h : ShpAll Try.prog 6 Try.f10.params.toList xs) : Fc Try.prog 10 xs [] (.lit (.bool true)) [] := by
  rw [Try.params10] at h
  obtain ⟨x, y, rfl, h1, h2⟩ := shp_args2 h
  obtain ⟨nl, b, rfl, hn, -, hb⟩ := arg_bytes h1
  obtain ⟨n2, l, rfl, -, hl⟩ := arg_reads h2
  exact reads_fn nl n2 b l hn hb hl
theorem stops_law (xs : List PV) (h : ShpAll Try.prog 6 Try.f11.params.toList xs) : Fc Try.prog 11 xs [] (.lit (.bool true)) [] := by
  rw [Try.params11] at h
  obtain ⟨x, y, z, rfl, h1, h2, h3⟩ := shp_args3 h
  obtain ⟨nl, b, rfl, hn, -, hb⟩ := arg_bytes h1
  obtain ⟨n2, l, rfl, -, hl⟩ := arg_reads h2
  obtain ⟨n3, m, rfl, -, hm⟩ := arg_reads h3
  exact stops_fn nl n2 n3 b l m hn hb hl hm
theorem again_law (xs : List PV) (h : ShpAll Try.prog 6 Try.f13.params.toList xs) : Fc Try.prog 13 xs [] (.lit (.bool true)) [] := by
  rw [Try.params13] at h
  obtain ⟨x, y, z, rfl, h1, h2, h3⟩ := shp_args3 h
  obtain ⟨nl, b, rfl, hn, -, hb⟩ := arg_bytes h1
  obtain ⟨n2, c, rfl, -, -, hc⟩ := arg_bytes h2
  obtain ⟨n, rfl, hr⟩ := arg_int Try.underlying3 h3
  have := wf_i64 hr
  exact again_fn nl n2 b c n hn hb hc (by omega) (by omega)
end Go.Proofs.Ytgpcphddjapceaa
