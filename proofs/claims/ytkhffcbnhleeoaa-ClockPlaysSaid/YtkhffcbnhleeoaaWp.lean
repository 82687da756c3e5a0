/-
  All that is written out.
-/
import Derived.Test.YtkhffcbnhleeoaaW0
import Derived.Test.YtkhffcbnhleeoaaW1
