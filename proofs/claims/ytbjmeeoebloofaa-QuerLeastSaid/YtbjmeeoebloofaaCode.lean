/- Bodies: all parts. -/
import Derived.Test.YtbjmeeoebloofaaCode0
import Derived.Test.YtbjmeeoebloofaaCode1
